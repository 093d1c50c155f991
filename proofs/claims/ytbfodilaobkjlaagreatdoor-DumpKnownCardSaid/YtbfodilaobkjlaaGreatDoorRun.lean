/- DumpKnown's call, run by the kernel. -/
import Derived.Test.YtbfodilaobkjlaaGreatDoorExt
namespace Go.Proofs.YtbfodilaobkjlaaGreatDoor
open Go Go.AM Go.Proofs
theorem run_known : isTrue (callA tt (Tr.get xt) ft 100000 1000 false 5 [] (AS.empty 0)) = true := by kernel_rfl
end Go.Proofs.YtbfodilaobkjlaaGreatDoor
