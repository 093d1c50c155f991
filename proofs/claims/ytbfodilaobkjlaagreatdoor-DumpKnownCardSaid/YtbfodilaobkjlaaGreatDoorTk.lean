/- The tables are right: the types. -/
import Derived.Test.YtbfodilaobkjlaaGreatDoorTab
import Derived.Test.YtbfodilaobkjlaaGreatDoorAm34
import Derived.KernelRfl
namespace Go.Proofs.YtbfodilaobkjlaaGreatDoor
open Go Go.AM Go.Proofs
theorem tt_chk : Tr.all (fun t ti => chkTI Tryz.prog t ti) id tt = true := by kernel_rfl
theorem tt_ok (t : Nat) (ti : TI) (h : tt.get t = some ti) : TypeOK Tryz.prog t ti := typeOK_of_chk (Tr.all_get tt id t ti tt_chk h)
end Go.Proofs.YtbfodilaobkjlaaGreatDoor
