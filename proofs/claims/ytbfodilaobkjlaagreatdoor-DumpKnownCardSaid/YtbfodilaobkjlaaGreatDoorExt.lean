/- The contracts that the machine takes, and their proof. Written by a program (ext.py). -/
import Derived.Test.YtbfodilaobkjlaaGreatDoorCrc
import Derived.Test.YtbfodilaobkjlaaGreatDoorFk
import Derived.Test.YtbfodilaobkjlaaGreatDoorTk
import Derived.Test.YtbfodilaobkjlaaGreatDoorAm40
namespace Go.Proofs.YtbfodilaobkjlaaGreatDoor
open Go Go.AM Go.Proofs
set_option maxRecDepth 100000

theorem tt_keys : KeysOK Tryz.prog tt := keysOK_of tt_ok (by kernel_rfl)
theorem mixed : Tryz.prog.follows .mixedOrders = true := by kernel_rfl

theorem n133 : (Tryz.f133.name == "runtime.NumGoroutine") = false := by kernel_rfl
theorem b133 : Tryz.f133.body.isNone = true := by kernel_rfl
theorem x133 : Extern.findNext Tryz.f133 = none := by kernel_rfl
theorem e133 : Extern.find Tryz.f133 = some Extern.BytealgCompare.compare := by kernel_rfl
theorem xf133 : XF Tryz.prog 133 extCompare := xf_compare Tryz.func133 n133 b133 x133 e133
noncomputable def xs0 : Tr (List Value → AS → Option (Value × AS)) := Tr.set .leaf 133 extCompare
theorem xs0_ok : XOK Tryz.prog (Tr.get xs0) := by
  unfold xs0
  exact xok_set xok_leaf xf133
theorem n174 : (Tryz.f174.name == "runtime.NumGoroutine") = false := by kernel_rfl
theorem b174 : Tryz.f174.body.isNone = true := by kernel_rfl
theorem x174 : Extern.findNext Tryz.f174 = none := by kernel_rfl
theorem e174 : Extern.find Tryz.f174 = some Extern.BytealgCompare.compare := by kernel_rfl
theorem xf174 : XF Tryz.prog 174 extCmpStr := xf_cmpStr Tryz.func174 n174 b174 x174 e174
noncomputable def xs1 : Tr (List Value → AS → Option (Value × AS)) := Tr.set xs0 174 extCmpStr
theorem xs1_ok : XOK Tryz.prog (Tr.get xs1) := by
  unfold xs1
  exact xok_set xs0_ok xf174
theorem n197 : (Tryz.f197.name == "runtime.NumGoroutine") = false := by kernel_rfl
theorem b197 : Tryz.f197.body.isNone = true := by kernel_rfl
theorem x197 : Extern.findNext Tryz.f197 = none := by kernel_rfl
theorem e197 : Extern.find Tryz.f197 = some Extern.MathFloatBits.float64bits := by kernel_rfl
theorem xf197 : XF Tryz.prog 197 extBits := xf_bits Tryz.func197 n197 b197 x197 e197
noncomputable def xs2 : Tr (List Value → AS → Option (Value × AS)) := Tr.set xs1 197 extBits
theorem xs2_ok : XOK Tryz.prog (Tr.get xs2) := by
  unfold xs2
  exact xok_set xs1_ok xf197

theorem xfmore : XF Tryz.prog 82 extMore := xf_call fun args S v S' h => by
  obtain ⟨k, hk⟩ := more_runs (X := Tr.get xs2) h
  exact ⟨_, (callA_ok tt_ok tt_keys xs2_ok mixed ft_ok k).1, hk k (Nat.le_refl k) k (Nat.le_refl k)⟩
noncomputable def xt : Tr (List Value → AS → Option (Value × AS)) := Tr.set xs2 82 extMore
theorem xt_ok : XOK Tryz.prog (Tr.get xt) := by
  unfold xt
  exact xok_set xs2_ok xfmore

theorem call_ok (fuel n : Nat) : CallOK Tryz.prog (callA tt (Tr.get xt) ft fuel n false) := (callA_ok tt_ok tt_keys xt_ok mixed ft_ok n).1
end Go.Proofs.YtbfodilaobkjlaaGreatDoor
