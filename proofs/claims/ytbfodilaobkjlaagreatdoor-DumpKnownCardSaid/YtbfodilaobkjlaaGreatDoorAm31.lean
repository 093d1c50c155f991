/- The abstract machine: results; calls. -/
import Derived.Test.YtbfodilaobkjlaaGreatDoorAm30
namespace Go.AM

theorem argTmps_get : ∀ (args : List Value) (i : Nat) (t : Tr Value) (d : Nat), (argTmps args i t).get d = if i ≤ d ∧ d < i + args.length then args[d - i]? else t.get d := by
  intro args
  induction args with
  | nil => intro i t d; show t.get d = _; rw [if_neg (by simp)]
  | cons v args ih =>
    intro i t d
    show (argTmps args (Nat.succ i) (t.set i v)).get d = _
    rw [ih, Tr.get_set_if]
    simp only [List.length_cons]
    by_cases h : d = i
    · subst h
      rw [if_neg (by omega), if_pos rfl, if_pos (by omega)]
      simp
    · by_cases h2 : Nat.succ i ≤ d ∧ d < Nat.succ i + args.length
      · rw [if_pos h2, if_pos (by omega)]
        have : d - i = (d - Nat.succ i) + 1 := by omega
        rw [this, List.getElem?_cons_succ]
      · rw [if_neg h2, if_neg h, if_neg (by omega)]

/-- A call's frame, at its start. -/
theorem actRel_start {ρ : Rho} {args : List Value} {cargs : Array Value} (h : VsRel ρ args cargs.toList) (n : Nat) :
    ActRel ρ (cargs ++ Array.replicate (n - cargs.size) Go.undef).size ⟨argTmps args 0 .leaf, []⟩ { tmps := cargs ++ Array.replicate (n - cargs.size) Go.undef, defers := [] } := by
  have hlen : args.length = cargs.size := by rw [h.1]; simp
  have key : ∀ d v, (argTmps args 0 .leaf).get d = some v → ∃ u, cargs[d]? = some u ∧ VRel ρ v u := by
    intro d v hv
    rw [argTmps_get] at hv
    by_cases hd : 0 ≤ d ∧ d < 0 + args.length
    · rw [if_pos hd] at hv
      obtain ⟨u, hu, hr⟩ := h.get hv
      exact ⟨u, by simpa using hu, hr⟩
    · rw [if_neg hd, Tr.get_leaf] at hv; cases hv
  refine ⟨rfl, ?_, ?_, .nil⟩
  · intro d v hv
    obtain ⟨u, hu, _⟩ := key d v hv
    have := (Array.getElem?_eq_some_iff.1 hu).1
    simp; omega
  · intro d v hv
    obtain ⟨u, hu, hr⟩ := key d v hv
    have hlt := (Array.getElem?_eq_some_iff.1 hu).1
    rw [Array.getD_eq_getD_getElem?, Array.getElem?_append_left hlt, hu]
    exact hr

theorem start_size (cargs : Array Value) (n : Nat) : n ≤ (cargs ++ Array.replicate (n - cargs.size) Go.undef).size := by simp; omega
end Go.AM
