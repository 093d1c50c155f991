/- The abstract machine: the table of functions, checked entry by entry. -/
import Derived.Test.YtbfodilaobkjlaaGreatDoorAm34
namespace Go.AM

def Tr.AllP {α : Type} (p : Nat → α → Prop) : (Nat → Nat) → Tr α → Prop
  | _, .leaf => True
  | g, .node l v r => (match v with | some a => p (g 0) a | none => True) ∧ Tr.AllP p (fun m => g (2 * m + 1)) l ∧ Tr.AllP p (fun m => g (2 * m + 2)) r

theorem Tr.allP_get {α : Type} {p : Nat → α → Prop} : ∀ (t : Tr α) (g : Nat → Nat) (n : Nat) (a : α), Tr.AllP p g t → t.get n = some a → p (g n) a := by
  intro t
  induction t with
  | leaf => intro g n a _ h; cases h
  | node l v r ihl ihr =>
    intro g n a h hn
    obtain ⟨h1, h2, h3⟩ := h
    cases n with
    | zero => rw [Tr.get_zero] at hn; subst hn; exact h1
    | succ m =>
      rcases Nat.mod_two_eq_zero_or_one m with he | he
      · rw [Tr.get_even _ _ _ _ he] at hn
        have := ihl _ _ _ h2 hn
        rwa [show 2 * (m / 2) + 1 = m + 1 from by omega] at this
      · rw [Tr.get_odd _ _ _ _ he] at hn
        have := ihr _ _ _ h3 hn
        rwa [show 2 * (m / 2) + 2 = m + 1 from by omega] at this

/-- What is reckoned of an entry. -/
noncomputable def ftChk (_ : Nat) (ft : FT) : Bool :=
  !(ft.fn.name == "runtime.NumGoroutine") && match ft.fn.body with | none => true | some c => codeChk ft.fn.ntmps ft.plans 300 c

theorem fok_of {P : Program} {F : Tr FT} (h1 : Tr.AllP (fun f ft => P.funcs[f]? = some ft.fn) id F) (h2 : Tr.all ftChk id F = true) : FOK P F := by
  intro f ft h
  have a := Tr.allP_get F id f ft h1 h
  have b := Tr.all_get F id f ft h2 h
  unfold ftChk at b
  simp only [Bool.and_eq_true, Bool.not_eq_true'] at b
  refine ⟨a, b.1, fun c hc => ?_⟩
  have b2 := b.2
  rw [hc] at b2
  exact ⟨_, b2⟩
end Go.AM
