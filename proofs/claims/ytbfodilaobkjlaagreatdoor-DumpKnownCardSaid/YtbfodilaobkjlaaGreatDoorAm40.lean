/- The abstract machine: tables of contracts, entry by entry; what a call of the whole machine says. -/
import Derived.Test.YtbfodilaobkjlaaGreatDoorAm39
namespace Go.AM

theorem xok_leaf {P : Program} : XOK P (Tr.get .leaf) := fun f g h => by cases h
theorem xok_set {P : Program} {x : Tr (List Value → AS → Option (Value × AS))} {n : Nat} {g : List Value → AS → Option (Value × AS)} (h : XOK P (Tr.get x)) (hg : XF P n g) : XOK P (Tr.get (x.set n g)) := by
  intro f g' hf
  rw [Tr.get_set_if] at hf
  split at hf
  · rename_i hn
    cases hf
    subst hn
    exact hg
  · exact h f g' hf

noncomputable section
def isTrue (r : Option AEnd) : Bool := match r with | some (.ret (.bool b) _) => b | _ => false
end

theorem isTrue_of {r : Option AEnd} (h : isTrue r = true) : ∃ S, r = some (.ret (.bool true) S) := by
  unfold isTrue at h
  split at h
  · rename_i b S
    subst h
    exact ⟨S, rfl⟩
  · cases h

theorem vsRel_nil {ρ : Rho} {cargs : Array Value} (h : cargs = #[]) : VsRel ρ [] cargs.toList := by
  subst h; exact VsRel.nil

theorem rel_empty (w : World) : Rel (fun _ => none) (AS.empty 0) w := by
  refine ⟨?_, ?_, ?_, ?_, ?_, ?_⟩
  · intro b O h; cases h
  · intro b B h; cases h
  · intro f p h; cases h
  · intro b r h; cases h
  · intro b1 b2 r1 r2 h; cases h
  · intro b1 b2 r1 r2 B1 h; cases h

/-- A call without arguments that the machine answers with true. -/
theorem calls_true {P : Program} {call : CallF} (hC : CallOK P call) {f : Nat} (h : isTrue (call f [] (AS.empty 0)) = true) (w : World) :
    Calls P f #[] w fun e w' => e = .returned (.bool true) ∧ w.heap.size ≤ w'.heap.size ∧ (∀ k, k < w.heap.size → w'.heap[k]? = w.heap[k]?) ∧ w'.os = w.os ∧ w'.tape = w.tape ∧ w'.output = w.output := by
  obtain ⟨S, hS⟩ := isTrue_of h
  refine Calls.mono (hC f [] _ _ hS (fun _ => none) w #[] (rel_empty w) VsRel.nil).2 fun e w' he => ?_
  obtain ⟨cv, ρ', rfl, g1, g2, g3⟩ := he
  obtain rfl := g3.bool_inv
  exact ⟨rfl, g2.size, fun k hk => g2.frame k hk (fun b r hb => by cases hb), g2.os, g2.tape, g2.output⟩
end Go.AM
