/- The abstract machine: calls, all of them. -/
import Derived.Test.YtbfodilaobkjlaaGreatDoorAm33
namespace Go.AM

section
variable {P : Program} {T : Tr TI} {X : Exts} {F : Tr FT} {fuel : Nat}
variable (hT : ∀ t ti, T.get t = some ti → TypeOK P t ti) (hK : KeysOK P T) (hX : XOK P X) (hM : P.follows .mixedOrders = true) (hF : FOK P F)
include hT hK hX hM hF

theorem callA_ok : ∀ n, CallOK P (callA T X F fuel n false) ∧ DCallOK P (callA T X F fuel n true) := by
  intro n
  induction n with
  | zero => exact ⟨(fun f args S e h => by cases h), (fun f args S e h => by cases h)⟩
  | succ n ih =>
    obtain ⟨ihC, ihD⟩ := ih
    constructor
    · intro f args S e h ρ w cargs hR hv
      have e0 : callA T X F fuel (n + 1) false f args S = match F.get f with
        | none => none
        | some ft => match ft.fn.body with
          | none => none
          | some c => match code T X (callA T X F fuel n false) ft.plans fuel c ⟨argTmps args 0 .leaf, []⟩ S with
            | some (.mk (.pan v) a S) => match noDefs a.defers, false with
              | true, false => some (.pan v S)
              | _, _ => none
            | some (.mk (.exit _) _ _) => none
            | some (.mk _ a S) => match runDefers (callA T X F fuel n true) a.defers S with
              | none => none
              | some S => match resultsA T a.tmps S ft.fn.results.toList with
                | some vs => some (.ret (oneV vs) S)
                | none => none
            | none => none := rfl
      rw [e0] at h
      cases hft : F.get f with
      | none => rw [hft] at h; cases h
      | some ft =>
        rw [hft] at h
        simp only at h
        obtain ⟨f1, f2, f3⟩ := hF f ft hft
        cases hb : ft.fn.body with
        | none => rw [hb] at h; cases h
        | some c =>
          rw [hb] at h
          simp only at h
          refine ⟨run_callFunc f1 f2 hb cargs w, ?_⟩
          refine calls_of_wp_defers f1 hb ?_
          cases hcd : code T X (callA T X F fuel n false) ft.plans fuel c ⟨argTmps args 0 .leaf, []⟩ S with
          | none => rw [hcd] at h; cases h
          | some r =>
            obtain ⟨e1, a1, S1⟩ := r
            rw [hcd] at h
            refine code_ok hT hK hX ihC hM (start_size cargs ft.fn.ntmps) fuel c _ S e1 a1 S1 hcd (f3 c hb) ρ w _ _ hR (Ext.refl ρ S w) (actRel_start hv ft.fn.ntmps) ?_
            rintro e' ca' w' ⟨ρ', g1, g2, g3⟩
            have fin : ∀ S2 vs, runDefers (callA T X F fuel n true) a1.defers S1 = some S2 → resultsA T a1.tmps S2 ft.fn.results.toList = some vs → e = .ret (oneV vs) S2 → ActRel ρ' (cargs ++ Array.replicate (ft.fn.ntmps - cargs.size) Go.undef).size a1 ca' →
                Leaves P ft.fn ca'.tmps (EndRel ρ S w e) ca'.defers .returning w' := by
              intro S2 vs h1 h2 h3 hA
              refine leaves_ok ihD a1.defers S1 ρ' w' ca'.defers h1 hA.defs g1 fun ρ2 w2 j1 j2 => ?_
              obtain ⟨cv, k1, k2⟩ := results_ok hT j1 (hA.mono j2.le) h2
              subst h3
              exact ⟨cv, k1, cv, ρ2, rfl, j1, g2.trans j2, k2⟩
            cases e1 with
            | exit id => cases h
            | normal =>
              obtain ⟨rfl, hA⟩ := g3
              simp only at h
              split at h
              · cases h
              · rename_i S2 h1
                split at h
                · rename_i vs h2; cases h; exact fin S2 vs h1 h2 rfl hA
                · cases h
            | ret =>
              obtain ⟨rfl, hA⟩ := g3
              simp only at h
              split at h
              · cases h
              · rename_i S2 h1
                split at h
                · rename_i vs h2; cases h; exact fin S2 vs h1 h2 rfl hA
                · cases h
            | pan v =>
              obtain ⟨cv, rfl, k1, k2⟩ := g3
              simp only at h
              cases hnd : a1.defers with
              | cons d ds => rw [hnd] at h; cases h
              | nil =>
                rw [hnd] at h k2
                cases h
                generalize hcd : ca'.defers = cds at k2
                cases k2
                show Leaves P ft.fn ca'.tmps _ ca'.defers _ w'
                rw [hcd]
                exact ⟨cv, ρ', rfl, g1, g2, k1⟩
    · intro f args S e h ρ w cargs hR hv
      have e0 : callA T X F fuel (n + 1) true f args S = match F.get f with
        | none => none
        | some ft => match ft.fn.body with
          | none => none
          | some c => match codeD T X (callA T X F fuel n false) ft.plans fuel fuel c ⟨argTmps args 0 .leaf, []⟩ S with
            | some (.mk (.pan v) a S) => match noDefs a.defers, true with
              | true, false => some (.pan v S)
              | _, _ => none
            | some (.mk (.exit _) _ _) => none
            | some (.mk _ a S) => match (match noDefs a.defers with | true => some S | false => none) with
              | none => none
              | some S => match resultsA T a.tmps S ft.fn.results.toList with
                | some vs => some (.ret (oneV vs) S)
                | none => none
            | none => none := rfl
      rw [e0] at h
      cases hft : F.get f with
      | none => rw [hft] at h; cases h
      | some ft =>
        rw [hft] at h
        simp only at h
        obtain ⟨f1, f2, f3⟩ := hF f ft hft
        cases hb : ft.fn.body with
        | none => rw [hb] at h; cases h
        | some c =>
          rw [hb] at h
          simp only at h
          refine ⟨run_callFunc f1 f2 hb cargs w, ?_⟩
          refine callsD_of_wpS f1 hb fun c₀ cs hm => ?_
          have hrec : recoverD (c₀ :: cs) = none := by unfold recoverD; simp only [hm]
          have hc₀ : ({ c₀ with mode := .returning } : Frame) = c₀ := by rw [← hm]
          cases hcd : codeD T X (callA T X F fuel n false) ft.plans fuel fuel c ⟨argTmps args 0 .leaf, []⟩ S with
          | none => rw [hcd] at h; cases h
          | some r =>
            obtain ⟨e1, a1, S1⟩ := r
            rw [hcd] at h
            refine codeD_ok hT hK hX ihC hM (start_size cargs ft.fn.ntmps) hrec fuel c _ S e1 a1 S1 hcd (f3 c hb) ρ w _ _ hR (Ext.refl ρ S w) (actRel_start hv ft.fn.ntmps) ?_
            rintro e' ca' w' ⟨ρ', g1, g2, g3⟩
            have fin : ∀ vs, a1.defers = [] → resultsA T a1.tmps S1 ft.fn.results.toList = some vs → e = .ret (oneV vs) S1 → ActRel ρ' (cargs ++ Array.replicate (ft.fn.ntmps - cargs.size) Go.undef).size a1 ca' →
                ca'.defers = [] ∧ ∃ u', c₀ :: cs = { c₀ with mode := u' } :: cs ∧ ∃ v, (results ft.fn ca'.tmps).run P w' = .ok v w' ∧ (u' = .returning ∧ EndRel ρ S w e (.returned v) w') := by
              intro vs h1 h2 h3 hA
              have hd := hA.defs
              rw [h1] at hd
              obtain ⟨cv, k1, k2⟩ := results_ok hT g1 hA h2
              subst h3
              refine ⟨?_, .returning, by rw [hc₀], cv, k1, rfl, cv, ρ', rfl, g1, g2, k2⟩
              generalize ca'.defers = cds at hd
              cases hd; rfl
            have fin2 : ∀ x : AS, (match noDefs a1.defers with | true => some S1 | false => none) = some x → a1.defers = [] ∧ x = S1 := by
              intro x hx
              cases hnd : a1.defers with
              | nil => rw [hnd] at hx; cases hx; exact ⟨rfl, rfl⟩
              | cons d ds => rw [hnd] at hx; cases hx
            cases e1 with
            | exit id => cases h
            | normal =>
              obtain ⟨rfl, hA⟩ := g3
              simp only at h
              split at h
              · cases h
              · rename_i S2 h1
                obtain ⟨hd0, rfl⟩ := fin2 _ h1
                split at h
                · rename_i vs h2; cases h; exact fin vs hd0 h2 rfl hA
                · cases h
            | ret =>
              obtain ⟨rfl, hA⟩ := g3
              simp only at h
              split at h
              · cases h
              · rename_i S2 h1
                obtain ⟨hd0, rfl⟩ := fin2 _ h1
                split at h
                · rename_i vs h2; cases h; exact fin vs hd0 h2 rfl hA
                · cases h
            | pan v =>
              exfalso
              have h2 : (match noDefs a1.defers, true with | true, false => some (AEnd.pan v S1) | _, _ => none) = some e := h
              cases hnd : noDefs a1.defers <;> rw [hnd] at h2 <;> cases h2
end
end Go.AM
