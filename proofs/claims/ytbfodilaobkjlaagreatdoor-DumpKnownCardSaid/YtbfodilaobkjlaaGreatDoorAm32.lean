/- The abstract machine: what a call answers. -/
import Derived.Test.YtbfodilaobkjlaaGreatDoorAm31
namespace Go.AM

noncomputable def resOne (T : Tr TI) (tm : Tr Value) (S : AS) (r : ResultVar) : Option Value :=
  match r with
        | .tmp t => tm.get t
        | .cell x t => match tm.get x, T.get t with
          | some (.pointer (some a)), some ti => match ti.agg with
            | true => match loadN S a ti.size with | some cs => some (mkAgg cs) | none => none
            | false => match loadN S a 1 with | some [v] => some v | _ => none
          | _, _ => none

theorem resultsA_cons (T : Tr TI) (tm : Tr Value) (S : AS) (r : ResultVar) (rs : List ResultVar) : resultsA T tm S (r :: rs) = match resOne T tm S r with
      | some v => match resultsA T tm S rs with | some vs => some (v :: vs) | none => none
      | none => none := by cases r <;> rfl

section
variable {P : Program} {T : Tr TI}
variable (hT : ∀ t ti, T.get t = some ti → TypeOK P t ti)
include hT

theorem resOne_ok {ρ : Rho} {S : AS} {w : World} {N : Nat} {a : AAct} {ca : Act} (hR : Rel ρ S w) (hA : ActRel ρ N a ca) {r : ResultVar} {v : Value} (h : resOne T a.tmps S r = some v) :
    ∃ cv, (match r with
      | .tmp t => pure (ca.tmps.getD t Go.undef)
      | .cell x t => do loadVar t (← asAddr (ca.tmps.getD x Go.undef)) : Sem Value).run P w = .ok cv w ∧ VRel ρ v cv := by
  unfold resOne at h
  cases r with
  | tmp t => exact ⟨_, rfl, hA.tm t v h⟩
  | cell x t =>
    simp only at h ⊢
    split at h
    · rename_i ad ti hx hti
      have hto := hT t ti hti
      have hp := hA.tm x _ hx
      generalize ca.tmps.getD x Go.undef = cx at hp
      cases hp with
      | same hc => simp [constOK] at hc
      | @ptr b oo r hb =>
        split at h
        · rename_i hag
          split at h
          · rename_i cs hl
            cases h
            obtain ⟨l', g1, g2, g3, g4, _⟩ := loadN_run hR hb hl
            refine ⟨.agg l'.toArray, ?_, .agg g1.1 g1.2 g2⟩
            have e1 := hto.run_agg w
            rw [hag] at e1
            have e2 := hto.run_size w
            have e3 := g4 P
            simp only [RI.at] at e3
            simp [asAddr, loadVar, e1, e2, e3]
          · cases h
        · rename_i hag
          split at h
          · rename_i u hl
            cases h
            obtain ⟨l', g1, g2, g3, _, g4⟩ := loadN_rel hR hb hl
            obtain ⟨u', l2, rfl, hu, hl3⟩ := g1.cons_inv
            obtain rfl := hl3.nil_inv
            refine ⟨u', ?_, hu⟩
            have e1 := hto.run_agg w
            rw [hag] at e1
            have e3 := g4 0 u' rfl
            simp only [Nat.add_zero, RI.at] at e3
            simp [asAddr, loadVar, e1, e3]
          · cases h
    · cases h

theorem resMap_ok {ρ : Rho} {S : AS} {w : World} {N : Nat} {a : AAct} {ca : Act} (hR : Rel ρ S w) (hA : ActRel ρ N a ca) : ∀ (rs : List ResultVar) (vs : List Value), resultsA T a.tmps S rs = some vs →
    ∃ cvs, (rs.mapM fun
      | .tmp t => pure (ca.tmps.getD t Go.undef)
      | .cell x t => do loadVar t (← asAddr (ca.tmps.getD x Go.undef)) : Sem (List Value)).run P w = .ok cvs w ∧ VsRel ρ vs cvs := by
  intro rs
  induction rs with
  | nil => intro vs h; cases h; exact ⟨[], rfl, VsRel.nil⟩
  | cons r rs ih =>
    intro vs h
    rw [resultsA_cons] at h
    cases h1 : resOne T a.tmps S r with
    | none => rw [h1] at h; cases h
    | some v =>
      rw [h1] at h
      simp only at h
      cases h2 : resultsA T a.tmps S rs with
      | none => rw [h2] at h; cases h
      | some us =>
        rw [h2] at h
        cases h
        obtain ⟨cv, g1, g2⟩ := resOne_ok hT hR hA h1
        obtain ⟨cvs, g3, g4⟩ := ih us h2
        refine ⟨cv :: cvs, ?_, VsRel.cons g2 g4⟩
        rw [List.mapM_cons, Sem.run_bind]
        have g1' : (((fun
          | .tmp t => pure (ca.tmps.getD t Go.undef)
          | .cell x t => do loadVar t (← asAddr (ca.tmps.getD x Go.undef))) : ResultVar → Sem Value) r).run P w = .ok cv w := g1
        rw [g1', Result.andThen_ok, Sem.run_bind, g3]
        rfl

theorem results_ok {ρ : Rho} {S : AS} {w : World} {N : Nat} {a : AAct} {ca : Act} (hR : Rel ρ S w) (hA : ActRel ρ N a ca) {fn : Func} {vs : List Value} (h : resultsA T a.tmps S fn.results.toList = some vs) :
    ∃ cv, (results fn ca.tmps).run P w = .ok cv w ∧ VRel ρ (oneV vs) cv := by
  obtain ⟨cvs, g1, g2⟩ := resMap_ok hT hR hA _ _ h
  have hm : (fn.results.mapM fun
      | .tmp t => pure (ca.tmps.getD t Go.undef)
      | .cell x t => do loadVar t (← asAddr (ca.tmps.getD x Go.undef)) : Sem (Array Value)).run P w = .ok ⟨cvs⟩ w := by
    rw [show fn.results = fn.results.toList.toArray from rfl, List.mapM_toArray, Sem.run_map]
    rw [g1]
    rfl
  unfold results
  rw [Sem.run_bind]
  refine ⟨if h : cvs.length = 1 then cvs[0] else .tuple ⟨cvs⟩, ?_, ?_⟩
  · exact (congrArg (fun x => Result.andThen x _) hm).trans rfl
  · have hl := g2.1
    by_cases h1 : cvs.length = 1
    · rw [dif_pos h1]
      cases cvs with
      | nil => simp at h1
      | cons u cvs =>
        obtain rfl : cvs = [] := List.eq_nil_of_length_eq_zero (by simpa using h1)
        cases vs with
        | nil => simp at hl
        | cons v vs =>
          obtain rfl : vs = [] := List.eq_nil_of_length_eq_zero (by simpa using hl)
          exact g2.2 0 v u rfl rfl
    · rw [dif_neg h1]
      have ho : oneV vs = .tuple ⟨vs⟩ := by
        match vs, hl with
        | [], _ => rfl
        | [v], hl => exact absurd hl.symm h1
        | _ :: _ :: _, _ => rfl
      rw [ho]
      exact .tuple g2.1 g2.2
end
end Go.AM
