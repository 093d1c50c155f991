/- The abstract machine's light operations are the model's: the second group. -/
import Derived.Test.YtbfodilaobkjlaaGreatDoorAm11
namespace Go.AM

section
variable {P : Program} {T : Tr TI} {tm : Tr Value} {S S' : AS} {o : Oper} {v : Value}

theorem lNilCheck_ok {x : Operand} (ho : o.op = .nilCheck x) (h : lNilCheck tm S x = some (v, S')) : LightOK P T tm o S S' v := by
  unfold lNilCheck at h
  split at h <;> first | (cases h; done) | skip
  all_goals
    rename_i hx
    cases h
    refine .inl ⟨rfl, fun ρ S2 w E _ _ hop => ?_⟩
    obtain ⟨cx, hcx, hp⟩ := hop.at (x := x) (by rw [ho]; simp [Op.operands]) hx
    refine ⟨cx, ?_, hp⟩
  · cases hp with
    | same hc => simp [constOK] at hc
    | ptr hb => simp [execOp, ho, hcx]
  · cases hp with
    | same hc => simp [constOK] at hc
    | func a b c d => simp [execOp, ho, hcx]
  · cases hp with
    | same hc => simp [execOp, ho, hcx]
    | slice a b c d e => simp [execOp, ho, hcx]
    | slice0 a b => simp [execOp, ho, hcx]
  · cases hp with
    | same hc => simp [execOp, ho, hcx]
    | map a => simp [execOp, ho, hcx]

theorem evs_rel {ρ : Rho} {E : Operand → Value} : ∀ {l : List Operand} {vs : List Value}, evs tm l = some vs → (∀ x ∈ l, ∀ v, ev tm x = some v → VRel ρ v (E x)) → VsRel ρ vs (l.map E) := by
  intro l
  induction l with
  | nil => intro vs h _; cases h; exact VsRel.nil
  | cons x l ih =>
    intro vs h hop
    have e : evs tm (x :: l) = match ev tm x with
      | some v => match evs tm l with | some vs => some (v :: vs) | none => none
      | none => none := rfl
    rw [e] at h
    cases hx : ev tm x with
    | none => rw [hx] at h; cases h
    | some u =>
      rw [hx] at h
      cases hl : evs tm l with
      | none => rw [hl] at h; cases h
      | some us =>
        rw [hl] at h
        cases h
        exact VsRel.cons (hop x (by simp) u hx) (ih hl fun y hy => hop y (by simp [hy]))

theorem lMakeFunc_ok {fn : Fn} {a b : Array Operand} (ho : o.op = .makeFunc fn a b) (h : lMakeFunc tm S fn a b = some (v, S')) : LightOK P T tm o S S' v := by
  unfold lMakeFunc at h
  split at h
  · rename_i us vs hu hv
    cases h
    refine .inl ⟨rfl, fun ρ S2 w E _ _ hop => ?_⟩
    have h1 := evs_rel (E := E) hu fun x hx => hop x (by rw [ho]; simp [Op.operands]; exact .inl (by simpa using hx))
    have h2 := evs_rel (E := E) hv fun x hx => hop x (by rw [ho]; simp [Op.operands]; exact .inr (by simpa using hx))
    refine ⟨.func fn ⟨a.toList.map E⟩ ⟨b.toList.map E⟩, ?_, .func h1.1 h2.1 h1.2 h2.2⟩
    have e1 : a.map E = ⟨a.toList.map E⟩ := by apply Array.ext'; simp
    have e2 : b.map E = ⟨b.toList.map E⟩ := by apply Array.ext'; simp
    simp [execOp, ho, Instr.makeFunc, e1, e2]
  · cases h

theorem lMakeMap_ok {t : TypeId} (ho : o.op = .makeMap t none) (h : lMakeMap S = some (v, S')) : LightOK P T tm o S S' v := by
  unfold lMakeMap at h
  rw [newObj_eq] at h
  cases h
  refine .inr ⟨_, rfl, trivial, fun ρ S2 w E hR _ hget hnone _ => ?_⟩
  refine ⟨.map #[] 0, { cb := w.heap.size, base := 0, ext := 0, esz := 0, csz := 0, fam := S.next, opn := false }, w, .map (some w.heap.size), rfl, rfl, rfl, rfl, ?_, rfl, rfl, ?_, ?_⟩
  · simp [execOp, ho, Instr.makeMap]
  · exact ⟨rfl, #[], 0, alloc_get_new _ _, rfl, fun i p e h => by simp at h⟩
  · exact .map (r := { cb := w.heap.size, base := 0, ext := 0, esz := 0, csz := 0, fam := S.next, opn := false }) (Rho.put_same _ _ _)

theorem lExtract_ok {x : Operand} {i : Nat} (ho : o.op = .extract x i) (h : lExtract tm S x i = some (v, S')) : LightOK P T tm o S S' v := by
  unfold lExtract at h
  split at h
  · rename_i a hx
    split at h
    · rename_i u hu
      cases h
      rw [nth_eq] at hu
      refine .inl ⟨rfl, fun ρ S2 w E _ _ hop => ?_⟩
      obtain ⟨cx, hcx, hp⟩ := hop.at (x := x) (by rw [ho]; simp [Op.operands]) hx
      cases hp with
      | same hc => simp [constOK] at hc
      | @tuple l l' hl hh =>
        have hu' : l[i]? = some v := hu
        have hi : i < l'.length := by have := (List.getElem?_eq_some_iff.1 hu').1; omega
        refine ⟨l'[i], ?_, hh i v _ hu' (List.getElem?_eq_getElem hi)⟩
        simp [execOp, ho, hcx, Instr.extract, hi]
    · cases h
  · cases h

theorem lUnOp_ok {op : UnOp} {t : TypeId} {x : Operand} (ho : o.op = .unOp op t x) (h : lUnOp tm S op x = some (v, S')) : LightOK P T tm o S S' v := by
  unfold lUnOp at h
  split at h
  · rename_i u hx
    split at h
    · rename_i u' hu
      cases h
      refine .inl ⟨rfl, fun ρ S2 w E _ _ hop => ?_⟩
      obtain ⟨cx, hcx, hp⟩ := hop.at (x := x) (by rw [ho]; simp [Op.operands]) hx
      obtain rfl := uop_rel hu hp
      obtain ⟨k1, k2⟩ := uop_run hu P w
      exact ⟨v, by simp [execOp, ho, hcx, k1], .same k2⟩
    · cases h
  · cases h

variable (hT : ∀ t ti, T.get t = some ti → TypeOK P t ti)
include hT

theorem lBinOp_ok {op : BinOp} {t y2 : TypeId} {x y : Operand} (ho : o.op = .binOp op t x y y2) (h : lBinOp T tm S op t x y = some (v, S')) : LightOK P T tm o S S' v := by
  unfold lBinOp at h
  split at h
  · rename_i hx hy
    unfold retV nilNil at h
    cases hb : (isK x || isK y) with
    | false => simp only [hb] at h; cases h
    | true =>
      simp only [hb] at h
      split at h
      · rename_i ti _ hti
        have hto := hT t ti hti
        have fin : ∀ b, ti.u = .iface → ((op = .eql ∧ b = true) ∨ (op = .neq ∧ b = false)) → LightOK P T tm o S S (.bool b) := by
          intro b hu hob
          obtain ⟨ms, hms⟩ := hto.iface hu
          refine .inl ⟨rfl, fun ρ S2 w E _ _ hop => ?_⟩
          obtain ⟨cx, hcx, hp⟩ := hop.at (x := x) (by rw [ho]; simp [Op.operands]) hx
          obtain ⟨cy, hcy, hq⟩ := hop.at (x := y) (by rw [ho]; simp [Op.operands]) hy
          cases hp
          cases hq
          refine ⟨.bool b, ?_, .bool⟩
          have hg := eqGuard_nil op t x y hb P w
          have he := binOp_eql (run_equal hms .nilIface .nilIface w true rfl) trivial
          simp only [execOp, ho, hcx, hcy]
          show ((do let v ← (do eqGuard op t x y .nilIface .nilIface; binOp op t .nilIface .nilIface : Sem Value); pure (Next.value v) : Sem Next)).run P w = _
          rw [Sem.run_bind, Sem.run_bind, hg, Result.andThen_ok]
          rcases hob with ⟨rfl, rfl⟩ | ⟨rfl, rfl⟩
          · rw [he.1]; rfl
          · rw [he.2]; rfl
        cases hu : ti.u <;> rw [hu] at h <;> first | (cases h; done) | skip
        cases op <;> first | (cases h; done) | skip
        · cases h; exact fin true hu (.inl ⟨rfl, rfl⟩)
        · cases h; exact fin false hu (.inr ⟨rfl, rfl⟩)
      · cases h
  · rename_i a b hne hx hy
    unfold retV at h
    cases hu : bop T op t a b with
    | none => rw [hu] at h; cases h
    | some u =>
      rw [hu] at h
      cases h
      refine .inl ⟨rfl, fun ρ S2 w E _ _ hop => ?_⟩
      obtain ⟨cx, hcx, hp⟩ := hop.at (x := x) (by rw [ho]; simp [Op.operands]) hx
      obtain ⟨cy, hcy, hq⟩ := hop.at (x := y) (by rw [ho]; simp [Op.operands]) hy
      obtain ⟨k1, k2⟩ := bop_run hT hp hq hu x y w
      refine ⟨v, ?_, .same k2⟩
      simp only [execOp, ho, hcx, hcy]
      show ((do let v ← (do eqGuard op t x y cx cy; binOp op t cx cy : Sem Value); pure (Next.value v) : Sem Next)).run P w = _
      rw [Sem.run_bind, k1]
      rfl
  · cases h

theorem lMakeInterface_ok {t : TypeId} {x : Operand} (ho : o.op = .makeInterface t x) (h : lMakeInterface T tm S t x = some (v, S')) : LightOK P T tm o S S' v := by
  unfold lMakeInterface at h
  split at h
  · rename_i u ti hx hti
    have hto := hT t ti hti
    split at h
    · cases h
    · rename_i hne
      cases h
      obtain ⟨d, hd, hnd⟩ := hto.noIface hne
      refine .inl ⟨rfl, fun ρ S2 w E _ _ hop => ?_⟩
      obtain ⟨cx, hcx, hp⟩ := hop.at (x := x) (by rw [ho]; simp [Op.operands]) hx
      refine ⟨.iface t cx, ?_, .iface hp⟩
      simp only [execOp, ho, hcx, Instr.makeInterface, Sem.run_bind, run_underlying hd, Result.andThen_ok]
      cases d <;> first | rfl | (exact absurd rfl (hnd _))
  · cases h

end
end Go.AM
