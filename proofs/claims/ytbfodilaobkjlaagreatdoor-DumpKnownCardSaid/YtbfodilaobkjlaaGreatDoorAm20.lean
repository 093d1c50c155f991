/- The abstract machine's operations that change memory are the model's: maps. -/
import Derived.Test.YtbfodilaobkjlaaGreatDoorAm19
namespace Go.AM

section
variable {P : Program} {T : Tr TI} {tm : Tr Value} {S S' : AS} {o : Oper} {v : Value} {rc : Option Value} {n : ANext}
variable {ρ : Rho} {w : World} {E : Operand → Value}
variable (hT : ∀ t ti, T.get t = some ti → TypeOK P t ti)
include hT

theorem hPut_ok (hK : KeysOK P T) {t : Nat} {m k u : Operand} (ho : o.op = .mapUpdate t m k u ∨ o.op = .insert t m k u) (h : hPut T tm S t m k u = some n) (hR : Rel ρ S w) (hop : Hop ρ tm E o.op) :
    HeavyOK P rc o E ρ S w n := by
  unfold hPut at h
  split at h
  · rename_i rr kv uv ti hm hk hu hti
    have hto := hT t ti hti
    split at h
    · rename_i kt et es hu2 hkey hg
      rw [hu2] at hkey
      simp only at hkey
      split at h
      · rename_i es2 hput
        cases h
        have mem : ∀ x, x = m ∨ x = k ∨ x = u → x ∈ o.op.operands := by
          intro x hx
          rcases ho with ho | ho <;> rw [ho] <;> simp [Op.operands] <;> rcases hx with rfl | rfl | rfl <;> simp
        obtain ⟨cm, hcm, hpm⟩ := hop.at (x := m) (mem _ (.inl rfl)) hm
        obtain ⟨ck, hck, hpk⟩ := hop.at (x := k) (mem _ (.inr (.inl rfl))) hk
        obtain ⟨cu, hcu, hpu⟩ := hop.at (x := u) (mem _ (.inr (.inr rfl))) hu
        have hget : S.heap.get rr = some (.map es) := by
          unfold getMap at hg
          split at hg
          · rename_i es3 hg2; cases hg; exact hg2
          · cases hg
        cases hpm with
        | same hc => simp [constOK] at hc
        | @map _ r hb =>
          obtain ⟨O, hO, hrel⟩ := hR.obj _ _ hb
          rw [hget] at hO; cases hO
          obtain ⟨hf, es', clock, hw, her⟩ := hrel
          have hgo := run_getObj P hw (by simp)
          obtain ⟨d, hd, hchk, hsc⟩ := keyOK_spec hT hK hkey hpk false w
          have hor : es = [] ∨ (ScalarKey d kv ∧ ck = kv) := by
            rcases hsc with hs | ⟨a, rfl⟩
            · exact .inr hs
            · left
              cases es with
              | nil => rfl
              | cons p es =>
                exfalso
                have : putE (.agg a) uv (p :: es) = none := by obtain ⟨x, y⟩ := p; rfl
                rw [this] at hput; cases hput
          have hfind : ∀ res, Instr.findNow d ck es'.toList 0 = some res → (Instr.findKey kt ck es'.toList).run P w = .ok res w := by
            intro res hf
            unfold Instr.findKey
            simp only [Sem.run_bind, run_underlying hd, Result.andThen_ok, hf]
            rfl
          have push : Instr.findNow d ck es'.toList 0 = some none → es2 = es ++ [(kv, uv)] → HeavyOK P rc o E ρ S w (.val U { S with heap := S.heap.set rr (.map es2) }) := by
            intro hf0 he2
            subst he2
            have hrel2 : EsRel ρ (es ++ [(kv, uv)]) (es'.push { key := ck, val := cu, born := clock }).toList := by
              refine ⟨by simp [her.1], fun i p e h1 h2 => ?_⟩
              rw [Array.toList_push] at h2
              by_cases hi : i < es.length
              · rw [List.getElem?_append_left hi] at h1
                rw [List.getElem?_append_left (by have := her.1; omega)] at h2
                exact her.2 i p e h1 h2
              · rw [List.getElem?_append_right (by omega)] at h1
                rw [List.getElem?_append_right (by have := her.1; omega), ← her.1] at h2
                cases hj : i - es.length with
                | zero => rw [hj] at h1 h2; simp at h1 h2; subst h1 h2; exact ⟨hpk, hpu⟩
                | succ j => rw [hj] at h1; simp at h1
            obtain ⟨g1, g2⟩ := rel_setobj hR (X := .map (es'.push { key := ck, val := cu, born := clock }) (clock + 1)) (O' := .map (es ++ [(kv, uv)])) hb hget (by simp) (by simp) hf (by simp [hw]) ⟨hf, _, _, setObj_get_same hw, hrel2⟩
            refine .inr (UponOK.skip ?_ g1 g2)
            have hso := run_setObj P (.map (es'.push { key := ck, val := cu, born := clock }) (clock + 1)) hw (by simp)
            have hrun : (Instr.mapUpdate t (.map (some r.cb)) ck cu).run P w = .ok () (setObj w r.cb (.map (es'.push { key := ck, val := cu, born := clock }) (clock + 1))) := by
              unfold Instr.mapUpdate
              simp only [Sem.run_bind, run_underlying (hto.map hu2), Result.andThen_ok, hgo, hchk, hfind _ hf0]
              exact hso
            rcases ho with ho | ho <;> (simp only [execOp, ho, hcm, hck, hcu, Sem.run_bind, hrun, Result.andThen_ok]; rfl)
          rcases hor with rfl | ⟨hs, rfl⟩
          · have he' : es'.toList = [] := List.eq_nil_of_length_eq_zero her.1.symm
            cases hput
            exact push (by rw [he']; rfl) rfl
          · rcases putE_rel (.inr hs) her hput 0 with ⟨j, e, q1, q2, q3, q4, q5⟩ | ⟨q1, q2⟩
            · subst q5
              have hrel2 : EsRel ρ (es.set j (ck, uv)) (es'.modify j fun e => { e with key := ck, val := cu }).toList := by
                refine ⟨by simp [her.1], fun i p e h1 h2 => ?_⟩
                rw [List.getElem?_set] at h1
                rw [Array.getElem?_toList, Array.getElem?_modify] at h2
                by_cases hij : j = i
                · subst hij
                  rw [if_pos rfl, if_pos q1] at h1
                  rw [if_pos rfl] at h2
                  cases h1
                  cases hx : es'[j]? with
                  | none => rw [hx] at h2; cases h2
                  | some e0 => rw [hx] at h2; cases h2; exact ⟨hpk, hpu⟩
                · rw [if_neg hij] at h1 h2
                  exact her.2 i p e h1 (by rw [Array.getElem?_toList]; exact h2)
              obtain ⟨g1, g2⟩ := rel_setobj hR (X := .map (es'.modify j fun e => { e with key := ck, val := cu }) clock) (O' := .map (es.set j (ck, uv))) hb hget (by simp) (by simp) hf (by simp [hw]) ⟨hf, _, _, setObj_get_same hw, hrel2⟩
              refine .inr (UponOK.skip ?_ g1 g2)
              have hso := run_setObj P (.map (es'.modify j fun e => { e with key := ck, val := cu }) clock) hw (by simp)
              have hkk : ((es'[j]?).map (·.key)).getD ck = ck := by
                rw [Array.getElem?_toList] at q2; rw [q2]; exact q3
              have hks : (Instr.keyThatStays ck ck).run P w = .ok ck w := by
                unfold Instr.keyThatStays
                rw [if_pos (sameBits_scalar hs)]
                rfl
              have hrun : (Instr.mapUpdate t (.map (some r.cb)) ck cu).run P w = .ok () (setObj w r.cb (.map (es'.modify j fun e => { e with key := ck, val := cu }) clock)) := by
                unfold Instr.mapUpdate
                rw [Nat.zero_add] at q4
                simp only [Sem.run_bind, run_underlying (hto.map hu2), Result.andThen_ok, hgo, hchk, hfind _ q4, hkk, hks]
                exact hso
              rcases ho with ho | ho <;> (simp only [execOp, ho, hcm, hck, hcu, Sem.run_bind, hrun, Result.andThen_ok]; rfl)
            · exact push q1 q2
      · cases h
    · cases h
  · cases h

omit hT in
/-- A call of a built-in function. -/
theorem exec_builtin {P : Program} {o : Oper} {b : Builtin} {args : Array Operand} {argTypes : Array TypeId} (ho : o.op = .call { callee := .builtin b, args := args, argTypes := argTypes }) (E : Operand → Value) (w : World) (vs : List Value)
    (hvs : args.toList.map E = vs) : (execOp E o).run P w = (builtin b argTypes o.type (args.map fun | .const _ => true | _ => false) ⟨vs⟩).run P w := by
  have hm : args.map E = ⟨vs⟩ := by apply Array.ext'; simp [hvs]
  simp only [execOp, ho, resolve, hm, Sem.run_bind, Sem.run_pure, Result.andThen_ok, invoke]
  rfl

theorem delete_ok (hK : KeysOK P T) {t : Nat} {ats : List TypeId} {args : Array Operand} {argTypes : Array TypeId} (ho : o.op = .call { callee := .builtin .delete, args := args, argTypes := argTypes }) (hat : argTypes.toList = t :: ats)
    {r0 : Option Nat} {kv cm ck : Value} {ti : TI} (hti : T.get t = some ti) {kt et : Nat} (hu2 : ti.u = .map kt et) (hkey : keyOK T kt kv = true) 
    (h : (match r0 with
        | none => some (ANext.val U S)
        | some r => match getMap S r with
          | some es => match delE kv es with
            | some es => some (ANext.val U { S with heap := S.heap.set r (.map es) })
            | none => none
          | none => none) = some n) (hcl : args.toList.map E = [cm, ck]) (hpm : VRel ρ (.map r0) cm) (hpk : VRel ρ kv ck) (hR : Rel ρ S w) : HeavyOK P rc o E ρ S w n := by
  have hto := hT t ti hti
  have hex := exec_builtin (P := P) ho E w _ hcl
  have hat0 : argTypes[0]? = some t := by rw [← Array.getElem?_toList, hat]; rfl
  cases r0 with
  | none =>
    cases h
    obtain rfl : cm = .map none := by cases hpm; rfl
    obtain ⟨d, hd, hchk, hsc⟩ := keyOK_spec hT hK hkey hpk true w
    refine .inr (UponOK.value (cv := undef) ?_ hR (Ext.refl _ _ _) .undef)
    rw [hex]
    simp only [builtin, Builtin.delete_, hat0, Sem.run_bind, run_underlying (hto.map hu2), Result.andThen_ok, List.getElem?_toArray, List.getElem?_cons_zero, List.getElem?_cons_succ, hchk]
    rfl
  | some rr =>
    simp only at h
    split at h
    · rename_i es hg
      split at h
      · rename_i es2 hdel
        cases h
        have hget : S.heap.get rr = some (.map es) := by
          unfold getMap at hg
          split at hg
          · rename_i es3 hg2; cases hg; exact hg2
          · cases hg
        cases hpm with
        | same hc => simp [constOK] at hc
        | @map _ r hb =>
          obtain ⟨O, hO, hrel⟩ := hR.obj _ _ hb
          rw [hget] at hO; cases hO
          obtain ⟨hf, es', clock, hw, her⟩ := hrel
          have hgo := run_getObj P hw (by simp)
          obtain ⟨d, hd, hchk, hsc⟩ := keyOK_spec hT hK hkey hpk es'.isEmpty w
          have hor : es = [] ∨ (ScalarKey d kv ∧ ck = kv) := by
            rcases hsc with hs | ⟨a, rfl⟩
            · exact .inr hs
            · left
              cases es with
              | nil => rfl
              | cons p es =>
                exfalso
                have : delE (.agg a) (p :: es) = none := by obtain ⟨x, y⟩ := p; rfl
                rw [this] at hdel; cases hdel
          have hfind : ∀ res, Instr.findNow d ck es'.toList 0 = some res → (Instr.findKey kt ck es'.toList).run P w = .ok res w := by
            intro res hf
            unfold Instr.findKey
            simp only [Sem.run_bind, run_underlying hd, Result.andThen_ok, hf]
            rfl
          have fin : ∀ res (es3 : Array MapEntry), Instr.findNow d ck es'.toList 0 = some res → (∀ i u, res = some (i, u) → es3 = es'.eraseIdxIfInBounds i) → (res = none → es3 = es') → EsRel ρ es2 es3.toList →
              HeavyOK P rc o E ρ S w (.val U { S with heap := S.heap.set rr (.map es2) }) := by
            intro res es3 h1 h2 h3 h4
            obtain ⟨g1, g2⟩ := rel_setobj hR (X := .map es3 clock) (O' := .map es2) hb hget (by simp) (by simp) hf (by simp [hw]) ⟨hf, _, _, setObj_get_same hw, h4⟩
            refine .inr (UponOK.value (cv := undef) ?_ g1 g2 .undef)
            have hso := run_setObj P (.map es3 clock) hw (by simp)
            rw [hex]
            cases res with
            | none =>
              have := h3 rfl; subst this
              simp only [builtin, Builtin.delete_, hat0, Sem.run_bind, run_underlying (hto.map hu2), Result.andThen_ok, List.getElem?_toArray, List.getElem?_cons_zero, List.getElem?_cons_succ, hgo, hchk, hfind _ h1, hso]
              rfl
            | some p =>
              obtain ⟨i, u⟩ := p
              have := h2 i u rfl; subst this
              simp only [builtin, Builtin.delete_, hat0, Sem.run_bind, run_underlying (hto.map hu2), Result.andThen_ok, List.getElem?_toArray, List.getElem?_cons_zero, List.getElem?_cons_succ, hgo, hchk, hfind _ h1, hso]
              rfl
          have hd2 : (es = [] ∨ ScalarKey d ck) := hor.imp id fun ⟨a, b⟩ => b ▸ a
          rcases hor with rfl | ⟨hs, rfl⟩
          · have he' : es'.toList = [] := List.eq_nil_of_length_eq_zero her.1.symm
            cases hdel
            exact fin none es' (by rw [he']; rfl) (by simp) (fun _ => rfl) her
          · rcases delE_rel (.inr hs) her hdel 0 with ⟨j, e, q1, q2, q3, q4⟩ | ⟨q1, q2⟩
            · rw [Nat.zero_add] at q3
              refine fin _ (es'.eraseIdxIfInBounds j) q3 (fun i u hh => by cases hh; rfl) (by simp) ?_
              have hl : (es'.eraseIdxIfInBounds j).toList = es'.toList.eraseIdx j := by simp
              rw [hl, q4]
              refine ⟨by have := her.1; simp only [List.length_eraseIdx]; rw [this], fun i p e h1 h2 => ?_⟩
              rw [List.getElem?_eraseIdx] at h1 h2
              split at h1
              · rename_i hlt; rw [if_pos hlt] at h2; exact her.2 i p e h1 h2
              · rename_i hlt; rw [if_neg hlt] at h2; exact her.2 (i + 1) p e h1 h2
            · subst q2
              exact fin none es' q1 (by simp) (fun _ => rfl) her
      · cases h
    · cases h
end
end Go.AM
