/- The abstract machine's operations that change memory are the model's: the frame; stores, maps, deferred calls, iterators. -/
import Derived.Test.YtbfodilaobkjlaaGreatDoorAm18
namespace Go.AM

def UponOK (P : Program) (o : Oper) (E : Operand → Value) (ρ : Rho) (S : AS) (w : World) (S' : AS) (v : Value) : Prop :=
  ∀ (a : Act) (next : Act → World → Prop) (Q : Exit → Act → World → Prop),
    (∀ cv w' ρ', Rel ρ' S' w' → Ext ρ S w ρ' S' w' → VRel ρ' v cv → next (a.put o.dst cv) w') → o.upon P a next Q ((execOp E o).run P w)

theorem UponOK.value {P : Program} {o : Oper} {E : Operand → Value} {ρ ρ' : Rho} {S S' : AS} {w w' : World} {v cv : Value} (h : (execOp E o).run P w = .ok (.value cv) w')
    (hR : Rel ρ' S' w') (hx : Ext ρ S w ρ' S' w') (hv : VRel ρ' v cv) : UponOK P o E ρ S w S' v := by
  intro a next Q hn
  rw [h]
  exact hn cv w' ρ' hR hx hv

theorem VRel.undef {ρ : Rho} : VRel ρ U Go.undef := .tuple rfl (fun i v v' h => by simp at h)

theorem UponOK.skip {P : Program} {o : Oper} {E : Operand → Value} {ρ ρ' : Rho} {S S' : AS} {w w' : World} (h : (execOp E o).run P w = .ok .skip w')
    (hR : Rel ρ' S' w') (hx : Ext ρ S w ρ' S' w') : UponOK P o E ρ S w S' U := by
  intro a next Q hn
  rw [h]
  exact hn Go.undef w' ρ' hR hx .undef

/-- A deferred call. -/
def DRel (ρ : Rho) (d : ADef) (cd : Deferred) : Prop := ∃ cap dargs, cd = ⟨.fn (.func d.f) cap, dargs⟩ ∧ VsRel ρ d.args (dargs ++ cap).toList

theorem DRel.mono {ρ ρ' : Rho} (hl : ρ.le ρ') {d : ADef} {cd : Deferred} (h : DRel ρ d cd) : DRel ρ' d cd := by
  obtain ⟨c, a, h1, h2⟩ := h
  exact ⟨c, a, h1, h2.mono hl⟩

def HeavyOK (P : Program) (rc : Option Value) (o : Oper) (E : Operand → Value) (ρ : Rho) (S : AS) (w : World) : ANext → Prop
  | .val v S' => ((execOp E o).run P w = .ok .recover w ∧ rc = some v ∧ S' = S) ∨ UponOK P o E ρ S w S' v
  | .enter f args => ∃ cargs : Array Value, VsRel ρ args cargs.toList ∧ (execOp E o).run P w = (callFunc f cargs).run P w
  | .defer d => ∃ cd, (execOp E o).run P w = .ok (.defer cd) w ∧ DRel ρ d cd
  | .panic v => ∃ cv, (execOp E o).run P w = .halt (.panic cv) w ∧ VRel ρ v cv

theorem rel_setobj {ρ : Rho} {S : AS} {w : World} (hR : Rel ρ S w) {b : Nat} {r : RI} {O O' : AObj} {X : Obj} (hb : ρ b = some r) (hO : S.heap.get b = some O) (hn : ∀ B, O ≠ .blk B) (hn' : ∀ B, O' ≠ .blk B)
    (hfam : r.fam = b) (hcells : ∀ c e f, w.heap[r.cb]? ≠ some (.cells c e f)) (hrel : ORel ρ S (setObj w r.cb X) b r O') :
    Rel ρ { S with heap := S.heap.set b O' } (setObj w r.cb X) ∧ Ext ρ S w ρ { S with heap := S.heap.set b O' } (setObj w r.cb X) := by
  refine ⟨⟨?_, ?_, hR.fams, ?_, hR.apart, ?_⟩, ?_⟩
  · intro x Y hx
    simp only at hx ⊢
    rw [Tr.get_set_if] at hx
    by_cases he : x = b
    · rw [he]; exact hR.lt hb
    · rw [if_neg he] at hx; exact hR.next _ _ hx
  · intro x B hx
    simp only at hx
    rw [Tr.get_set_if] at hx
    by_cases he : x = b
    · rw [if_pos he] at hx; cases hx; exact absurd rfl (hn' B)
    · rw [if_neg he] at hx; exact hR.fam x B hx
  · intro b1 r1 hb1
    by_cases he : b1 = b
    · subst he
      rw [hb] at hb1; cases hb1
      refine ⟨O', Tr.get_set _ _ _, ?_⟩
      cases O' <;> first | exact hrel | exact absurd rfl (hn' _)
    · obtain ⟨O1, hO1, hr1⟩ := hR.obj b1 r1 hb1
      refine ⟨O1, by simp only; rw [Tr.get_set_ne _ _ _ _ he]; exact hO1, ?_⟩
      have hne : r.cb ≠ r1.cb := by
        intro hcb
        have hf := hR.apart b1 b r1 r hb1 hb hcb.symm
        cases O1 with
        | blk B1 => obtain ⟨_, _, _, _, _, c, e, lo, hi, k1, _⟩ := hr1; rw [← hcb] at k1; exact hcells _ _ _ k1
        | map es => exact he (by have := hr1.1; omega)
        | iter s pos => exact he (by have := hr1.1.1; omega)
      have := hr1.mono (w' := setObj w r.cb X) (Rho.le_refl ρ) (setObj_get_ne hne)
      cases O1 <;> exact this
  · intro b1 b2 r1 r2 B1 h1 h2 h3 h4 h5 h6
    simp only at h4
    rw [Tr.get_set_if] at h4
    by_cases he : b1 = b
    · rw [if_pos he] at h4; cases h4; exact absurd rfl (hn' B1)
    · rw [if_neg he] at h4
      exact hR.tip b1 b2 r1 r2 B1 h1 h2 h3 h4 h5 h6
  · refine ⟨Rho.le_refl ρ, Nat.le_refl _, fun b r h k => (by rw [h] at k; cases k), ?_, fun _ _ _ => rfl, fun b r h k => (by rw [h] at k; cases k), fun b r h k => (by rw [h] at k; cases k), ?_, by rw [setObj_size]; exact Nat.le_refl _, rfl, rfl, rfl, ?_⟩
    · intro b1 _ hnn
      simp only
      rw [Tr.get_set_ne]
      intro hc; rw [hc, hb] at hnn; cases hnn
    · intro k _ hnn
      exact setObj_get_ne (hnn b r hb)
    · intro b1 B1 _ h1
      by_cases he : b1 = b
      · subst he
        rw [hO] at h1; cases h1; exact absurd rfl (hn _)
      · exact ⟨B1, by simp only; rw [Tr.get_set_ne _ _ _ _ he]; exact h1, rfl, rfl, rfl, rfl⟩

/-- The map's put, as the model finds its place. -/
theorem putE_rel {ρ : Rho} {d : TypeDesc} {k v : Value} : ∀ {es es2 : List (Value × Value)} {es' : List MapEntry}, (es = [] ∨ ScalarKey d k) → EsRel ρ es es' → putE k v es = some es2 → ∀ i,
    (∃ j e, j < es.length ∧ es'[j]? = some e ∧ e.key = k ∧ Instr.findNow d k es' i = some (some (i + j, e.val)) ∧ es2 = es.set j (k, v)) ∨
    (Instr.findNow d k es' i = some none ∧ es2 = es ++ [(k, v)]) := by
  intro es
  induction es with
  | nil =>
    intro es2 es' _ he h i
    have : es' = [] := List.eq_nil_of_length_eq_zero he.1.symm
    subst this
    cases h
    exact .inr ⟨rfl, rfl⟩
  | cons p es ih =>
    intro es2 es' hk he h i
    have hk : ScalarKey d k := hk.resolve_left (by simp)
    obtain ⟨e, es3, rfl, h1, h2, h3⟩ := he.cons_inv
    have hc : putE k v (p :: es) = match eqScalar k p.1 with
      | some true => some ((k, v) :: es)
      | some false => match putE k v es with | some es => some (p :: es) | none => none
      | none => none := by obtain ⟨a, b⟩ := p; rfl
    rw [hc] at h
    cases hq : eqScalar k p.1 with
    | none => rw [hq] at h; cases h
    | some b =>
      rw [hq] at h
      have hkey := eqScalar_rel hq h1
      obtain ⟨s1, s2⟩ := sameNow_eq hk hq
      cases b with
      | true =>
        cases h
        refine .inl ⟨0, e, by simp, rfl, by rw [hkey, s2 rfl], ?_, rfl⟩
        unfold Instr.findNow; rw [hkey, s1]; rfl
      | false =>
        simp only at h
        cases hp : putE k v es with
        | none => rw [hp] at h; cases h
        | some es4 =>
          rw [hp] at h
          cases h
          rcases ih (.inr hk) h3 hp (i + 1) with ⟨j, e2, q1, q2, q3, q4, q5⟩ | ⟨q1, q2⟩
          · refine .inl ⟨j + 1, e2, by simp; omega, by simpa using q2, q3, ?_, by rw [q5]; rfl⟩
            unfold Instr.findNow
            rw [hkey, s1]
            simp only
            rw [q4]
            congr 3; omega
          · refine .inr ⟨?_, by rw [q2]; rfl⟩
            unfold Instr.findNow
            rw [hkey, s1]
            exact q1

theorem delE_rel {ρ : Rho} {d : TypeDesc} {k : Value} : ∀ {es es2 : List (Value × Value)} {es' : List MapEntry}, (es = [] ∨ ScalarKey d k) → EsRel ρ es es' → delE k es = some es2 → ∀ i,
    (∃ j e, j < es.length ∧ es'[j]? = some e ∧ Instr.findNow d k es' i = some (some (i + j, e.val)) ∧ es2 = es.eraseIdx j) ∨
    (Instr.findNow d k es' i = some none ∧ es2 = es) := by
  intro es
  induction es with
  | nil =>
    intro es2 es' _ he h i
    have : es' = [] := List.eq_nil_of_length_eq_zero he.1.symm
    subst this
    cases h
    exact .inr ⟨rfl, rfl⟩
  | cons p es ih =>
    intro es2 es' hk he h i
    have hk : ScalarKey d k := hk.resolve_left (by simp)
    obtain ⟨e, es3, rfl, h1, h2, h3⟩ := he.cons_inv
    have hc : delE k (p :: es) = match eqScalar k p.1 with
      | some true => some es
      | some false => match delE k es with | some es => some (p :: es) | none => none
      | none => none := by obtain ⟨a, b⟩ := p; rfl
    rw [hc] at h
    cases hq : eqScalar k p.1 with
    | none => rw [hq] at h; cases h
    | some b =>
      rw [hq] at h
      have hkey := eqScalar_rel hq h1
      obtain ⟨s1, s2⟩ := sameNow_eq hk hq
      cases b with
      | true =>
        cases h
        refine .inl ⟨0, e, by simp, rfl, ?_, rfl⟩
        unfold Instr.findNow; rw [hkey, s1]; rfl
      | false =>
        simp only at h
        cases hp : delE k es with
        | none => rw [hp] at h; cases h
        | some es4 =>
          rw [hp] at h
          cases h
          rcases ih (.inr hk) h3 hp (i + 1) with ⟨j, e2, q1, q2, q4, q5⟩ | ⟨q1, q2⟩
          · refine .inl ⟨j + 1, e2, by simp; omega, by simpa using q2, ?_, by rw [q5]; rfl⟩
            unfold Instr.findNow
            rw [hkey, s1]
            simp only
            rw [q4]
            congr 3; omega
          · refine .inr ⟨?_, by rw [q2]⟩
            unfold Instr.findNow
            rw [hkey, s1]
            exact q1

theorem sameBits_scalar {d : TypeDesc} {k : Value} (h : ScalarKey d k) : Instr.sameBits 10000 k k = true := by
  show Instr.sameBits (9999 + 1) k k = true
  cases h with
  | int _ => simp [Instr.sameBits]
  | @str s _ => simp only [Instr.sameBits]; exact (byteArray_beq _ _).2 rfl
  | bool _ => simp [Instr.sameBits]

theorem run_setObj (P : Program) {w : World} {k : Nat} {x : Obj} (o : Obj) (h : w.heap[k]? = some x) (hx : ∀ c e f, x ≠ .cells c e f) : (Go.setObj k o).run P w = .ok () (setObj w k o) := by
  cases x <;> first | (simp [Go.setObj, Sem.run, h, setObj]; done) | exact absurd rfl (hx _ _ _)
theorem run_getObj (P : Program) {w : World} {k : Nat} {x : Obj} (h : w.heap[k]? = some x) (hx : ∀ c e f, x ≠ .cells c e f) : (getObj k).run P w = .ok x w := by
  cases x <;> first | (simp [getObj, Sem.run, h]; done) | exact absurd rfl (hx _ _ _)

theorem decode_ascii {s : ByteArray} {i : Nat} {c : UInt8} (h : s.data.toList[i]? = some c) (hc : c.toNat < 128) : Utf8.decode s i = (c.toNat, 1) := by
  have hg : s.get! (i + 0) = c := by
    obtain ⟨d⟩ := s
    simp only [Nat.add_zero] at h ⊢
    show d[i]! = c
    simp only [Array.getElem?_toList] at h
    rw [getElem!_def, h]
  unfold Utf8.decode
  simp only [hg]
  rw [if_pos hc]

section
variable {P : Program} {T : Tr TI} {tm : Tr Value} {S S' : AS} {o : Oper} {v : Value} {rc : Option Value} {n : ANext}
variable {ρ : Rho} {w : World} {E : Operand → Value}

theorem hPanic_ok {x : Operand} (ho : o.op = .panic x) (h : hPanic tm x = some n) (hop : Hop ρ tm E o.op) : HeavyOK P rc o E ρ S w n := by
  unfold hPanic at h
  split at h
  · rename_i t u hx
    cases h
    obtain ⟨cx, hcx, hp⟩ := hop.at (x := x) (by rw [ho]; simp [Op.operands]) hx
    refine ⟨cx, ?_, hp⟩
    cases hp with
    | same hc => simp [constOK] at hc
    | iface hi => simp only [execOp, ho, hcx, Instr.panic]; rfl
  · cases h

theorem targetOf_rel {fv cf : Value} {args : List Value} {cargs : Array Value} {d : ADef} (h : targetOf fv args = some d) (hf : VRel ρ fv cf) (ha : VsRel ρ args cargs.toList) :
    ∃ cap dargs, (∀ w : World, (Deferred.ofValue cf cargs).run P w = .ok ⟨.fn (.func d.f) cap, dargs⟩ w) ∧ VsRel ρ d.args (dargs ++ cap).toList := by
  unfold targetOf at h
  split at h
  · rename_i f first cap
    cases h
    cases hf with
    | same hc => simp [constOK] at hc
    | @func _ f f' c c' k1 k2 k3 k4 =>
      refine ⟨⟨c'⟩, ⟨f'⟩ ++ cargs, fun w => rfl, ?_⟩
      rw [app_eq, app_eq]
      have : ((⟨f'⟩ : Array Value) ++ cargs ++ ⟨c'⟩).toList = f' ++ (cargs.toList ++ c') := by simp
      rw [this]
      exact VsRel.append ⟨k1, k3⟩ (ha.append ⟨k2, k4⟩)
  · cases h

theorem hDefer_ok {c : Call} (ho : o.op = .defer c) (h : hDeferC tm c = some n) (hop : Hop ρ tm E o.op) : HeavyOK P rc o E ρ S w n := by
  unfold hDeferC at h
  obtain ⟨cal, args, ats⟩ := c
  cases cal with
  | builtin b => cases h
  | invoke r m => cases h
  | value f =>
    simp only at h
    unfold hDefer at h
    split at h
    · rename_i fv as hf has
      split at h
      · rename_i d hd
        cases h
        obtain ⟨cf, hcf, hpf⟩ := hop.at (x := f) (by rw [ho]; simp [Op.operands, Call.operands]) hf
        have hrel : VsRel ρ as (args.map E).toList := by
          rw [Array.toList_map]
          exact evs_rel has fun x hx => hop x (by rw [ho]; simp only [Op.operands, Call.operands]; simp only [Array.mem_append]; exact .inr (Array.mem_toList_iff.1 hx))
        obtain ⟨cap, dargs, h1, h2⟩ := targetOf_rel (P := P) hd hpf hrel
        refine ⟨⟨.fn (.func d.f) cap, dargs⟩, ?_, _, _, rfl, h2⟩
        simp only [execOp, ho, resolve, hcf, Sem.run_bind, h1]
        rfl
      · cases h
    · cases h

variable (hT : ∀ t ti, T.get t = some ti → TypeOK P t ti)
include hT

theorem hStore_ok {t : Nat} {x u : Operand} (ho : o.op = .store t x u) (h : hStore T tm S t x u = some n) (hR : Rel ρ S w) (hop : Hop ρ tm E o.op) : HeavyOK P rc o E ρ S w n := by
  unfold hStore at h
  split at h
  · rename_i a uv ti hx hu hti
    have hto := hT t ti hti
    split at h
    · rename_i hsz hnt
      split at h
      · rename_i S1 hs
        cases h
        obtain ⟨cx, hcx, hp⟩ := hop.at (x := x) (by rw [ho]; simp [Op.operands]) hx
        obtain ⟨cu, hcu, hpu⟩ := hop.at (x := u) (by rw [ho]; simp [Op.operands]) hu
        cases hp with
        | same hc => simp [constOK] at hc
        | @ptr b oo r hb =>
          obtain ⟨k1, k2⟩ := cells_rel hpu hnt
          obtain ⟨w', g1, g2, g3⟩ := store_sim hR hb k1 k2 hs
          refine .inr (UponOK.skip (w' := w') ?_ g2 g3)
          have hsz' : cu.cells.size = ti.size := by
            have := Nat.eq_of_beq_eq_true hsz
            rw [len_eq] at this
            rw [← Array.length_toList, ← k1.1, this]
          have e2 := hto.run_size w
          have e3 := g1 P
          simp only [RI.at] at e3
          simp [execOp, ho, hcx, hcu, Instr.storeAt, Instr.sureAddr, storeVar, e2, hsz', e3]
      · cases h
    · cases h
  · cases h

theorem hRange_ok {t : Nat} {x : Operand} (ho : o.op = .range t x) (h : hRange T tm S t x = some n) (hR : Rel ρ S w) (hop : Hop ρ tm E o.op) : HeavyOK P rc o E ρ S w n := by
  unfold hRange at h
  split at h
  · rename_i s ti hx hti
    have hto := hT t ti hti
    rw [newObj_eq] at h
    split at h
    · rename_i b S1 hu heq
      cases heq
      cases h
      obtain ⟨cx, hcx, hp⟩ := hop.at (x := x) (by rw [ho]; simp [Op.operands]) hx
      obtain rfl := hp.string_inv
      have hR2 := rel_more hR (O := .iter s.data.toList 0) trivial
      have hx2 := ext_more (Ext.refl ρ S w) (.iter s.data.toList 0)
      let r : RI := { cb := w.heap.size, base := 0, ext := 0, esz := 0, csz := 0, fam := S.next, opn := false }
      refine .inr (UponOK.value (w' := w.alloc (.stringIter s 0)) (ρ' := ρ.put S.next r) (cv := .pointer (some ⟨w.heap.size, 0, none⟩)) ?_ ?_ ?_ ?_)
      · simp only [execOp, ho, hcx, Instr.range, Sem.run_bind, run_underlying (hto.str hu), Result.andThen_ok, Sem.run_pure]
        rfl
      · refine rel_real hR2 (r := r) hR.new_none (Tr.get_set _ _ _) rfl (fun b x hb => by have := hR.cb_lt hb; show x.cb ≠ w.heap.size; omega) ⟨⟨rfl, rfl⟩, s, alloc_get_new _ _, rfl⟩
      · exact ext_real hx2 (r := r) _ hR.new_none (Nat.le_refl _) rfl (.inl (Nat.le_refl _))
      · exact .ptr (b := S.next) (o := 0) (r := r) (Rho.put_same _ _ _)
    · cases h
  · cases h

omit hT in
theorem hNext_ok {x : Operand} {sb : Bool} (ho : o.op = .next x sb) (h : hNextB tm S x sb = some n) (hR : Rel ρ S w) (hop : Hop ρ tm E o.op) : HeavyOK P rc o E ρ S w n := by
  cases sb with
  | false => cases h
  | true =>
    have h : hNext tm S x = some n := h
    unfold hNext at h
    split at h
    · rename_i b hx
      obtain ⟨cx, hcx, hp⟩ := hop.at (x := x) (by rw [ho]; simp [Op.operands]) hx
      split at h
      · rename_i s pos hs
        cases hp with
        | same hc => simp [constOK] at hc
        | @ptr _ _ r hb =>
          obtain ⟨O, hO, hrel⟩ := hR.obj _ _ hb
          rw [hs] at hO; cases hO
          obtain ⟨hf, s', hw, rfl⟩ := hrel
          obtain ⟨rcb, rbase, rext, resz, rcsz, rfam, ropn⟩ := r
          obtain ⟨hf, rfl⟩ := hf
          simp only at hw hf
          have hgo := run_getObj P hw (by simp)
          have hsz : s'.size = s'.data.toList.length := rfl
          rw [nth_eq] at h
          cases hc : s'.data.toList[pos]? with
          | none =>
            rw [hc] at h
            cases h
            have hge : ¬ pos < s'.size := by rw [hsz]; have := List.getElem?_eq_none_iff.1 hc; omega
            refine .inr (UponOK.value (w' := w) (ρ' := ρ) (cv := .tuple #[.bool false]) ?_ hR (Ext.refl _ _ _) (by have := VsRel.cons (ρ := ρ) (VRel.bool (b := false)) VsRel.nil; exact .tuple this.1 this.2))
            simp only [execOp, ho, hcx, Instr.next, Nat.add_zero, Sem.run_bind, hgo, Result.andThen_ok, if_neg hge]
            rfl
          | some c =>
            rw [hc] at h
            simp only at h
            split at h
            · rename_i hlt
              cases h
              have hlt := Nat.le_of_ble_eq_true hlt
              have hin : pos < s'.size := by rw [hsz]; obtain ⟨k, _⟩ := List.getElem?_eq_some_iff.1 hc; exact k
              obtain ⟨g1, g2⟩ := rel_setobj hR (X := .stringIter s' (pos + 1)) (O' := .iter s'.data.toList (pos + 1)) hb hs (by simp) (by simp) hf (by simp [hw]) ⟨⟨hf, rfl⟩, s', setObj_get_same hw, rfl⟩
              refine .inr (UponOK.value (w' := _) (ρ' := ρ) (cv := .tuple #[.bool true, goInt pos, .int .i32 c.toNat]) ?_ g1 g2 ?_)
              · have hso := run_setObj P (.stringIter s' (pos + 1)) hw (by simp)
                simp only [execOp, ho, hcx, Instr.next, Nat.add_zero, Sem.run_bind, hgo, Result.andThen_ok, if_pos hin, decode_ascii hc (by omega), hso]
                rfl
              · have := VsRel.cons (ρ := ρ) (VRel.bool (b := true)) (VsRel.cons (VRel.int (k := .i64) (n := .ofNat pos)) (VsRel.cons (VRel.int (k := .i32) (n := .ofNat c.toNat)) VsRel.nil))
                exact .tuple this.1 this.2
            · cases h
      · cases h
    · cases h
end
end Go.AM
