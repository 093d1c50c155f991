/- The abstract machine's light operations are the model's: the frame, and the first of them. -/
import Derived.Test.YtbfodilaobkjlaaGreatDoorAm10
namespace Go.AM

def Allocs (S S2 : AS) : Prop := (∀ b O, S.heap.get b = some O → S2.heap.get b = some O) ∧ S2.fams = S.fams

theorem Allocs.refl (S : AS) : Allocs S S := ⟨fun _ _ h => h, rfl⟩

theorem getBlk_allocs {S S2 : AS} (h : Allocs S S2) {b : Nat} {B : ABlk} (hb : getBlk S b = some B) : getBlk S2 b = some B := by
  obtain ⟨h1, h2⟩ := getBlk_some hb
  unfold getBlk
  rw [h.1 _ _ h1]
  simp only
  rw [alive_def] at h2 ⊢
  unfold tipOf at h2 ⊢
  rw [h.2, h2]

theorem loadN_allocs {S S2 : AS} (h : Allocs S S2) {a : Addr} {n : Nat} {l : List Value} (hl : loadN S a n = some l) : loadN S2 a n = some l := by
  obtain ⟨b, o, B, rfl, hB, hle, hc⟩ := loadN_some hl
  unfold loadN
  simp only [getBlk_allocs h hB, Nat.add_eq, Nat.ble_eq_true_of_le hle]
  exact hc

def Stat (S S2 : AS) : Prop := ∀ b B, S.heap.get b = some (.blk B) → ∃ B2, S2.heap.get b = some (.blk B2) ∧ B2.ext = B.ext ∧ B2.esz = B.esz ∧ B2.opn = B.opn ∧ B2.fam = B.fam

theorem Allocs.stat {S S2 : AS} (h : Allocs S S2) : Stat S S2 := fun _ B hb => ⟨B, h.1 _ _ hb, rfl, rfl, rfl, rfl⟩

def Cond (T : Tr TI) (tm : Tr Value) (op : Op) (S S2 : AS) : Prop :=
  Allocs S S2 ∨ (strictOp tm op = false ∧ Stat S S2 ∧ ∀ a n cs, footOf T tm op = some (a, n) → loadN S a n = some cs → loadN S2 a n = some cs)

theorem Cond.foot {T : Tr TI} {tm : Tr Value} {op : Op} {S S2 : AS} (h : Cond T tm op S S2) {a : Addr} {n : Nat} {cs : List Value} (hf : footOf T tm op = some (a, n)) (hl : loadN S a n = some cs) :
    loadN S2 a n = some cs := by
  rcases h with h | ⟨_, _, h⟩
  · exact loadN_allocs h hl
  · exact h a n cs hf hl
theorem Cond.strict {T : Tr TI} {tm : Tr Value} {op : Op} {S S2 : AS} (h : Cond T tm op S S2) (hs : strictOp tm op = true) : Allocs S S2 := by
  rcases h with h | ⟨h, _⟩
  · exact h
  · rw [h] at hs; cases hs
theorem Cond.stat {T : Tr TI} {tm : Tr Value} {op : Op} {S S2 : AS} (h : Cond T tm op S S2) : Stat S S2 := by
  rcases h with h | ⟨_, h, _⟩
  · exact h.stat
  · exact h

theorem statBlk_rel {ρ : Rho} {S S2 : AS} {w : World} (hR : Rel ρ S2 w) (hst : Stat S S2) {b : Nat} {r : RI} {B : ABlk} (hb : ρ b = some r) (h : statBlk S b = some B) :
    B.ext = r.ext ∧ B.esz = r.esz ∧ B.opn = r.opn := by
  unfold statBlk at h
  split at h
  · rename_i B' hB
    cases h
    obtain ⟨B2, h1, h2, h3, h4, h5⟩ := hst _ _ hB
    obtain ⟨O, hO, hrel⟩ := hR.obj _ _ hb
    rw [h1] at hO; cases hO
    obtain ⟨e1, e2, e3, _⟩ := hrel
    exact ⟨h2 ▸ e1, h3 ▸ e2, h4 ▸ e3⟩
  · cases h

def Hop (ρ : Rho) (tm : Tr Value) (E : Operand → Value) (op : Op) : Prop := ∀ x ∈ op.operands, ∀ v, ev tm x = some v → VRel ρ v (E x)

theorem Hop.at {ρ : Rho} {tm : Tr Value} {E : Operand → Value} {op : Op} (h : Hop ρ tm E op) {x : Operand} (hx : x ∈ op.operands) {v : Value} (hv : ev tm x = some v) : ∃ cx, E x = cx ∧ VRel ρ v cx :=
  ⟨_, rfl, h x hx v hv⟩

def LightPure (P : Program) (T : Tr TI) (tm : Tr Value) (o : Oper) (S : AS) (v : Value) : Prop :=
  ∀ ρ S2 w E, Rel ρ S2 w → Cond T tm o.op S S2 → Hop ρ tm E o.op → ∃ cv, (execOp E o).run P w = .ok (.value cv) w ∧ VRel ρ v cv

def LightAlloc (P : Program) (T : Tr TI) (tm : Tr Value) (o : Oper) (S : AS) (O : AObj) (v : Value) : Prop :=
  ∀ ρ S2 w E, Rel ρ S2 w → Cond T tm o.op S S2 → S2.heap.get S.next = some O → ρ S.next = none → Hop ρ tm E o.op →
    ∃ (X : Obj) (r : RI) (w1 : World) (cv : Value), w1.heap = w.heap ∧ w1.os = w.os ∧ w1.tape = w.tape ∧ w1.output = w.output ∧ (execOp E o).run P w = .ok (.value cv) (w1.alloc X) ∧
      r.cb = w.heap.size ∧ r.fam = S.next ∧ ORel (ρ.put S.next r) S2 (w1.alloc X) S.next r O ∧ VRel (ρ.put S.next r) v cv

def LightOK (P : Program) (T : Tr TI) (tm : Tr Value) (o : Oper) (S S' : AS) (v : Value) : Prop :=
  (S' = S ∧ LightPure P T tm o S v) ∨ (∃ O, S' = S.more O ∧ O.own S.next ∧ LightAlloc P T tm o S O v)

theorem newBlk_eq (S : AS) (zeros : List Value) (per ext esz : Nat) (opn : Bool) :
    newBlk S zeros per ext esz opn = (S.next, S.more (.blk { ext, esz, opn, fam := S.next, per, zeros, cells := .leaf })) := rfl
theorem newObj_eq (S : AS) (O : AObj) : newObj S O = (S.next, S.more O) := rfl

theorem cells_rel {ρ : Rho} {v v' : Value} (h : VRel ρ v v') (hn : noTuple v = true) : VsRel ρ (cellsOf v) v'.cells.toList ∧ ∀ u ∈ cellsOf v, isOne u = true := by
  have one : ∀ {u u' : Value}, VRel ρ u u' → VsRel ρ [u] [u'] := fun h => VsRel.cons h VsRel.nil
  cases h with
  | agg hl h ho => exact ⟨⟨hl, h⟩, ho⟩
  | tuple hl h => cases hn
  | same hc =>
    cases v <;> first
      | (refine ⟨one (.same hc), ?_⟩; intro u hu; simp only [cellsOf, List.mem_singleton] at hu; subst hu; rfl)
      | (simp [constOK] at hc; done)
  | ptr h => exact ⟨one (.ptr h), by intro u hu; simp only [cellsOf, List.mem_singleton] at hu; subst hu; rfl⟩
  | slice h a b c d => exact ⟨one (.slice h a b c d), by intro u hu; simp only [cellsOf, List.mem_singleton] at hu; subst hu; rfl⟩
  | slice0 h a => exact ⟨one (.slice0 h a), by intro u hu; simp only [cellsOf, List.mem_singleton] at hu; subst hu; rfl⟩
  | map h => exact ⟨one (.map h), by intro u hu; simp only [cellsOf, List.mem_singleton] at hu; subst hu; rfl⟩
  | func a b c d => exact ⟨one (.func a b c d), by intro u hu; simp only [cellsOf, List.mem_singleton] at hu; subst hu; rfl⟩
  | iface h => exact ⟨one (.iface h), by intro u hu; simp only [cellsOf, List.mem_singleton] at hu; subst hu; rfl⟩

theorem const_rel {ρ : Rho} {l : List Value} (h : ∀ v ∈ l, constOK v = true) : VsRel ρ l l := by
  refine ⟨rfl, fun i v v' h1 h2 => ?_⟩
  rw [h1] at h2; cases h2
  exact .same (h v (List.mem_of_getElem? h1))

/-- A new block whose cells are told one by one, closed. -/
theorem orel_closed {ρ : Rho} {S2 : AS} {w1 : World} {m : Nat} {l l' : List Value} {esz : Nat} {e : TypeId} {c : Array Value} (hm : ρ m = none) (hc : c.toList = l') (hv : VsRel ρ l l') (h1 : ∀ v ∈ l, isOne v = true) :
    ORel (ρ.put m { cb := w1.heap.size, base := 0, ext := len l, esz := esz, csz := len l, fam := m, opn := false }) S2 (w1.alloc (.cells c e)) m
      { cb := w1.heap.size, base := 0, ext := len l, esz := esz, csz := len l, fam := m, opn := false }
      (.blk { ext := len l, esz := esz, opn := false, fam := m, per := Nat.succ (len l), zeros := l, cells := .leaf }) := by
  refine orel_new (all := l) (all' := l') (newCells_list l esz m (len l) false (len_eq l)) (hv.mono (Rho.le_put _ hm)) h1 rfl rfl rfl rfl (by simp only; omega) (lo := 0) (hi := 0) (c := c) (e := e) ?_ ?_ (.inl (Nat.le_refl _)) ?_
  · exact alloc_get_new _ _
  · simp only; rw [← Array.length_toList, hc, ← hv.1, len_eq]
  · intro j v hj
    simp only [Nat.zero_add]
    rw [← hc] at hj
    simpa using hj

section
variable {P : Program} {T : Tr TI} {tm : Tr Value} {S S' : AS} {o : Oper} {v : Value}

theorem lMove_ok {x : Operand} (ho : o.op = .move x ∨ o.op = .assign x) (h : lMove tm S x = some (v, S')) : LightOK P T tm o S S' v := by
  unfold lMove retV at h
  cases hx : ev tm x with
  | none => rw [hx] at h; cases h
  | some u =>
    rw [hx] at h
    cases h
    refine .inl ⟨rfl, fun ρ S2 w E _ _ hop => ⟨E x, ?_, ?_⟩⟩
    · rcases ho with ho | ho <;> simp only [execOp, ho] <;> rfl
    · exact hop x (by rcases ho with ho | ho <;> rw [ho] <;> simp [Op.operands]) _ hx

theorem lPick_ok {c a b : Operand} (ho : o.op = .pick c a b) (h : lPick tm S c a b = some (v, S')) : LightOK P T tm o S S' v := by
  unfold lPick at h
  have fin : ∀ t x, ev tm c = some (.bool t) → ev tm x = some v → x = (if t then a else b) → S' = S → LightOK P T tm o S S' v := by
    intro t x hc hx he hS
    refine .inl ⟨hS, fun ρ S2 w E _ _ hop => ⟨E x, ?_, hop x (by rw [ho, he]; cases t <;> simp [Op.operands]) _ hx⟩⟩
    have := (hop c (by rw [ho]; simp [Op.operands]) _ hc).bool_inv
    simp only [execOp, ho, this, asBool]
    subst he
    cases t <;> rfl
  split at h
  · rename_i hc
    split at h
    · rename_i u hu; cases h; exact fin true a hc hu rfl rfl
    · cases h
  · rename_i hc
    split at h
    · rename_i u hu; cases h; exact fin false b hc hu rfl rfl
    · cases h
  · cases h

variable (hT : ∀ t ti, T.get t = some ti → TypeOK P t ti)
include hT

theorem lAlloc_ok {t : Nat} (ho : o.op = .alloc t) (h : lAlloc T S t = some (v, S')) : LightOK P T tm o S S' v := by
  unfold lAlloc at h
  split at h
  · rename_i ti hti
    have hto := hT t ti hti
    rw [newBlk_eq] at h
    cases h
    refine .inr ⟨_, rfl, rfl, fun ρ S2 w E hR _ hget hnone _ => ?_⟩
    obtain ⟨z, hz, hzc, _, _⟩ := hto.run_zero w
    refine ⟨.cells z.cells t, { cb := w.heap.size, base := 0, ext := len ti.zero, esz := eszOf T ti, csz := len ti.zero, fam := S.next, opn := false }, w, .pointer (some ⟨w.heap.size, 0, none⟩), rfl, rfl, rfl, rfl, ?_, rfl, rfl, ?_, ?_⟩
    · simp [execOp, ho, Instr.alloc, hz, newVar, newRow]
    · exact orel_closed hnone hzc (const_rel fun u hu => (hto.zok u hu).1) (fun u hu => (hto.zok u hu).2)
    · exact .ptr (b := S.next) (o := 0) (Rho.put_same _ _ _)
  · cases h

omit hT in
theorem lBox_ok {t : Nat} {x : Operand} (ho : o.op = .box t x) (h : lBox T tm S t x = some (v, S')) : LightOK P T tm o S S' v := by
  unfold lBox at h
  split at h
  · rename_i u ti hu hti
    rw [newBlk_eq] at h
    split at h
    · rename_i hn heq
      cases heq
      cases h
      refine .inr ⟨_, rfl, rfl, fun ρ S2 w E hR _ hget hnone hop => ?_⟩
      have hx := hop x (by rw [ho]; simp [Op.operands]) _ hu
      obtain ⟨k1, k2⟩ := cells_rel hx hn
      refine ⟨.cells (E x).cells t, { cb := w.heap.size, base := 0, ext := len (cellsOf u), esz := eszOf T ti, csz := len (cellsOf u), fam := S.next, opn := false }, w, .pointer (some ⟨w.heap.size, 0, none⟩), rfl, rfl, rfl, rfl, ?_, rfl, rfl, ?_, ?_⟩
      · simp [execOp, ho, Instr.box, newVar, newRow]
      · exact orel_closed hnone rfl k1 k2
      · exact .ptr (b := S.next) (o := 0) (Rho.put_same _ _ _)
    · cases h
  · cases h

theorem lLoad_ok {t : Nat} {x : Operand} (ho : o.op = .load t x) (h : lLoad T tm S t x = some (v, S')) : LightOK P T tm o S S' v := by
  unfold lLoad at h
  split at h
  · rename_i a ti hx hti
    have hto := hT t ti hti
    have hfoot : footOf T tm o.op = some (a, match ti.agg with | true => ti.size | false => 1) := by
      rw [ho]; unfold footOf; simp only [hx, hti]; cases ti.agg <;> rfl
    split at h
    · rename_i hag
      rw [hag] at hfoot
      split at h
      · rename_i cs hl
        cases h
        refine .inl ⟨rfl, fun ρ S2 w E hR hc hop => ?_⟩
        have hl2 := hc.foot hfoot hl
        obtain ⟨cx, hcx, hp⟩ := hop.at (x := x) (by rw [ho]; simp [Op.operands]) hx
        cases hp with
        | same hc => simp [constOK] at hc
        | ptr hb =>
          obtain ⟨l', g1, g2, g3, g4, _⟩ := loadN_run hR hb hl2
          refine ⟨.agg l'.toArray, ?_, .agg g1.1 g1.2 g2⟩
          have e1 := hto.run_agg w
          rw [hag] at e1
          have e2 := hto.run_size w
          have e3 := g4 P
          simp only [RI.at] at e3
          simp [execOp, ho, hcx, Instr.loadAt, Instr.sureAddr, loadVar, e1, e2, e3]
      · cases h
    · rename_i hag
      rw [hag] at hfoot
      split at h
      · rename_i u hl
        cases h
        refine .inl ⟨rfl, fun ρ S2 w E hR hc hop => ?_⟩
        have hl2 := hc.foot hfoot hl
        obtain ⟨cx, hcx, hp⟩ := hop.at (x := x) (by rw [ho]; simp [Op.operands]) hx
        cases hp with
        | same hc => simp [constOK] at hc
        | @ptr b oo r hb =>
          obtain ⟨l', g1, g2, g3, _, g4⟩ := loadN_rel hR hb hl2
          obtain ⟨u', l2, rfl, hu, hl3⟩ := g1.cons_inv
          obtain rfl := hl3.nil_inv
          refine ⟨u', ?_, hu⟩
          have e1 := hto.run_agg w
          rw [hag] at e1
          have e3 := g4 0 u' rfl
          simp only [Nat.add_zero, RI.at] at e3
          simp [execOp, ho, hcx, Instr.loadAt, Instr.sureAddr, loadVar, e1, e3]
      · cases h
  · cases h
end
end Go.AM
