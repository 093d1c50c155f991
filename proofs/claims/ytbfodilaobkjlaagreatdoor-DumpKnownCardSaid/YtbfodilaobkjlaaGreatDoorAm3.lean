/- The abstract machine: a store is the model's. -/
import Derived.Test.YtbfodilaobkjlaaGreatDoorAm2
import Derived.Laws.AppendOwn
namespace Go.AM

def setObj (w : World) (k : Nat) (o : Obj) : World := { w with heap := w.heap.setIfInBounds k o }

theorem setObj_size (w : World) (k : Nat) (o : Obj) : (setObj w k o).heap.size = w.heap.size := by simp [setObj]
theorem setObj_get (w : World) (k j : Nat) (o : Obj) : (setObj w k o).heap[j]? = if k = j then (if k < w.heap.size then some o else none) else w.heap[j]? := by
  simp only [setObj, Array.getElem?_setIfInBounds]
theorem setObj_get_same {w : World} {k : Nat} {o x : Obj} (h : w.heap[k]? = some x) : (setObj w k o).heap[k]? = some o := by
  rw [setObj_get, if_pos rfl, if_pos (Array.getElem?_eq_some_iff.1 h).1]
theorem setObj_get_ne {w : World} {k j : Nat} {o : Obj} (h : k ≠ j) : (setObj w k o).heap[j]? = w.heap[j]? := by rw [setObj_get, if_neg h]
theorem setObj_setObj (w : World) (k : Nat) (o x : Obj) : setObj (setObj w k o) k x = setObj w k x := by
  simp [setObj]
theorem setObj_self {w : World} {k : Nat} {o : Obj} (h : w.heap[k]? = some o) : setObj w k o = w := by
  have : w.heap.setIfInBounds k o = w.heap := by
    apply Array.ext_getElem?
    intro j
    rw [Array.getElem?_setIfInBounds]
    by_cases hj : k = j
    · subst hj; rw [if_pos rfl, if_pos (Array.getElem?_eq_some_iff.1 h).1, h]
    · rw [if_neg hj]
  simp [setObj, this]

theorem setCell_eq {w : World} {k j : Nat} {c : Array Value} {e : TypeId} {f : Nat × Nat} (v : Value) (h : w.heap[k]? = some (.cells c e f)) :
    w.setCell ⟨k, j, none⟩ v = setObj w k (.cells (c.setIfInBounds j v) e f) := by
  have hk : k < w.heap.size := (Array.getElem?_eq_some_iff.1 h).1
  have hg : w.heap[k] = .cells c e f := (Array.getElem?_eq_some_iff.1 h).2
  simp only [World.setCell, setObj]
  congr 1
  apply Array.ext_getElem?
  intro i
  rw [Array.getElem?_modify, Array.getElem?_setIfInBounds]
  by_cases hi : k = i
  · subst hi; simp [hg, hk]
  · simp [hi]

theorem one_eq (v : Value) : v.oneCell' = isOne v := by cases v <;> rfl

theorem add_none (k o i : Nat) : (⟨k, o, none⟩ : Addr).add i = ⟨k, o + i, none⟩ := by
  unfold Addr.add; split
  · rename_i h; simp [h]
  · rfl

theorem storeCells_run (P : Program) (k off : Nat) (e : TypeId) (lo hi : Nat) : ∀ (vs : List Value) (i : Nat) (w : World) (c : Array Value),
    w.heap[k]? = some (.cells c e (lo, hi)) → off + i + vs.length ≤ c.size → (hi ≤ lo ∨ c.size ≤ lo) → (∀ v ∈ vs, isOne v = true) →
    ∃ c2 : Array Value, (storeCells ⟨k, off, none⟩ vs i).run P w = .ok () (setObj w k (.cells c2 e (lo, hi))) ∧ c2.size = c.size ∧
      ∀ j, c2[j]? = if off + i ≤ j ∧ j < off + i + vs.length then vs[j - (off + i)]? else c[j]? := by
  intro vs
  induction vs with
  | nil =>
    intro i w c h _ _ _
    refine ⟨c, ?_, rfl, fun j => by rw [if_neg (fun ⟨h1, h2⟩ => by simp at h2; omega)]⟩
    rw [setObj_self h]; rfl
  | cons v vs ih =>
    intro i w c h hfit hf h1
    rw [List.length_cons] at hfit
    have hone : v.oneCell' = true := by rw [one_eq]; exact h1 v (by simp)
    have hlt : off + i < c.size := by omega
    have hcell : w.cell? ((⟨k, off, none⟩ : Addr).add i) = some c[off + i] := by
      rw [add_none]; simp [World.cell?, h, hlt]
    have hfr : w.frozen? ((⟨k, off, none⟩ : Addr).add i) = false := by
      rw [add_none]; simp [World.frozen?, h]; omega
    have hs := run_store P w ((⟨k, off, none⟩ : Addr).add i) v .plain hone
    rw [hcell] at hs
    simp only [hfr, Bool.false_eq_true, if_false] at hs
    rw [add_none, setCell_eq v h] at hs
    obtain ⟨c2, e1, e2, e3⟩ := ih (i + 1) (setObj w k (.cells (c.setIfInBounds (off + i) v) e (lo, hi))) (c.setIfInBounds (off + i) v) (setObj_get_same h) (by simp; omega)
      (by simpa using hf) (fun u hu => h1 u (by simp [hu]))
    refine ⟨c2, ?_, by simpa using e2, fun j => ?_⟩
    · simp only [storeCells, Sem.run_bind, add_none, hs, Result.andThen_ok]
      rw [e1, setObj_setObj]
    · rw [e3 j, List.length_cons]
      by_cases hj : off + i = j
      · subst hj
        rw [if_neg (by omega), if_pos (by omega)]; simp [hlt]
      · by_cases h2 : off + (i + 1) ≤ j ∧ j < off + (i + 1) + vs.length
        · rw [if_pos h2, if_pos (by omega), show j - (off + i) = (j - (off + (i + 1))) + 1 from by omega, List.getElem?_cons_succ]
        · rw [if_neg h2, if_neg (by omega), Array.getElem?_setIfInBounds_ne hj]

theorem storeN_some {S S' : AS} {a : Addr} {vs : List Value} (h : storeN S a vs = some S') : ∃ b o B, a = ⟨b, o, none⟩ ∧ getBlk S b = some B ∧ (tipOf S B.fam).1 = b ∧ o + vs.length ≤ B.ext ∧
    S' = { heap := S.heap.set b (.blk { B with cells := putCells vs o B.cells }), next := S.next,
           fams := match S.fams.get B.fam with | some _ => S.fams.set B.fam (b, b) | none => S.fams } := by
  unfold storeN at h
  split at h
  · rename_i b o
    split at h
    · rename_i B hB
      split at h
      · rename_i ht hle
        cases h
        refine ⟨b, o, B, rfl, hB, ?_, ?_, rfl⟩
        · rw [tip_def] at ht; exact Nat.eq_of_beq_eq_true ht
        · have := Nat.le_of_ble_eq_true hle; rwa [len_eq] at this
      · cases h
    · cases h
  · cases h

theorem tipOf_store (S : AS) (b : Nat) (F : Nat) (ht : (tipOf S F).1 = b) (H : Tr AObj) (n : Nat) (f : Nat) :
    (tipOf { heap := H, next := n, fams := match S.fams.get F with | some _ => S.fams.set F (b, b) | none => S.fams } f).1 = (tipOf S f).1 := by
  unfold tipOf
  cases hF : S.fams.get F with
  | none => simp
  | some p =>
    simp only
    rw [Tr.get_set_if]
    by_cases hf : f = F
    · subst hf
      rw [if_pos rfl]
      simp only [tipOf, hF] at ht ⊢
      exact ht.symm
    · rw [if_neg hf]

theorem store_sim {ρ : Rho} {S S' : AS} {w : World} (hR : Rel ρ S w) {b o : Nat} {r : RI} (hb : ρ b = some r) {vs vs' : List Value} (hv : VsRel ρ vs vs')
    (h1 : ∀ v ∈ vs, isOne v = true) (h : storeN S ⟨b, o, none⟩ vs = some S') :
    ∃ w', (∀ P, (storeCells (r.at o) vs').run P w = .ok () w') ∧ Rel ρ S' w' ∧ Ext ρ S w ρ S' w' := by
  obtain ⟨b', o', B, he, hB, htip, hle, rfl⟩ := storeN_some h
  cases he
  obtain ⟨hh, ha⟩ := getBlk_some hB
  obtain ⟨O, hO, hrel⟩ := hR.obj b r hb
  rw [hh] at hO
  cases hO
  obtain ⟨e1, e2, e3, e5, hfit, c, e, lo, hi, hw, hs, hf, hcells⟩ := hrel
  have hC := hcells ha
  have hlen := hv.1
  have h1' : ∀ v ∈ vs', isOne v = true := fun v hvm => by
    obtain ⟨i, hi⟩ := List.getElem?_of_mem hvm
    have hlt : i < vs.length := by have := (List.getElem?_eq_some_iff.1 hi).1; omega
    rw [(hv.2 i vs[i] v (List.getElem?_eq_getElem hlt) hi).one]
    exact h1 _ (List.getElem_mem hlt)
  obtain ⟨c2, g1, g2, g3⟩ := storeCells_run default r.cb (r.base + o) e lo hi vs' 0 w c hw (by omega) (by omega) h1'
  have hrun : ∀ P, (storeCells (r.at o) vs').run P w = .ok () (setObj w r.cb (.cells c2 e (lo, hi))) := fun P => by
    obtain ⟨c3, k1, k2, k3⟩ := storeCells_run P r.cb (r.base + o) e lo hi vs' 0 w c hw (by omega) (by omega) h1'
    have : c3 = c2 := by
      apply Array.ext_getElem?
      intro j
      rw [k3 j, g3 j]
    rw [this] at k1
    exact k1
  refine ⟨_, hrun, ?_, ?_⟩
  · have tips := tipOf_store S b B.fam htip (S.heap.set b (.blk { B with cells := putCells vs o B.cells })) S.next
    have hbF := hR.fam b B hh
    -- alive behind the store
    have aliveS : ∀ b1 B1, S.heap.get b1 = some (.blk B1) → b1 ≠ b →
        B1.alive { heap := S.heap.set b (.blk { B with cells := putCells vs o B.cells }), next := S.next, fams := match S.fams.get B.fam with | some _ => S.fams.set B.fam (b, b) | none => S.fams } b1 = true →
        B1.alive S b1 = true ∧ B1.fam ≠ B.fam := by
      intro b1 B1 hb1 hne hal
      have hF1 := hR.fam b1 B1 hb1
      rw [alive_def] at hal ⊢
      unfold tipOf at hal hF1 htip hbF ⊢
      cases hF : S.fams.get B.fam with
      | none =>
        rw [hF] at hal
        refine ⟨hal, fun hfe => hne ?_⟩
        rw [hF] at htip
        rw [hfe, hF] at hF1
        simp at htip hF1
        omega
      | some p =>
        rw [hF] at hal
        simp only at hal
        rw [Tr.get_set_if] at hal
        by_cases hfe : B1.fam = B.fam
        · rw [if_pos hfe] at hal
          simp only at hal
          have := Nat.le_of_ble_eq_true hal
          rw [hfe, hF] at hF1
          rw [hF] at htip
          simp at htip hF1
          omega
        · rw [if_neg hfe] at hal
          exact ⟨hal, hfe⟩
    refine ⟨?_, ?_, ?_, ?_, hR.apart, ?_⟩
    · intro b1 O1 h2
      dsimp only at h2 ⊢
      rw [Tr.get_set_if] at h2
      by_cases hb1 : b1 = b
      · subst hb1; exact hR.next _ _ hh
      · rw [if_neg hb1] at h2; exact hR.next _ _ h2
    · intro b1 B1 h2
      dsimp only at h2
      rw [Tr.get_set_if] at h2
      rw [tips]
      by_cases hb1 : b1 = b
      · subst hb1; rw [if_pos rfl] at h2; cases h2; exact hbF
      · rw [if_neg hb1] at h2; exact hR.fam _ _ h2
    · intro f p h2
      dsimp only at h2 ⊢
      cases hF : S.fams.get B.fam with
      | none => rw [hF] at h2; exact hR.fams _ _ h2
      | some q =>
        rw [hF] at h2
        simp only at h2
        rw [Tr.get_set_if] at h2
        by_cases hfe : f = B.fam
        · rw [if_pos hfe] at h2
          cases h2
          rw [hfe]
          exact ⟨(hR.fams _ _ hF).1, hR.next _ _ hh⟩
        · rw [if_neg hfe] at h2; exact hR.fams _ _ h2
    · intro b1 r1 hb1
      obtain ⟨O1, hO1, hrel1⟩ := hR.obj b1 r1 hb1
      by_cases hne : b1 = b
      · subst hne
        rw [hb] at hb1
        cases hb1
        refine ⟨_, Tr.get_set _ _ _, e1, e2, e3, e5, hfit, c2, e, lo, hi, setObj_get_same hw, by omega, by omega, fun _ i hi => ?_⟩
        dsimp only at hi
        have hcell : ({ B with cells := putCells vs o B.cells } : ABlk).cell i = if o ≤ i ∧ i < o + vs.length then vs[i - o]? else B.cell i := by
          unfold ABlk.cell
          dsimp only
          rw [get_putCells]
          by_cases hin : o ≤ i ∧ i < o + vs.length
          · rw [if_pos hin, if_pos hin, List.getElem?_eq_getElem (by omega)]
          · rw [if_neg hin, if_neg hin]
        rw [hcell, g3]
        by_cases hin : o ≤ i ∧ i < o + vs.length
        · rw [if_pos hin, if_pos (by omega), show r.base + i - (r.base + o + 0) = i - o from by omega]
          have hx : i - o < vs.length := by omega
          refine ⟨vs[i - o], vs'[i - o]'(by omega), List.getElem?_eq_getElem hx, List.getElem?_eq_getElem (by omega), ?_, h1 _ (List.getElem_mem hx)⟩
          exact hv.2 _ _ _ (List.getElem?_eq_getElem hx) (List.getElem?_eq_getElem (by omega))
        · rw [if_neg hin, if_neg (by omega)]
          exact hC i hi
      · refine ⟨O1, by dsimp only; rw [Tr.get_set_ne _ _ _ _ hne]; exact hO1, ?_⟩
        by_cases hcb : r.cb = r1.cb
        · cases O1 with
          | map es => obtain ⟨_, es', clock, hm, _⟩ := hrel1; rw [← hcb, hw] at hm; cases hm
          | iter s pos => obtain ⟨_, s', hm, _⟩ := hrel1; rw [← hcb, hw] at hm; cases hm
          | blk B1 =>
            obtain ⟨f1, f2, f3, f5, ffit, c1, ee, lo1, hi1, hw1, hs1, hfz, _⟩ := hrel1
            rw [← hcb, hw] at hw1
            cases hw1
            refine ⟨f1, f2, f3, f5, ffit, c2, e, lo, hi, by rw [← hcb]; exact setObj_get_same hw, by omega, hfz, fun hal => ?_⟩
            obtain ⟨_, hnf⟩ := aliveS b1 B1 hO1 hne hal
            have := hR.apart b1 b r1 r hb1 hb hcb.symm
            omega
        · cases O1 with
          | map es => obtain ⟨q, es', clock, hm, hes⟩ := hrel1; exact ⟨q, es', clock, by rw [setObj_get_ne hcb]; exact hm, hes⟩
          | iter s pos => obtain ⟨q, s', hm, hes⟩ := hrel1; exact ⟨q, s', by rw [setObj_get_ne hcb]; exact hm, hes⟩
          | blk B1 =>
            obtain ⟨f1, f2, f3, f5, ffit, c1, ee, lo1, hi1, hw1, hs1, hfz, hc1⟩ := hrel1
            exact ⟨f1, f2, f3, f5, ffit, c1, ee, lo1, hi1, by rw [setObj_get_ne hcb]; exact hw1, hs1, hfz, fun hal => hc1 (aliveS b1 B1 hO1 hne hal).1⟩
    · intro b1 b2 r1 r2 B1 h2 h3 h4 h5 h6 h7
      rw [tips] at h7
      dsimp only at h5
      rw [Tr.get_set_if] at h5
      by_cases hne : b1 = b
      · subst hne
        exact hR.tip b1 b2 r1 r2 B h2 h3 h4 hh ha h7
      · rw [if_neg hne] at h5
        exact hR.tip b1 b2 r1 r2 B1 h2 h3 h4 h5 (aliveS b1 B1 h5 hne h6).1 h7
  · refine ⟨Rho.le_refl ρ, Nat.le_refl _, fun b r h k => (by rw [h] at k; cases k), ?_, ?_, fun b r h k => (by rw [h] at k; cases k), fun b r h k => (by rw [h] at k; cases k), ?_, by rw [setObj_size]; exact Nat.le_refl _, rfl, rfl, rfl, ?_⟩
    · intro b1 _ hn
      dsimp only
      rw [Tr.get_set_ne]
      intro hc; rw [hc, hb] at hn; cases hn
    · intro f _ hn
      dsimp only
      cases hF : S.fams.get B.fam with
      | none => rfl
      | some p =>
        simp only
        rw [Tr.get_set_ne]
        intro hc
        exact hn b r hb (by omega)
    · intro k _ hn
      exact setObj_get_ne (hn b r hb)
    · intro b1 B1 _ h1
      by_cases he : b1 = b
      · subst he
        rw [hh] at h1; cases h1
        exact ⟨_, Tr.get_set _ _ _, rfl, rfl, rfl, rfl⟩
      · exact ⟨B1, by dsimp only; rw [Tr.get_set_ne _ _ _ _ he]; exact h1, rfl, rfl, rfl, rfl⟩
end Go.AM
