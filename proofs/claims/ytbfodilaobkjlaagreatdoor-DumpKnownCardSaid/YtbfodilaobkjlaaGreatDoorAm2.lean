/- The abstract machine's memory and the model's world: related; a store, a load, a new block. -/
import Derived.Test.YtbfodilaobkjlaaGreatDoorAm1
import Derived.Laws.Cells
import Derived.Laws.World
namespace Go.AM

def CellsRel (ρ : Rho) (r : RI) (B : ABlk) (c : Array Value) : Prop :=
  ∀ i, i < B.ext → ∃ v v', B.cell i = some v ∧ c[r.base + i]? = some v' ∧ VRel ρ v v' ∧ isOne v = true

def EsRel (ρ : Rho) (es : List (Value × Value)) (es' : List MapEntry) : Prop :=
  es.length = es'.length ∧ ∀ (i : Nat) p e, es[i]? = some p → es'[i]? = some e → VRel ρ p.1 e.key ∧ VRel ρ p.2 e.val

def ORel (ρ : Rho) (S : AS) (w : World) (b : Nat) (r : RI) : AObj → Prop
  | .blk B => B.ext = r.ext ∧ B.esz = r.esz ∧ B.opn = r.opn ∧ B.fam = r.fam ∧ r.base + r.ext ≤ r.csz ∧
      ∃ c e lo hi, w.heap[r.cb]? = some (.cells c e (lo, hi)) ∧ c.size = r.csz ∧ (hi ≤ lo ∨ r.csz ≤ lo) ∧ (B.alive S b = true → CellsRel ρ r B c)
  | .map es => r.fam = b ∧ ∃ es' clock, w.heap[r.cb]? = some (.map es' clock) ∧ EsRel ρ es es'.toList
  | .iter s pos => (r.fam = b ∧ r.base = 0) ∧ ∃ s' : ByteArray, w.heap[r.cb]? = some (.stringIter s' pos) ∧ s'.data.toList = s

structure Rel (ρ : Rho) (S : AS) (w : World) : Prop where
  next : ∀ b O, S.heap.get b = some O → b < S.next
  fam : ∀ b B, S.heap.get b = some (.blk B) → B.fam ≤ b ∧ b ≤ (tipOf S B.fam).1
  fams : ∀ f p, S.fams.get f = some p → f < S.next ∧ p.1 < S.next
  obj : ∀ b r, ρ b = some r → ∃ O, S.heap.get b = some O ∧ ORel ρ S w b r O
  apart : ∀ b1 b2 r1 r2, ρ b1 = some r1 → ρ b2 = some r2 → r1.cb = r2.cb → r1.fam = r2.fam
  tip : ∀ b1 b2 r1 r2 B1, ρ b1 = some r1 → ρ b2 = some r2 → r1.cb = r2.cb → S.heap.get b1 = some (.blk B1) → B1.alive S b1 = true →
    (tipOf S r2.fam).1 = b2 → r1.base + r1.ext ≤ r2.base + r2.ext

structure Ext (ρ : Rho) (S : AS) (w : World) (ρ' : Rho) (S' : AS) (w' : World) : Prop where
  le : ρ.le ρ'
  next : S.next ≤ S'.next
  new : ∀ b r, ρ' b = some r → ρ b = none → S.next ≤ b
  keep : ∀ b, b < S.next → ρ b = none → S'.heap.get b = S.heap.get b
  keepF : ∀ f, f < S.next → (∀ b r, ρ b = some r → r.fam ≠ f) → S'.fams.get f = S.fams.get f
  newF : ∀ b r, ρ' b = some r → ρ b = none → S.next ≤ r.fam ∨ ∃ b0 r0, ρ b0 = some r0 ∧ r0.fam = r.fam
  cb : ∀ b r, ρ' b = some r → ρ b = none → w.heap.size ≤ r.cb ∨ ∃ b0 r0, ρ b0 = some r0 ∧ r0.cb = r.cb
  frame : ∀ k, k < w.heap.size → (∀ b r, ρ b = some r → r.cb ≠ k) → w'.heap[k]? = w.heap[k]?
  size : w.heap.size ≤ w'.heap.size
  os : w'.os = w.os
  tape : w'.tape = w.tape
  output : w'.output = w.output
  stat : ∀ b B, b < S.next → S.heap.get b = some (.blk B) → ∃ B2, S'.heap.get b = some (.blk B2) ∧ B2.ext = B.ext ∧ B2.esz = B.esz ∧ B2.opn = B.opn ∧ B2.fam = B.fam

theorem Rho.le_refl (ρ : Rho) : ρ.le ρ := fun _ _ h => h
theorem Rho.le_trans {a b c : Rho} (h : a.le b) (k : b.le c) : a.le c := fun x r hx => k x r (h x r hx)

theorem Ext.refl (ρ : Rho) (S : AS) (w : World) : Ext ρ S w ρ S w :=
  ⟨Rho.le_refl ρ, Nat.le_refl _, fun b r h k => (by rw [h] at k; cases k), fun _ _ _ => rfl, fun _ _ _ => rfl,
   fun b r h k => (by rw [h] at k; cases k), fun b r h k => (by rw [h] at k; cases k), fun _ _ _ => rfl, Nat.le_refl _, rfl, rfl, rfl, fun _ B _ h => ⟨B, h, rfl, rfl, rfl, rfl⟩⟩

theorem Ext.trans {ρ ρ1 ρ2 : Rho} {S S1 S2 : AS} {w w1 w2 : World} (h : Ext ρ S w ρ1 S1 w1) (k : Ext ρ1 S1 w1 ρ2 S2 w2) : Ext ρ S w ρ2 S2 w2 := by
  have unm : ∀ b, b < S.next → ρ b = none → ρ1 b = none := fun b hb hn => by
    cases h1 : ρ1 b with
    | none => rfl
    | some r => have := h.new b r h1 hn; omega
  refine ⟨Rho.le_trans h.le k.le, Nat.le_trans h.next k.next, ?_, ?_, ?_, ?_, ?_, ?_, Nat.le_trans h.size k.size, k.os.trans h.os, k.tape.trans h.tape, k.output.trans h.output, ?_⟩
  · intro b r hb hn
    cases h1 : ρ1 b with
    | none => exact Nat.le_trans h.next (k.new b r hb h1)
    | some r1 => exact h.new b r1 h1 hn
  · intro b hb hn
    rw [k.keep b (Nat.lt_of_lt_of_le hb h.next) (unm b hb hn), h.keep b hb hn]
  · intro f hf hne
    rw [k.keepF f (Nat.lt_of_lt_of_le hf h.next) ?_, h.keepF f hf hne]
    intro b r hb he
    cases h0 : ρ b with
    | none =>
      rcases h.newF b r hb h0 with h1 | ⟨b0, r0, h1, h2⟩
      · omega
      · exact hne b0 r0 h1 (h2.trans he)
    | some r0 =>
      have h2 := h.le _ _ h0
      rw [hb] at h2
      obtain rfl : r = r0 := Option.some.inj h2
      exact hne b r h0 he
  · intro b r hb hn
    cases h1 : ρ1 b with
    | none =>
      rcases k.newF b r hb h1 with h2 | ⟨b0, r0, h2, h3⟩
      · exact .inl (Nat.le_trans h.next h2)
      · cases h4 : ρ b0 with
        | none =>
          rcases h.newF b0 r0 h2 h4 with h5 | ⟨b1, r1, h5, h6⟩
          · exact .inl (h3 ▸ h5)
          · exact .inr ⟨b1, r1, h5, h6.trans h3⟩
        | some r4 =>
          have := h.le _ _ h4
          rw [h2] at this
          obtain rfl : r0 = r4 := Option.some.inj this
          exact .inr ⟨b0, r0, h4, h3⟩
    | some r1 =>
      have h2 := k.le _ _ h1
      rw [hb] at h2
      obtain rfl : r = r1 := Option.some.inj h2
      exact h.newF b r h1 hn
  · intro b r hb hn
    cases h1 : ρ1 b with
    | none =>
      rcases k.cb b r hb h1 with h2 | ⟨b0, r0, h2, h3⟩
      · exact .inl (Nat.le_trans h.size h2)
      · cases h4 : ρ b0 with
        | none =>
          rcases h.cb b0 r0 h2 h4 with h5 | ⟨b1, r1, h5, h6⟩
          · exact .inl (h3 ▸ h5)
          · exact .inr ⟨b1, r1, h5, h6.trans h3⟩
        | some r4 =>
          have := h.le _ _ h4
          rw [h2] at this
          obtain rfl : r0 = r4 := Option.some.inj this
          exact .inr ⟨b0, r0, h4, h3⟩
    | some r1 =>
      have h2 := k.le _ _ h1
      rw [hb] at h2
      obtain rfl : r = r1 := Option.some.inj h2
      exact h.cb b r h1 hn
  · intro q hq hne
    rw [k.frame q (Nat.lt_of_lt_of_le hq h.size) ?_, h.frame q hq hne]
    intro b r hb he
    cases h0 : ρ b with
    | none =>
      rcases h.cb b r hb h0 with h1 | ⟨b0, r0, h1, h2⟩
      · omega
      · exact hne b0 r0 h1 (h2.trans he)
    | some r0 =>
      have h2 := h.le _ _ h0
      rw [hb] at h2
      obtain rfl : r = r0 := Option.some.inj h2
      exact hne b r h0 he
  · intro b B hlt hb
    obtain ⟨B1, h1, e1, e2, e3, e4⟩ := h.stat b B hlt hb
    obtain ⟨B2, h2, f1, f2, f3, f4⟩ := k.stat b B1 (Nat.lt_of_lt_of_le hlt h.next) h1
    exact ⟨B2, h2, f1.trans e1, f2.trans e2, f3.trans e3, f4.trans e4⟩

/-! Cells -/
theorem cellsFrom_spec (B : ABlk) : ∀ (n o : Nat) (l : List Value), cellsFrom B n o = some l → l.length = n ∧ ∀ i, i < n → B.cell (o + i) = l[i]? := by
  intro n
  induction n with
  | zero => intro o l h; cases h; exact ⟨rfl, fun i hi => by omega⟩
  | succ n ih =>
    intro o l h
    have e : cellsFrom B (n + 1) o = match B.cell o with
      | none => none
      | some v => match cellsFrom B n (o + 1) with
        | none => none
        | some l => some (v :: l) := rfl
    rw [e] at h
    cases hv : B.cell o with
    | none => rw [hv] at h; cases h
    | some v =>
      rw [hv] at h
      cases hl : cellsFrom B n (o + 1) with
      | none => rw [hl] at h; cases h
      | some l1 =>
        rw [hl] at h
        cases h
        obtain ⟨h1, h2⟩ := ih (o + 1) l1 hl
        refine ⟨by simp [h1], fun i hi => ?_⟩
        cases i with
        | zero => simpa using hv
        | succ i => have := h2 i (by omega); rw [show o + (i + 1) = o + 1 + i from by omega, this, List.getElem?_cons_succ]

theorem get_putCells (vs : List Value) : ∀ (o : Nat) (t : Tr Value) (i : Nat), (putCells vs o t).get i = if o ≤ i ∧ i < o + vs.length then vs[i - o]? else t.get i := by
  induction vs with
  | nil => intro o t i; show t.get i = _; rw [if_neg (fun ⟨h1, h2⟩ => by simp at h2; omega)]
  | cons v vs ih =>
    intro o t i
    show (putCells vs (o + 1) (t.set o v)).get i = _
    rw [ih]
    by_cases h1 : o + 1 ≤ i ∧ i < o + 1 + vs.length
    · rw [if_pos h1, if_pos (by rw [List.length_cons]; omega), show i - o = (i - (o + 1)) + 1 from by omega, List.getElem?_cons_succ]
    · rw [if_neg h1, Tr.get_set_if]
      by_cases h2 : i = o
      · rw [if_pos h2, if_pos (by rw [List.length_cons]; omega)]; simp [h2]
      · rw [if_neg h2, if_neg (by rw [List.length_cons]; omega)]

theorem alive_def (S : AS) (b : Nat) (B : ABlk) : B.alive S b = Nat.ble (tipOf S B.fam).2 b := rfl
theorem tip_def (S : AS) (b : Nat) (B : ABlk) : ABlk.tip S b B = Nat.beq (tipOf S B.fam).1 b := rfl

theorem getBlk_some {S : AS} {b : Nat} {B : ABlk} (h : getBlk S b = some B) : S.heap.get b = some (.blk B) ∧ B.alive S b = true := by
  unfold getBlk at h
  split at h
  · rename_i B' hB
    split at h
    · rename_i ha; cases h; exact ⟨hB, ha⟩
    · cases h
  · cases h

theorem loadN_some {S : AS} {a : Addr} {n : Nat} {l : List Value} (h : loadN S a n = some l) : ∃ b o B, a = ⟨b, o, none⟩ ∧ getBlk S b = some B ∧ o + n ≤ B.ext ∧ cellsFrom B n o = some l := by
  unfold loadN at h
  split at h
  · rename_i b o
    split at h
    · rename_i B hB
      split at h
      · rename_i hle
        exact ⟨b, o, B, rfl, hB, Nat.le_of_ble_eq_true hle, h⟩
      · cases h
    · cases h
  · cases h

/-- The model's address of an abstract place. -/
def RI.at (r : RI) (o : Nat) : Addr := ⟨r.cb, r.base + o, none⟩

theorem add_at (r : RI) (o j : Nat) : (r.at o).add j = r.at (o + j) := by
  unfold Addr.add RI.at
  split
  · rename_i h; simp [h]
  · simp [Nat.add_assoc]

theorem cell?_at {w : World} {r : RI} {o : Nat} {c : Array Value} {e : TypeId} {f : Nat × Nat} (h : w.heap[r.cb]? = some (.cells c e f)) : w.cell? (r.at o) = c[r.base + o]? := by
  simp [World.cell?, RI.at, h]

theorem loadN_rel {ρ : Rho} {S : AS} {w : World} (hR : Rel ρ S w) {b o n : Nat} {r : RI} (hb : ρ b = some r) {l : List Value} (h : loadN S ⟨b, o, none⟩ n = some l) :
    ∃ l', VsRel ρ l l' ∧ (∀ v ∈ l, isOne v = true) ∧ l'.length = n ∧ o + n ≤ r.ext ∧ ∀ (j : Nat) v, l'[j]? = some v → w.cell? (r.at (o + j)) = some v := by
  obtain ⟨b', o', B, he, hB, hle, hc⟩ := loadN_some h
  cases he
  obtain ⟨hh, ha⟩ := getBlk_some hB
  obtain ⟨O, hO, hrel⟩ := hR.obj b r hb
  rw [hh] at hO
  cases hO
  obtain ⟨e1, e2, e3, e4, hfit, c, e, lo, hi, hw, hs, hf, hcells⟩ := hrel
  have hC := hcells ha
  obtain ⟨hlen, hget⟩ := cellsFrom_spec B n o l hc
  have hex : ∀ i, i < n → ∃ v v', l[i]? = some v ∧ c[r.base + (o + i)]? = some v' ∧ VRel ρ v v' ∧ isOne v = true := fun i hi => by
    obtain ⟨v, v', h1, h2, h3, h4⟩ := hC (o + i) (by omega)
    rw [hget i hi] at h1
    exact ⟨v, v', h1, h2, h3, h4⟩
  refine ⟨(List.range n).map fun i => c.getD (r.base + (o + i)) undef, ⟨by simp [hlen], ?_⟩, ?_, by simp, by omega, ?_⟩
  · intro i v v' h1 h2
    have hi : i < n := by have := (List.getElem?_eq_some_iff.1 h1).1; omega
    obtain ⟨u, u', h3, h4, h5, _⟩ := hex i hi
    rw [h1] at h3
    obtain rfl : v = u := Option.some.inj h3
    rw [List.getElem?_map, List.getElem?_range hi] at h2
    simp [h4] at h2
    subst h2
    exact h5
  · intro v hv
    obtain ⟨i, hi⟩ := List.getElem?_of_mem hv
    have hlt : i < n := by have := (List.getElem?_eq_some_iff.1 hi).1; omega
    obtain ⟨u, u', h3, _, _, h6⟩ := hex i hlt
    rw [hi] at h3
    obtain rfl : v = u := Option.some.inj h3
    exact h6
  · intro j v hj
    have hlt : j < n := by have := (List.getElem?_eq_some_iff.1 hj).1; simpa using this
    obtain ⟨u, u', h3, h4, _, _⟩ := hex j hlt
    rw [cell?_at hw, h4]
    rw [List.getElem?_map, List.getElem?_range hlt] at hj
    simp [h4] at hj
    rw [hj]

theorem loadN_run {ρ : Rho} {S : AS} {w : World} (hR : Rel ρ S w) {b o n : Nat} {r : RI} (hb : ρ b = some r) {l : List Value} (h : loadN S ⟨b, o, none⟩ n = some l) :
    ∃ l', VsRel ρ l l' ∧ (∀ v ∈ l, isOne v = true) ∧ l'.length = n ∧ (∀ P, (loadCells (r.at o) n).run P w = .ok l'.toArray w) ∧ ∀ (j : Nat) v, l'[j]? = some v → w.cell? ((r.at o).add j) = some v := by
  obtain ⟨l', h1, h2, h3, _, h4⟩ := loadN_rel hR hb h
  have h5 : ∀ (j : Nat) v, l'[j]? = some v → w.cell? ((r.at o).add j) = some v := fun j v hj => by rw [add_at]; exact h4 j v hj
  refine ⟨l', h1, h2, h3, fun P => ?_, h5⟩
  have := run_loadCells_list (P := P) w (r.at o) l' h5
  rwa [h3] at this
end Go.AM
