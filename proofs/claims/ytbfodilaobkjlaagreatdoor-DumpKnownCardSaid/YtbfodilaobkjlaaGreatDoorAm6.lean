/- The abstract machine: an append, wherever it lands: the relation. -/
import Derived.Test.YtbfodilaobkjlaaGreatDoorAm5
namespace Go.AM

/-- A block more in a family that is there: its new tip. -/
noncomputable def AS.grow (S : AS) (B : ABlk) (fr : Nat) : AS := { heap := S.heap.set S.next (.blk B), next := S.next + 1, fams := S.fams.set B.fam (S.next, fr) }

theorem grow_tip (S : AS) (B : ABlk) (fr f : Nat) : tipOf (S.grow B fr) f = if f = B.fam then (S.next, fr) else tipOf S f := by
  unfold tipOf AS.grow
  simp only
  rw [Tr.get_set_if]
  by_cases h : f = B.fam
  · rw [if_pos h, if_pos h]
  · rw [if_neg h, if_neg h]

theorem grow_alive {ρ : Rho} {S : AS} {w : World} (h : Rel ρ S w) {B : ABlk} {fr : Nat} (hfr : fr = (tipOf S B.fam).2 ∨ fr = S.next) {b1 : Nat} {B1 : ABlk} (h1 : S.heap.get b1 = some (.blk B1))
    (ha : B1.alive (S.grow B fr) b1 = true) : B1.alive S b1 = true ∧ (B1.fam = B.fam → fr = (tipOf S B.fam).2) := by
  have hlt := h.next _ _ h1
  rw [alive_def, grow_tip] at ha
  rw [alive_def]
  by_cases hf : B1.fam = B.fam
  · rw [if_pos hf] at ha
    have hle := Nat.le_of_ble_eq_true ha
    simp only at hle
    rcases hfr with hfr | hfr
    · refine ⟨?_, fun _ => hfr⟩
      rw [hf, ← hfr]; exact ha
    · omega
  · rw [if_neg hf] at ha
    exact ⟨ha, fun hh => absurd hh hf⟩

theorem rel_grow {ρ : Rho} {S : AS} {w : World} (h : Rel ρ S w) {B : ABlk} {fr : Nat} (hF : B.fam < S.next) (hfr : fr = (tipOf S B.fam).2 ∨ fr = S.next) : Rel ρ (S.grow B fr) w := by
  have heap_old : ∀ b, b ≠ S.next → (S.grow B fr).heap.get b = S.heap.get b := fun b hb => by simp only [AS.grow]; rw [Tr.get_set_ne _ _ _ _ hb]
  refine ⟨?_, ?_, ?_, ?_, h.apart, ?_⟩
  · intro b O hb
    simp only [AS.grow] at hb ⊢
    rw [Tr.get_set_if] at hb
    by_cases he : b = S.next
    · omega
    · rw [if_neg he] at hb; have := h.next _ _ hb; omega
  · intro b B1 hb
    rw [grow_tip]
    simp only [AS.grow] at hb
    rw [Tr.get_set_if] at hb
    by_cases he : b = S.next
    · rw [if_pos he] at hb; cases hb; rw [if_pos rfl]; simp only; omega
    · rw [if_neg he] at hb
      have h1 := h.fam _ _ hb
      have h2 := h.next _ _ hb
      by_cases hf : B1.fam = B.fam
      · rw [if_pos hf]; simp only; omega
      · rw [if_neg hf]; exact h1
  · intro f p hp
    simp only [AS.grow] at hp ⊢
    rw [Tr.get_set_if] at hp
    by_cases hf : f = B.fam
    · rw [if_pos hf] at hp; cases hp; simp only; omega
    · rw [if_neg hf] at hp; have := h.fams _ _ hp; omega
  · intro b r hb
    obtain ⟨O, hO, hr⟩ := h.obj b r hb
    have hne : b ≠ S.next := by have := h.lt hb; omega
    refine ⟨O, (heap_old b hne).trans hO, ?_⟩
    cases O with
    | blk B1 =>
      obtain ⟨e1, e2, e3, e4, e5, c, e, lo, hi, k1, k2, k3, k4⟩ := hr
      exact ⟨e1, e2, e3, e4, e5, c, e, lo, hi, k1, k2, k3, fun ha => k4 (grow_alive h hfr hO ha).1⟩
    | map es => exact hr
    | iter s pos => exact hr
  · intro b1 b2 r1 r2 B1 h1 h2 h3 h4 h5 h6
    rw [heap_old b1 (by have := h.lt h1; omega)] at h4
    rw [grow_tip] at h6
    have hlt2 := h.lt h2
    by_cases hf : r2.fam = B.fam
    · rw [if_pos hf] at h6; simp only at h6; omega
    · rw [if_neg hf] at h6
      exact h.tip b1 b2 r1 r2 B1 h1 h2 h3 h4 (grow_alive h hfr h4 h5).1 h6

theorem ext_grow {ρ : Rho} {S : AS} {w : World} (_h : Rel ρ S w) {B : ABlk} {fr b : Nat} {r : RI} (hb : ρ b = some r) (hF : B.fam = r.fam) : Ext ρ S w ρ (S.grow B fr) w := by
  refine ⟨Rho.le_refl ρ, Nat.le_succ _, fun b r h k => (by rw [h] at k; cases k), ?_, ?_, fun b r h k => (by rw [h] at k; cases k), fun b r h k => (by rw [h] at k; cases k), fun _ _ _ => rfl, Nat.le_refl _, rfl, rfl, rfl, ?_⟩
  · intro x hx _
    simp only [AS.grow]; rw [Tr.get_set_ne _ _ _ _ (by omega)]
  · intro f _ hne
    simp only [AS.grow]; rw [Tr.get_set_ne]
    intro hf; exact hne b r hb (by omega)
  · intro x X hx hX
    exact ⟨X, by simp only [AS.grow]; rw [Tr.get_set_ne _ _ _ _ (by omega)]; exact hX, rfl, rfl, rfl, rfl⟩

theorem rel_inplace {ρ : Rho} {S : AS} {w : World} (h : Rel ρ S w) {m b : Nat} {r r' : RI} {B : ABlk} (hm : ρ m = none) (hb : ρ b = some r) (hcb : r'.cb = r.cb) (hfam : r'.fam = r.fam)
    (htip : (tipOf S r.fam).1 = m) (hO : S.heap.get m = some (.blk B)) {c c2 : Array Value} {e : TypeId} {f : Nat × Nat} (hw : w.heap[r.cb]? = some (.cells c e f)) (hs : c2.size = c.size)
    (hsame : ∀ b1 r1 B1, ρ b1 = some r1 → r1.cb = r.cb → S.heap.get b1 = some (.blk B1) → B1.alive S b1 = true → (∀ j, j < r1.ext → c2[r1.base + j]? = c[r1.base + j]?) ∧ r1.base + r1.ext ≤ r'.base + r'.ext)
    (hrel : ORel (ρ.put m r') S (setObj w r.cb (.cells c2 e f)) m r' (.blk B)) : Rel (ρ.put m r') S (setObj w r.cb (.cells c2 e f)) := by
  have hl := Rho.le_put r' hm
  refine ⟨h.next, h.fam, h.fams, ?_, ?_, ?_⟩
  · intro x y hx
    by_cases he : x = m
    · subst he; rw [Rho.put_same] at hx; cases hx; exact ⟨_, hO, hrel⟩
    · rw [Rho.put_ne _ _ he] at hx
      obtain ⟨O, hO1, hr⟩ := h.obj x y hx
      refine ⟨O, hO1, ?_⟩
      by_cases hc : r.cb = y.cb
      · cases O with
        | map es => obtain ⟨_, es', clock, hmm, _⟩ := hr; rw [← hc, hw] at hmm; cases hmm
        | iter s pos => obtain ⟨_, s', hmm, _⟩ := hr; rw [← hc, hw] at hmm; cases hmm
        | blk B1 =>
          obtain ⟨e1, e2, e3, e4, e5, c1, e0, lo, hi, k1, k2, k3, k4⟩ := hr
          rw [← hc, hw] at k1
          cases k1
          refine ⟨e1, e2, e3, e4, e5, c2, e, lo, hi, by rw [← hc]; exact setObj_get_same hw, by omega, k3, fun ha i hi => ?_⟩
          obtain ⟨v, v', q1, q2, q3, q4⟩ := k4 ha i hi
          exact ⟨v, v', q1, by rw [(hsame x y B1 hx hc.symm hO1 ha).1 i (by omega)]; exact q2, q3.mono hl, q4⟩
      · exact hr.mono hl (setObj_get_ne hc)
  · intro b1 b2 r1 r2 h1 h2 h3
    by_cases e1 : b1 = m
    · subst e1; rw [Rho.put_same] at h1; cases h1
      by_cases e2 : b2 = b1
      · subst e2; rw [Rho.put_same] at h2; cases h2; rfl
      · rw [Rho.put_ne _ _ e2] at h2
        rw [hfam]; exact h.apart b b2 r r2 hb h2 (by omega)
    · rw [Rho.put_ne _ _ e1] at h1
      by_cases e2 : b2 = m
      · subst e2; rw [Rho.put_same] at h2; cases h2
        rw [hfam]; exact h.apart b1 b r1 r h1 hb (by omega)
      · rw [Rho.put_ne _ _ e2] at h2; exact h.apart b1 b2 r1 r2 h1 h2 h3
  · intro b1 b2 r1 r2 B1 h1 h2 h3 h4 h5 h6
    by_cases e1 : b1 = m
    · subst e1; rw [Rho.put_same] at h1; cases h1
      by_cases e2 : b2 = b1
      · subst e2; rw [Rho.put_same] at h2; cases h2; exact Nat.le_refl _
      · rw [Rho.put_ne _ _ e2] at h2
        have := h.apart b b2 r r2 hb h2 (by omega)
        rw [← this, htip] at h6
        exact absurd h6.symm e2
    · rw [Rho.put_ne _ _ e1] at h1
      by_cases e2 : b2 = m
      · subst e2; rw [Rho.put_same] at h2; cases h2
        exact (hsame b1 r1 B1 h1 (by omega) h4 h5).2
      · rw [Rho.put_ne _ _ e2] at h2; exact h.tip b1 b2 r1 r2 B1 h1 h2 h3 h4 h5 h6

/-- What a new block's cells are. -/
structure NewCells (B : ABlk) (all : List Value) : Prop where
  ext : B.ext = all.length
  cell : ∀ j, j < all.length → B.cell j = all[j]?

theorem orel_new {ρ : Rho} {S : AS} {w : World} {m : Nat} {r : RI} {B : ABlk} {all all' : List Value} {c : Array Value} {e : TypeId} (hB : NewCells B all) (hv : VsRel ρ all all') (h1 : ∀ v ∈ all, isOne v = true)
    (he : r.ext = B.ext) (hz : B.esz = r.esz) (ho : B.opn = r.opn) (hf : B.fam = r.fam) (hfit : r.base + r.ext ≤ r.csz) {lo hi : Nat} (hw : w.heap[r.cb]? = some (.cells c e (lo, hi))) (hs : c.size = r.csz) (hfz : hi ≤ lo ∨ r.csz ≤ lo)
    (hc : ∀ j v, all'[j]? = some v → c[r.base + j]? = some v) : ORel ρ S w m r (.blk B) := by
  refine ⟨he.symm, hz, ho, hf, hfit, c, e, lo, hi, hw, hs, hfz, fun _ j hj => ?_⟩
  rw [hB.ext] at hj
  have hj' : j < all'.length := by have := hv.1; omega
  refine ⟨all[j], all'[j], ?_, hc j _ (List.getElem?_eq_getElem hj'), hv.2 j _ _ (List.getElem?_eq_getElem hj) (List.getElem?_eq_getElem hj'), h1 _ (List.getElem_mem hj)⟩
  rw [hB.cell j hj, List.getElem?_eq_getElem hj]

theorem newCells_list (all : List Value) (esz fam ext : Nat) (opn : Bool) (hext : ext = all.length) :
    NewCells { ext := ext, esz, opn, fam, per := Nat.succ (len all), zeros := all, cells := .leaf } all := by
  refine ⟨hext, fun j hj => ?_⟩
  unfold ABlk.cell
  simp only [Tr.get_leaf]
  exact nth_mod hj
end Go.AM
