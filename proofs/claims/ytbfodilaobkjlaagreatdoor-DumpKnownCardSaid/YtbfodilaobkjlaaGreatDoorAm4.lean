/- The abstract machine: new blocks; an append, wherever it lands. -/
import Derived.Test.YtbfodilaobkjlaaGreatDoorAm3
import Derived.Laws.Append
namespace Go.AM

theorem Rel.of_heap {ρ : Rho} {S : AS} {w w' : World} (h : Rel ρ S w) (e : w'.heap = w.heap) : Rel ρ S w' := by
  refine ⟨h.next, h.fam, h.fams, fun b r hb => ?_, h.apart, h.tip⟩
  obtain ⟨O, hO, hr⟩ := h.obj b r hb
  refine ⟨O, hO, ?_⟩
  cases O <;> simp only [ORel, e] at hr ⊢ <;> exact hr

theorem Ext.of_heap {ρ ρ' : Rho} {S S' : AS} {w w' w2 : World} (h : Ext ρ S w ρ' S' w') (e : w2.heap = w'.heap) (h1 : w2.os = w'.os) (h2 : w2.tape = w'.tape) (h3 : w2.output = w'.output) :
    Ext ρ S w ρ' S' w2 :=
  ⟨h.le, h.next, h.new, h.keep, h.keepF, h.newF, h.cb, fun k a b => by rw [e]; exact h.frame k a b, by rw [e]; exact h.size, h1.trans h.os, h2.trans h.tape, h3.trans h.output, h.stat⟩

theorem Rel.lt {ρ : Rho} {S : AS} {w : World} (h : Rel ρ S w) {b : Nat} {r : RI} (hb : ρ b = some r) : b < S.next := by
  obtain ⟨O, hO, _⟩ := h.obj b r hb
  exact h.next b O hO
theorem Rel.cb_lt {ρ : Rho} {S : AS} {w : World} (h : Rel ρ S w) {b : Nat} {r : RI} (hb : ρ b = some r) : r.cb < w.heap.size := by
  obtain ⟨O, hO, hr⟩ := h.obj b r hb
  have lt : ∀ {x : Obj}, w.heap[r.cb]? = some x → r.cb < w.heap.size := fun hx => (Array.getElem?_eq_some_iff.1 hx).1
  cases O with
  | blk B => obtain ⟨_, _, _, _, _, c, e, lo, hi, hw, _⟩ := hr; exact lt hw
  | map es => obtain ⟨_, es', clock, hw, _⟩ := hr; exact lt hw
  | iter s pos => obtain ⟨_, s', hw, _⟩ := hr; exact lt hw
theorem Rel.new_none {ρ : Rho} {S : AS} {w : World} (h : Rel ρ S w) : ρ S.next = none := by
  cases hb : ρ S.next with
  | none => rfl
  | some r => have := h.lt hb; omega
theorem Rel.fresh_fams {ρ : Rho} {S : AS} {w : World} (h : Rel ρ S w) : S.fams.get S.next = none := by
  cases hb : S.fams.get S.next with
  | none => rfl
  | some p => have := (h.fams _ _ hb).1; omega
theorem Rel.fresh_heap {ρ : Rho} {S : AS} {w : World} (h : Rel ρ S w) : S.heap.get S.next = none := by
  cases hb : S.heap.get S.next with
  | none => rfl
  | some p => have := h.next _ _ hb; omega

/-- One object more in the abstract memory. -/
noncomputable def AS.more (S : AS) (O : AObj) : AS := { heap := S.heap.set S.next O, next := S.next + 1, fams := S.fams }

def AObj.own (n : Nat) : AObj → Prop
  | .blk B => B.fam = n
  | _ => True

theorem rel_more {ρ : Rho} {S : AS} {w : World} (h : Rel ρ S w) {O : AObj} (hO : O.own S.next) : Rel ρ (S.more O) w := by
  have hf := h.fresh_fams
  refine ⟨?_, ?_, ?_, ?_, h.apart, ?_⟩
  · intro b X hb
    simp only [AS.more] at hb ⊢
    rw [Tr.get_set_if] at hb
    by_cases he : b = S.next
    · omega
    · rw [if_neg he] at hb; have := h.next _ _ hb; omega
  · intro b B hb
    simp only [AS.more] at hb
    rw [Tr.get_set_if] at hb
    by_cases he : b = S.next
    · rw [if_pos he] at hb
      cases hb
      simp only [AObj.own] at hO
      rw [hO]
      simp only [tipOf, AS.more, hf]
      omega
    · rw [if_neg he] at hb
      exact h.fam _ _ hb
  · intro f p hp
    have := h.fams f p hp
    simp only [AS.more]
    omega
  · intro b r hb
    obtain ⟨X, hX, hr⟩ := h.obj b r hb
    have hne : b ≠ S.next := by have := h.lt hb; omega
    refine ⟨X, by simp only [AS.more]; rw [Tr.get_set_ne _ _ _ _ hne]; exact hX, ?_⟩
    cases X <;> exact hr
  · intro b1 b2 r1 r2 B1 h1 h2 h3 h4 h5 h6
    have hne : b1 ≠ S.next := by have := h.lt h1; omega
    simp only [AS.more] at h4
    rw [Tr.get_set_ne _ _ _ _ hne] at h4
    exact h.tip b1 b2 r1 r2 B1 h1 h2 h3 h4 h5 h6

theorem ext_more {ρ0 ρ : Rho} {S0 S : AS} {w0 w : World} (h : Ext ρ0 S0 w0 ρ S w) (O : AObj) : Ext ρ0 S0 w0 ρ (S.more O) w := by
  refine ⟨h.le, Nat.le_trans h.next (Nat.le_succ _), h.new, fun b hb hn => ?_, h.keepF, h.newF, h.cb, h.frame, h.size, h.os, h.tape, h.output, fun b B hb hB => ?_⟩
  · simp only [AS.more]
    rw [Tr.get_set_ne _ _ _ _ (by have := h.next; omega)]
    exact h.keep b hb hn
  · obtain ⟨B2, k⟩ := h.stat b B hb hB
    refine ⟨B2, ?_, k.2⟩
    simp only [AS.more]
    rw [Tr.get_set_ne _ _ _ _ (by have := h.next; omega)]
    exact k.1

def Rho.put (ρ : Rho) (n : Nat) (r : RI) : Rho := fun b => if b = n then some r else ρ b
theorem Rho.put_same (ρ : Rho) (n : Nat) (r : RI) : ρ.put n r n = some r := if_pos rfl
theorem Rho.put_ne (ρ : Rho) {n b : Nat} (r : RI) (h : b ≠ n) : ρ.put n r b = ρ b := if_neg h
theorem Rho.le_put {ρ : Rho} {n : Nat} (r : RI) (h : ρ n = none) : ρ.le (ρ.put n r) := fun b x hb => by
  rw [Rho.put_ne]; exact hb
  intro he; rw [he, h] at hb; cases hb

theorem alloc_get_old (w : World) (X : Obj) {k : Nat} (h : k < w.heap.size) : (w.alloc X).heap[k]? = w.heap[k]? := by
  show (w.heap.push X)[k]? = _
  rw [Array.getElem?_push, if_neg (by omega)]
theorem alloc_get_new (w : World) (X : Obj) : (w.alloc X).heap[w.heap.size]? = some X := by
  show (w.heap.push X)[w.heap.size]? = _
  rw [Array.getElem?_push, if_pos rfl]

theorem ORel.mono {ρ ρ' : Rho} {S : AS} {w w' : World} {b : Nat} {r : RI} {O : AObj} (hl : ρ.le ρ') (hw : w'.heap[r.cb]? = w.heap[r.cb]?) (h : ORel ρ S w b r O) : ORel ρ' S w' b r O := by
  cases O with
  | blk B =>
    obtain ⟨e1, e2, e3, e4, e5, c, e, lo, hi, h1, h2, h3, h4⟩ := h
    refine ⟨e1, e2, e3, e4, e5, c, e, lo, hi, hw.trans h1, h2, h3, fun ha i hi => ?_⟩
    obtain ⟨v, v', k1, k2, k3, k4⟩ := h4 ha i hi
    exact ⟨v, v', k1, k2, k3.mono hl, k4⟩
  | map es =>
    obtain ⟨q, es', clock, h1, h2, h3⟩ := h
    exact ⟨q, es', clock, hw.trans h1, h2, fun i p e a b => ⟨(h3 i p e a b).1.mono hl, (h3 i p e a b).2.mono hl⟩⟩
  | iter s pos =>
    obtain ⟨q, s', h1, h2⟩ := h
    exact ⟨q, s', hw.trans h1, h2⟩

/-- An abstract object that no block of the model stood for gets its block. -/
theorem rel_real {ρ : Rho} {S : AS} {w : World} (h : Rel ρ S w) {n : Nat} {O : AObj} {r : RI} {X : Obj} (hn : ρ n = none) (hO : S.heap.get n = some O)
    (hcb : r.cb = w.heap.size) (hfam : ∀ b x, ρ b = some x → x.cb ≠ r.cb) (hrel : ORel (ρ.put n r) S (w.alloc X) n r O) : Rel (ρ.put n r) S (w.alloc X) := by
  have _ := hfam
  refine ⟨h.next, h.fam, h.fams, ?_, ?_, ?_⟩
  · intro b x hb
    by_cases he : b = n
    · subst he; rw [Rho.put_same] at hb; cases hb; exact ⟨O, hO, hrel⟩
    · rw [Rho.put_ne _ _ he] at hb
      obtain ⟨Y, hY, hr⟩ := h.obj b x hb
      exact ⟨Y, hY, hr.mono (Rho.le_put r hn) (alloc_get_old w X (h.cb_lt hb))⟩
  · intro b1 b2 r1 r2 h1 h2 h3
    by_cases e1 : b1 = n
    · subst e1; rw [Rho.put_same] at h1; cases h1
      by_cases e2 : b2 = b1
      · subst e2; rw [Rho.put_same] at h2; cases h2; rfl
      · rw [Rho.put_ne _ _ e2] at h2; have := h.cb_lt h2; omega
    · rw [Rho.put_ne _ _ e1] at h1
      by_cases e2 : b2 = n
      · subst e2; rw [Rho.put_same] at h2; cases h2; have := h.cb_lt h1; omega
      · rw [Rho.put_ne _ _ e2] at h2; exact h.apart b1 b2 r1 r2 h1 h2 h3
  · intro b1 b2 r1 r2 B1 h1 h2 h3 h4 h5 h6
    by_cases e1 : b1 = n
    · subst e1; rw [Rho.put_same] at h1; cases h1
      by_cases e2 : b2 = b1
      · subst e2; rw [Rho.put_same] at h2; cases h2; exact Nat.le_refl _
      · rw [Rho.put_ne _ _ e2] at h2; have := h.cb_lt h2; omega
    · rw [Rho.put_ne _ _ e1] at h1
      by_cases e2 : b2 = n
      · subst e2; rw [Rho.put_same] at h2; cases h2; have := h.cb_lt h1; omega
      · rw [Rho.put_ne _ _ e2] at h2; exact h.tip b1 b2 r1 r2 B1 h1 h2 h3 h4 h5 h6

theorem ext_real {ρ0 ρ : Rho} {S0 S : AS} {w0 w : World} (h : Ext ρ0 S0 w0 ρ S w) {n : Nat} {r : RI} (X : Obj) (hn : ρ n = none) (hge : S0.next ≤ n)
    (hcb : r.cb = w.heap.size) (hfam : S0.next ≤ r.fam ∨ ∃ b0 r0, ρ0 b0 = some r0 ∧ r0.fam = r.fam) : Ext ρ0 S0 w0 (ρ.put n r) S (w.alloc X) := by
  refine ⟨Rho.le_trans h.le (Rho.le_put r hn), h.next, ?_, h.keep, h.keepF, ?_, ?_, ?_, ?_, h.os, h.tape, h.output, h.stat⟩
  · intro b x hb h0
    by_cases he : b = n
    · omega
    · rw [Rho.put_ne _ _ he] at hb; exact h.new b x hb h0
  · intro b x hb h0
    by_cases he : b = n
    · subst he; rw [Rho.put_same] at hb; cases hb; exact hfam
    · rw [Rho.put_ne _ _ he] at hb; exact h.newF b x hb h0
  · intro b x hb h0
    by_cases he : b = n
    · subst he; rw [Rho.put_same] at hb; cases hb; exact .inl (by have := h.size; omega)
    · rw [Rho.put_ne _ _ he] at hb; exact h.cb b x hb h0
  · intro k hk hne
    rw [alloc_get_old _ _ (Nat.lt_of_lt_of_le hk h.size)]; exact h.frame k hk hne
  · simp only [World.size_alloc]; have := h.size; omega

theorem ext_inplace {ρ0 ρ : Rho} {S0 S : AS} {w0 w : World} (h : Ext ρ0 S0 w0 ρ S w) {n b : Nat} {r r0 : RI} (X : Obj) (hn : ρ n = none) (hge : S0.next ≤ n)
    (hb : ρ0 b = some r0) (hcb : r.cb = r0.cb) (hfam : r.fam = r0.fam) : Ext ρ0 S0 w0 (ρ.put n r) S (setObj w r0.cb X) := by
  refine ⟨Rho.le_trans h.le (Rho.le_put r hn), h.next, ?_, h.keep, h.keepF, ?_, ?_, ?_, by rw [setObj_size]; exact h.size, h.os, h.tape, h.output, h.stat⟩
  · intro b x hb h0
    by_cases he : b = n
    · omega
    · rw [Rho.put_ne _ _ he] at hb; exact h.new b x hb h0
  · intro x y hy h0
    by_cases he : x = n
    · subst he; rw [Rho.put_same] at hy; cases hy; exact .inr ⟨b, r0, hb, hfam.symm⟩
    · rw [Rho.put_ne _ _ he] at hy; exact h.newF x y hy h0
  · intro x y hy h0
    by_cases he : x = n
    · subst he; rw [Rho.put_same] at hy; cases hy; exact .inr ⟨b, r0, hb, hcb.symm⟩
    · rw [Rho.put_ne _ _ he] at hy; exact h.cb x y hy h0
  · intro k hk hne
    rw [setObj_get_ne (hne b r0 hb)]; exact h.frame k hk hne

/-- Cells that stand as a list. -/
theorem nth_mod {l : List Value} {i : Nat} (h : i < l.length) : nth l (Nat.mod i (Nat.succ (len l))) = l[i]? := by
  rw [nth_eq, len_eq]
  have : Nat.mod i (Nat.succ l.length) = i := Nat.mod_eq_of_lt (by omega)
  rw [this]

theorem drew_rel {ρ : Rho} {S : AS} {w : World} (h : Rel ρ S w) : Rel ρ S w.drew := h.of_heap rfl
end Go.AM
