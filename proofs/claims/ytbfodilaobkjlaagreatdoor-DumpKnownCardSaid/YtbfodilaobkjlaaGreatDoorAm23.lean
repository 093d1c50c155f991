/- The abstract machine: one operation in the order of the text; a region in the order of the text. -/
import Derived.Test.YtbfodilaobkjlaaGreatDoorAm22
import Derived.Orders
import Derived.Recover
namespace Go.AM

def chainOf (cv : Value) : List PanicEntry := [{ v := cv, recovered := false }]

def EndRel (ρ : Rho) (S : AS) (w : World) : AEnd → Ending → World → Prop
  | .ret v S', e', w' => ∃ cv ρ', e' = .returned cv ∧ Rel ρ' S' w' ∧ Ext ρ S w ρ' S' w' ∧ VRel ρ' v cv
  | .pan v S', e', w' => ∃ cv ρ', e' = .panicked (chainOf cv) ∧ Rel ρ' S' w' ∧ Ext ρ S w ρ' S' w' ∧ VRel ρ' v cv

def CallOK (P : Program) (call : CallF) : Prop :=
  ∀ f args S e, call f args S = some e → ∀ ρ w (cargs : Array Value), Rel ρ S w → VsRel ρ args cargs.toList →
    (callFunc f cargs).run P w = .ok (.enter f cargs) w ∧ Calls P f cargs w (EndRel ρ S w e)

section
variable {P : Program} {T : Tr TI} {X : Exts} {call : CallF}
variable (hT : ∀ t ti, T.get t = some ti → TypeOK P t ti) (hK : KeysOK P T) (hX : XOK P X) (hC : CallOK P call)
variable {ρ : Rho} {S : AS} {w : World} {a : AAct} {ca : Act} {o : Oper} {rc : Option Value} {r : AReg}
include hT hK hX hC

theorem heavy_step (h : oneHeavy T X rc call o a S = some r) (hR : Rel ρ S w) (hop : Hop ρ a.tmps ca.eval o.op) (hd : DsRel ρ a.defers ca.defers) :
    ((execOp ca.eval o).run P w = .ok .recover w ∧ ∃ v, rc = some v ∧ r = .norm ⟨putTmp a.tmps o.dst v, a.defers⟩ S) ∨
    ∀ next Q,
      (∀ S' v ds cds cv w' ρ', r = .norm ⟨putTmp a.tmps o.dst v, ds⟩ S' → Rel ρ' S' w' → Ext ρ S w ρ' S' w' → VRel ρ' v cv → DsRel ρ' ds cds → next (({ ca with defers := cds } : Act).put o.dst cv) w') →
      (∀ S' v cv w' ρ', r = .pan v a S' → Rel ρ' S' w' → Ext ρ S w ρ' S' w' → VRel ρ' v cv → Q (.panic (chainOf cv)) ca w') →
      o.upon P ca next Q ((execOp ca.eval o).run P w) := by
  unfold oneHeavy at h
  cases hn : heavyD o.op T X rc a.tmps S with
  | none => rw [hn] at h; cases h
  | some n =>
    rw [hn] at h
    have hk := heavy_ok (rc := rc) (o := o) hT hK hX (n := n) hn hR hop
    cases n with
    | val v S' =>
      have hr : r = .norm ⟨putTmp a.tmps o.dst v, a.defers⟩ S' := by
        have h : kVal o a v S' = some r := h
        unfold kVal at h; cases h; rfl
      subst hr
      rcases hk with ⟨h1, h2, rfl⟩ | hk
      · exact .inl ⟨h1, v, h2, rfl⟩
      · refine .inr fun next Q hN _ => hk ca next Q fun cv w' ρ' g1 g2 g3 => ?_
        exact hN S' v a.defers ca.defers cv w' ρ' rfl g1 g2 g3 (hd.mono g2.le)
    | enter f args =>
      have h : kCall (call f args S) o a = some r := h
      obtain ⟨cargs, h1, h2⟩ := hk
      cases he : call f args S with
      | none => rw [he] at h; cases h
      | some e =>
        rw [he] at h
        obtain ⟨k1, k2⟩ := hC f args S e he ρ w cargs hR h1
        refine .inr fun next Q hN hP => ?_
        rw [h2, k1, Oper.upon_enter]
        refine Calls.mono k2 fun e' w' he' => ?_
        cases e with
        | ret v S' =>
          obtain ⟨cv, ρ', rfl, g1, g2, g3⟩ := he'
          have hr : r = .norm ⟨putTmp a.tmps o.dst v, a.defers⟩ S' := by
            have h : kVal o a v S' = some r := h
            unfold kVal at h; cases h; rfl
          exact hN S' v a.defers ca.defers cv w' ρ' hr g1 g2 g3 (hd.mono g2.le)
        | pan v S' =>
          obtain ⟨cv, ρ', rfl, g1, g2, g3⟩ := he'
          have hr : r = .pan v a S' := by
            have h : some (AReg.pan v a S') = some r := h
            cases h; rfl
          exact hP S' v cv w' ρ' hr g1 g2 g3
    | defer d =>
      have hr : r = .norm ⟨putTmp a.tmps o.dst U, d :: a.defers⟩ S := by
        have h : some (AReg.norm ⟨putTmp a.tmps o.dst U, d :: a.defers⟩ S) = some r := h
        cases h; rfl
      obtain ⟨cd, h1, h2⟩ := hk
      refine .inr fun next Q hN _ => ?_
      rw [h1, Oper.upon_defer]
      exact hN S U (d :: a.defers) (cd :: ca.defers) Go.undef w ρ hr hR (Ext.refl _ _ _) .undef (.cons h2 hd)
    | panic v =>
      have hr : r = .pan v a S := by
        have h : some (AReg.pan v a S) = some r := h
        cases h; rfl
      obtain ⟨cv, h1, h2⟩ := hk
      refine .inr fun next Q _ hP => ?_
      rw [h1, Oper.upon_panic]
      exact hP S v cv w ρ hr hR (Ext.refl _ _ _) h2

omit hX hC in
theorem light_step (h : oneLight T o a S = some r) (hR : Rel ρ S w) (hop : Hop ρ a.tmps ca.eval o.op) :
    ∃ v cv S' w' ρ', r = .norm ⟨putTmp a.tmps o.dst v, a.defers⟩ S' ∧ (execOp ca.eval o).run P w = .ok (.value cv) w' ∧ Rel ρ' S' w' ∧ Ext ρ S w ρ' S' w' ∧ VRel ρ' v cv := by
  unfold oneLight at h
  cases hn : lightD o.op T a.tmps S with
  | none => rw [hn] at h; cases h
  | some p =>
    obtain ⟨v, S'⟩ := p
    rw [hn] at h
    have hr : r = .norm ⟨putTmp a.tmps o.dst v, a.defers⟩ S' := by
      have h : kVal o a v S' = some r := h
      unfold kVal at h; cases h; rfl
    have hl : LightOK P T a.tmps o S S' v := light_ok hT hK hn
    have hl0 := hl
    rcases hl with ⟨rfl, hp⟩ | ⟨O, rfl, hown, hp⟩
    · obtain ⟨cv, g1, g2⟩ := hp ρ _ w ca.eval hR (.inl (Allocs.refl _)) hop
      exact ⟨v, cv, _, w, ρ, hr, g1, hR, Ext.refl _ _ _, g2⟩
    · have hne : ∀ b X, S.heap.get b = some X → b ≠ S.next := fun b X hb => by have := hR.next b X hb; omega
      obtain ⟨cv, w', ρ', g1, g2, g3, g4, _, _⟩ := light_run hl0 (ρ0 := ρ) (SS := S) (w0 := w) (rel_more hR hown) (.inl ⟨fun b X hb => by simp only [AS.more]; rw [Tr.get_set_ne _ _ _ _ (hne b X hb)]; exact hb, rfl⟩)
        (fun O2 hO2 => ⟨by rw [hO2]; exact Tr.get_set _ _ _, hR.new_none⟩) hop (ext_more (Ext.refl _ _ _) O) (Nat.le_refl _)
      exact ⟨v, cv, _, w', ρ', hr, g1, g2, g3, g4⟩

/-- One operation of a region, all that may come of it. -/
theorem one_ok {cops : Array Oper} {N : Nat} (h : oneOp T X rc call cops.toList o a S = some r) (hR : Rel ρ S w) (hA : ActRel ρ N a ca) (hlt : ∀ x, o.dst = some x → x < N) :
    (Region.wanted o (yielded cops ca.tmps) = false ∧ ∃ a', r = .norm a' S ∧ ActRel ρ N a' (ca.put o.dst Go.undef)) ∨
    (Region.wanted o (yielded cops ca.tmps) = true ∧
      (((execOp ca.eval o).run P w = .ok .recover w ∧ ∃ v a', rc = some v ∧ r = .norm a' S ∧ ∀ cv, VRel ρ v cv → ActRel ρ N a' (ca.put o.dst cv)) ∨
      ∀ next Q,
        (∀ a' S' ca' w' ρ', r = .norm a' S' → Rel ρ' S' w' → Ext ρ S w ρ' S' w' → ActRel ρ' N a' ca' → next ca' w') →
        (∀ S' v cv w' ρ', r = .pan v a S' → Rel ρ' S' w' → Ext ρ S w ρ' S' w' → VRel ρ' v cv → Q (.panic (chainOf cv)) ca w') →
        o.upon P ca next Q ((execOp ca.eval o).run P w))) := by
  unfold oneOp at h
  cases hw : wantedA cops.toList a.tmps o with
  | none => rw [hw] at h; cases h
  | some b =>
    rw [hw] at h
    have hwr := wanted_rel (cops := cops) (ca := ca) (ρ := ρ) hw fun g p d v _ _ _ hv => ⟨by rw [hA.size]; exact hA.lt d v hv, hA.tm d v hv⟩
    cases b with
    | false =>
      have h : kVal o a U S = some r := h
      unfold kVal at h
      cases h
      exact .inl ⟨hwr, _, rfl, hA.put .undef hlt⟩
    | true =>
      refine .inr ⟨hwr, ?_⟩
      have h : oneRun T X rc call o a S = some r := h
      unfold oneRun at h
      cases hh : isHeavy o.op with
      | false =>
        rw [hh] at h
        obtain ⟨v, cv, S', w', ρ', g1, g2, g3, g4, g5⟩ := light_step hT hK h hR (hA.hop o.op)
        right
        intro next Q hN _
        rw [g2, Oper.upon_value]
        exact hN _ _ _ _ ρ' g1 g3 g4 ((hA.mono g4.le).put g5 hlt)
      | true =>
        rw [hh] at h
        rcases heavy_step hT hK hX hC h hR (hA.hop o.op) hA.defs with ⟨g1, v, g2, g3⟩ | hk
        · exact .inl ⟨g1, v, _, g2, g3, fun cv hcv => hA.put hcv hlt⟩
        · right
          intro next Q hN hP
          refine hk next Q ?_ hP
          intro S' v ds cds cv w' ρ' g1 g2 g3 g4 g5
          refine hN _ S' _ w' ρ' g1 g2 g3 ?_
          have h2 : ActRel ρ' N ⟨a.tmps, ds⟩ { ca with defers := cds } := ⟨hA.size, hA.lt, fun d v hv => (hA.tm d v hv).mono g3.le, g5⟩
          exact h2.put g4 hlt
end

theorem seqOps_nil (T : Tr TI) (X : Exts) (rc : Option Value) (call : CallF) (ops : List Oper) (a : AAct) (S : AS) : seqOps T X rc call ops [] a S = some (.norm a S) := rfl
theorem seqOps_cons (T : Tr TI) (X : Exts) (rc : Option Value) (call : CallF) (ops : List Oper) (o : Oper) (l : List Oper) (a : AAct) (S : AS) :
    seqOps T X rc call ops (o :: l) a S = kReg (oneOp T X rc call ops o a S) (seqOps T X rc call ops l) := rfl

theorem kReg_some {r : Option AReg} {k : AAct → AS → Option AReg} {x : AReg} (h : kReg r k = some x) : (∃ a S, r = some (.norm a S) ∧ k a S = some x) ∨ (∃ v a S, r = some (.pan v a S) ∧ x = .pan v a S) := by
  cases r with
  | none => cases h
  | some e =>
    cases e with
    | norm a S => exact .inl ⟨a, S, rfl, h⟩
    | pan v a S =>
      have h : some (AReg.pan v a S) = some x := h
      cases h
      exact .inr ⟨v, a, S, rfl, rfl⟩

/-- Every destination lies among the temporaries. -/
def dstsLt (N : Nat) (l : List Oper) : Prop := ∀ o ∈ l, ∀ x, o.dst = some x → x < N

section
variable {P : Program} {T : Tr TI} {X : Exts} {call : CallF}
variable (hT : ∀ t ti, T.get t = some ti → TypeOK P t ti) (hK : KeysOK P T) (hX : XOK P X) (hC : CallOK P call)
include hT hK hX hC

theorem seq_ok {cops : Array Oper} {N : Nat} {ρ0 : Rho} {S0 : AS} {w0 : World} {Q : Exit → Act → World → Prop} {x : AReg} (hN0 : dstsLt N cops.toList)
    (hN : ∀ a' S' ca' w' ρ', x = .norm a' S' → Rel ρ' S' w' → Ext ρ0 S0 w0 ρ' S' w' → ActRel ρ' N a' ca' → Q .normal ca' w')
    (hP : ∀ v a' S' ca' cv w' ρ', x = .pan v a' S' → Rel ρ' S' w' → Ext ρ0 S0 w0 ρ' S' w' → VRel ρ' v cv → DsRel ρ' a'.defers ca'.defers → Q (.panic (chainOf cv)) ca' w') :
    ∀ (l : List Oper) (i : Nat) (a : AAct) (S : AS) (ρ : Rho) (w : World) (ca : Act), cops.toList.drop i = l → seqOps T X none call cops.toList l a S = some x → Rel ρ S w → Ext ρ0 S0 w0 ρ S w → ActRel ρ N a ca →
      wpOps P cops Q (List.range' i l.length) ca w := by
  intro l
  induction l with
  | nil =>
    intro i a S ρ w ca hl h hR hx hA
    rw [seqOps_nil] at h
    cases h
    exact hN a S ca w ρ rfl hR hx hA
  | cons o l ih =>
    intro i a S ρ w ca hl h hR hx hA
    have hi : cops[i]? = some o := by
      rw [← Array.getElem?_toList]
      have := congrArg (·[0]?) hl
      simpa using this
    have hl' : cops.toList.drop (i + 1) = l := by
      have := congrArg (List.drop 1) hl
      simpa [Nat.add_comm] using this
    have hmem : o ∈ cops.toList := List.mem_of_getElem? (by rw [Array.getElem?_toList]; exact hi)
    rw [seqOps_cons] at h
    rw [List.length_cons, List.range'_succ, wpOps_cons]
    unfold wpOp
    rw [hi]
    simp only
    obtain ⟨r, hr, hcase⟩ : ∃ r, oneOp T X none call cops.toList o a S = some r ∧ ((∃ a1 S1, r = .norm a1 S1 ∧ seqOps T X none call cops.toList l a1 S1 = some x) ∨ (∃ v a1 S1, r = .pan v a1 S1 ∧ x = .pan v a1 S1)) := by
      rcases kReg_some h with ⟨a1, S1, h1, h2⟩ | ⟨v, a1, S1, h1, h2⟩
      · exact ⟨_, h1, .inl ⟨a1, S1, rfl, h2⟩⟩
      · exact ⟨_, h1, .inr ⟨v, a1, S1, rfl, h2⟩⟩
    rcases one_ok hT hK hX hC hr hR hA (hN0 o hmem) with ⟨hw, a', rfl, hA'⟩ | ⟨hw, ⟨_, v, a', hrc, _⟩ | hk⟩
    · rw [hw]
      rcases hcase with ⟨a1, S1, h1, h2⟩ | ⟨v, a1, S1, h1, h2⟩
      · cases h1
        exact ih (i + 1) _ _ ρ w _ hl' h2 hR hx hA'
      · cases h1
    · cases hrc
    · rw [hw, if_pos rfl]
      left
      refine hk _ _ ?_ ?_
      · intro a' S' ca' w' ρ' h1 h2 h3 h4
        subst h1
        rcases hcase with ⟨a1, S1, h5, h6⟩ | ⟨v, a1, S1, h5, h6⟩
        · cases h5
          exact ih (i + 1) _ _ ρ' w' _ hl' h6 h2 (hx.trans h3) h4
        · cases h5
      · intro S' v cv w' ρ' h1 h2 h3 h4
        subst h1
        rcases hcase with ⟨a1, S1, h5, h6⟩ | ⟨v1, a1, S1, h5, h6⟩
        · cases h5
        · cases h5
          exact hP _ _ _ ca cv w' ρ' h6 h2 (hx.trans h3) h4 (hA.defs.mono h3.le)

theorem seqS_ok {cops : Array Oper} {N : Nat} {ρ0 : Rho} {S0 : AS} {w0 : World} {cs : List Frame} {Q : Exit → Act → List Frame → World → Prop} {x : AReg} (hrec : recoverD cs = none) (hN0 : dstsLt N cops.toList)
    (hN : ∀ a' S' ca' w' ρ', x = .norm a' S' → Rel ρ' S' w' → Ext ρ0 S0 w0 ρ' S' w' → ActRel ρ' N a' ca' → Q .normal ca' cs w')
    (hP : ∀ v a' S' ca' cv w' ρ', x = .pan v a' S' → Rel ρ' S' w' → Ext ρ0 S0 w0 ρ' S' w' → VRel ρ' v cv → DsRel ρ' a'.defers ca'.defers → Q (.panic (chainOf cv)) ca' cs w') :
    ∀ (l : List Oper) (i : Nat) (a : AAct) (S : AS) (ρ : Rho) (w : World) (ca : Act), cops.toList.drop i = l → seqOps T X (some .nilIface) call cops.toList l a S = some x → Rel ρ S w → Ext ρ0 S0 w0 ρ S w → ActRel ρ N a ca →
      wpOpsS P cops Q (List.range' i l.length) ca cs w := by
  intro l
  induction l with
  | nil =>
    intro i a S ρ w ca hl h hR hx hA
    rw [seqOps_nil] at h
    cases h
    exact hN a S ca w ρ rfl hR hx hA
  | cons o l ih =>
    intro i a S ρ w ca hl h hR hx hA
    have hi : cops[i]? = some o := by
      rw [← Array.getElem?_toList]
      have := congrArg (·[0]?) hl
      simpa using this
    have hl' : cops.toList.drop (i + 1) = l := by
      have := congrArg (List.drop 1) hl
      simpa [Nat.add_comm] using this
    have hmem : o ∈ cops.toList := List.mem_of_getElem? (by rw [Array.getElem?_toList]; exact hi)
    rw [seqOps_cons] at h
    rw [List.length_cons, List.range'_succ]
    unfold wpOpsS
    rw [hi]
    simp only
    obtain ⟨r, hr, hcase⟩ : ∃ r, oneOp T X (some .nilIface) call cops.toList o a S = some r ∧ ((∃ a1 S1, r = .norm a1 S1 ∧ seqOps T X (some .nilIface) call cops.toList l a1 S1 = some x) ∨ (∃ v a1 S1, r = .pan v a1 S1 ∧ x = .pan v a1 S1)) := by
      rcases kReg_some h with ⟨a1, S1, h1, h2⟩ | ⟨v, a1, S1, h1, h2⟩
      · exact ⟨_, h1, .inl ⟨a1, S1, rfl, h2⟩⟩
      · exact ⟨_, h1, .inr ⟨v, a1, S1, rfl, h2⟩⟩
    rcases one_ok hT hK hX hC hr hR hA (hN0 o hmem) with ⟨hw, a', rfl, hA'⟩ | ⟨hw, ⟨hrun, v, a', hrc, rfl, hA'⟩ | hk⟩
    · rw [hw]
      rcases hcase with ⟨a1, S1, h1, h2⟩ | ⟨v, a1, S1, h1, h2⟩
      · cases h1
        exact ih (i + 1) _ _ ρ w _ hl' h2 hR hx hA'
      · cases h1
    · cases hrc
      rw [hw, if_pos rfl, hrun]
      simp only [hrec]
      rcases hcase with ⟨a1, S1, h1, h2⟩ | ⟨v, a1, S1, h1, h2⟩
      · cases h1
        exact ih (i + 1) _ _ ρ w _ hl' h2 hR hx (hA' _ (.same rfl))
      · cases h1
    · rw [hw, if_pos rfl]
      have hgoal : o.upon P ca (fun a' w' => wpOpsS P cops Q (List.range' (i + 1) l.length) a' cs w') (fun e a' w' => Q e a' cs w') ((execOp ca.eval o).run P w) := by
        refine hk _ _ ?_ ?_
        · intro a' S' ca' w' ρ' h1 h2 h3 h4
          subst h1
          rcases hcase with ⟨a1, S1, h5, h6⟩ | ⟨v, a1, S1, h5, h6⟩
          · cases h5
            exact ih (i + 1) _ _ ρ' w' _ hl' h6 h2 (hx.trans h3) h4
          · cases h5
        · intro S' v cv w' ρ' h1 h2 h3 h4
          subst h1
          rcases hcase with ⟨a1, S1, h5, h6⟩ | ⟨v1, a1, S1, h5, h6⟩
          · cases h5
          · cases h5
            exact hP _ _ _ ca cv w' ρ' h6 h2 (hx.trans h3) h4 (hA.defs.mono h3.le)
      generalize (execOp ca.eval o).run P w = res at hgoal ⊢
      cases res with
      | ok n w1 =>
        cases n <;> first | exact hgoal | exact hgoal.elim
      | halt x w1 => exact hgoal
end
end Go.AM
