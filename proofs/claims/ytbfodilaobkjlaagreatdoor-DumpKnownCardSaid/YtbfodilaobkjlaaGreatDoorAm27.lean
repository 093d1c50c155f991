/- The abstract machine: a region that draws its order; the order in force takes an operation. -/
import Derived.Test.YtbfodilaobkjlaaGreatDoorAm26
namespace Go.AM

theorem closed_set {cops : Array Oper} {listed : Array Bool} (hc : Closed cops listed) {i : Nat} (hi : i ∈ Region.ready .any cops listed) : Closed cops (listed.setIfInBounds i true) := by
  intro j o ho hj p hp
  apply getD_set_true
  by_cases h : i = j
  · subst h; exact preds_listed ho hc (.inr hi) p hp
  · rw [getD_set_ne false h] at hj; exact hc j o ho hj p hp

theorem set_self {listed : Array Bool} {i : Nat} (h : i < listed.size) : (listed.setIfInBounds i true).getD i false = true := by simp [h]

theorem unl_set {listed : Array Bool} {i k : Nat} (hi : i < listed.size) (h : (listed.setIfInBounds i true).getD k false = false) : k ≠ i ∧ listed.getD k false = false := by
  by_cases he : i = k
  · subst he; rw [set_self hi] at h; cases h
  · rw [getD_set_ne false he] at h; exact ⟨fun e => he e.symm, h⟩

theorem tmp_reads {ops : List Oper} {o : Oper} {t : Nat} (h : Operand.tmp t ∈ o.op.operands) : t ∈ readsOf ops o := by
  unfold readsOf
  exact List.mem_append.2 (.inl (List.mem_filterMap.2 ⟨_, Array.mem_toList_iff.2 h, rfl⟩))

theorem guard_reads {cops : Array Oper} {o p : Oper} {g : Nat × Bool} {d : Nat} (hg : o.guard = some g) (hp : cops[g.1]? = some p) (hd : p.dst = some d) : d ∈ readsOf cops.toList o := by
  unfold readsOf
  rw [hg]
  refine List.mem_append.2 (.inr ?_)
  simp only [Array.getElem?_toList, hp, hd]
  simp

section
variable {C : Ctx} (hOK : C.OK)
variable {listed : Array Bool} {ca : Act} {w : World} {ρ : Rho} {past rest : Plan} {ps : List Pend} {L : List PR} {a : AAct} {S : AS}
variable {Q : Exit → Act → World → Prop} {K : Act → World → Prop}

theorem rec_vals (hx : C.OK) (h : Inv C listed ca w ρ past rest ps L a S) {r : PR} {o : Oper} (hp : RecOK C listed ρ past ps a S r o) (hr : r.i ∈ Region.ready .any C.cops listed) :
    ∀ d ∈ readsOf C.cops.toList o, ∀ v, r.tm.get d = some v → d < ca.tmps.size ∧ VRel ρ v (ca.tmps.getD d Go.undef) := by
  intro d hd v hv
  rw [h.size]
  rcases hp.reads d hd v hv with ⟨g1, g2⟩ | ⟨g1, k, p, hk, hkd, hdep⟩
  · refine ⟨h.lt d v g1, h.now d v (fun k p hk hkd => ?_) g1⟩
    exact (g2 k p hk hkd).2 listed h.closed (.inr hr)
  · refine ⟨hx.lt0 d v g1, h.old d v k p hk hkd ?_ g1⟩
    cases hl : listed.getD k false with
    | false => rfl
    | true =>
      have := hdep listed h.closed (.inl hl)
      rw [hp.unl] at this; cases this

include hOK

theorem head_vals {i : Nat} {js : List Nat} {o : Oper} (h : Inv C listed ca w ρ past ((i, js) :: rest) ps L a S) (ho : C.cops[i]? = some o) (hr : i ∈ Region.ready .any C.cops listed) :
    ∀ d ∈ readsOf C.cops.toList o, ∀ v, a.tmps.get d = some v → VRel ρ v (ca.tmps.getD d Go.undef) := by
  intro d hd v hv
  obtain ⟨c1, c2⟩ := hOK.pairs h.split
  obtain ⟨⟨ko, hko, hhead⟩, _⟩ := planChk_cons c1
  rw [ho] at hko; cases hko
  by_cases hW : ∃ q ∈ rest, ∃ p, C.cops[q.1]? = some p ∧ p.dst = some d
  · obtain ⟨q, hq, p, hp, hpd⟩ := hW
    refine h.old d v q.1 p hp hpd (h.restU q (List.mem_cons_of_mem _ hq)) ?_
    rw [← h.keep q (List.mem_cons_of_mem _ hq) p d hp hpd]; exact hv
  · refine h.now d v (fun k p hk hkd => ?_) hv
    rcases hOK.all h.split (Array.getElem?_eq_some_iff.1 hk).1 with ⟨js2, hm⟩ | ⟨js2, hm⟩
    · obtain ⟨p', hp', _, h5⟩ := c2 _ hm
      rw [hk] at hp'; cases hp'
      obtain ⟨o', ho', hpair⟩ := h5 _ List.mem_cons_self
      rw [ho] at ho'; cases ho'
      rcases hpair.dep with hdep | ⟨h2, _⟩
      · exact hdep listed h.closed (.inr hr)
      · exact absurd hd (h2 d hkd)
    · rcases List.mem_cons.1 hm with hm | hm
      · cases hm; rw [ho] at hk; cases hk; exact absurd hd (hhead.self d hkd)
      · exact absurd ⟨_, hm, p, hk, hkd⟩ hW

/-- The order takes an operation that the plan has run. -/
theorem Inv.take {i : Nat} {js : List Nat} (h : Inv C listed ca w ρ past rest ps L a S) (hi : i ∈ Region.ready .any C.cops listed) (hm : (i, js) ∈ past)
    (hK : ∀ ca' w' ρ' L', Inv C (listed.setIfInBounds i true) ca' w' ρ' past rest ps L' a S → L'.length < L.length → K ca' w') : wpOp C.P C.cops Q i K ca w := by
  obtain ⟨hul, _⟩ := mem_ready.1 hi
  have hilt : i < listed.size := by
    obtain ⟨o, ho, _⟩ := (mem_ready.1 hi).2
    rw [h.lsize]; exact (Array.getElem?_eq_some_iff.1 ho).1
  have hun : listed.getD i false = false := by
    rw [Array.getD_eq_getD_getElem?, Array.getElem?_eq_getElem hilt] at hul ⊢; exact hul
  obtain ⟨r, hr, hri⟩ := h.pend _ hm hun
  simp only at hri
  subst hri
  obtain ⟨o, hp⟩ := h.recs r hr
  have hNo : ∀ x, o.dst = some x → x < C.N := hOK.hN o (List.mem_of_getElem? (by rw [Array.getElem?_toList]; exact hp.at_))
  have hvals := rec_vals hOK h hp hi
  have hwr := wanted_rel (cops := C.cops) (ca := ca) (ρ := ρ) hp.wanted fun g p d v hg hgp hd hv => hvals d (guard_reads hg hgp hd) v hv
  have hput := fun (cv : Value) (d : Nat) => put_getD ca o.dst cv d (fun x hx => by rw [h.size]; exact hNo x hx)
  -- the invariant after it
  have fin : ∀ cv w' ρ', Rel ρ' S w' → Ext C.ρ0 C.S0 C.w0 ρ' S w' → ρ.le ρ' → VRel ρ' r.v cv → (∀ s ∈ L, s.i ≠ r.i → s.S' ≠ s.S → ρ s.S.next = none → ρ' s.S.next = none) → K (ca.put o.dst cv) w' := by
    intro cv w' ρ' hrel hext hle hv hkp
    refine hK _ w' ρ' (L.filter fun s => decide (s.i ≠ r.i)) ?_ ?_
    · refine ⟨h.split, h.draw, hrel, hext, by rw [put_size]; exact h.size, h.lt, by simp [h.lsize], closed_set h.closed hi, ?_, ?_, ?_, h.keep, ?_, ?_, ?_, ?_⟩
      · intro q hq
        obtain ⟨_, _, _, h5⟩ := (hOK.pairs h.split).2 _ hm
        obtain ⟨_, _, h7⟩ := h5 q hq
        rw [getD_set_ne false (fun e => h7.ne e.symm)]
        exact h.restU q hq
      · intro d v k p hk hkd hu hv0
        obtain ⟨hki, hu⟩ := unl_set hilt hu
        rw [hput, if_neg (fun hod => hki (hOK.uniq hk hp.at_ hkd hod))]
        exact (h.old d v k p hk hkd hu hv0).mono hle
      · intro d v hall hv0
        rw [hput]
        by_cases hod : o.dst = some d
        · rw [if_pos hod]
          rw [hp.dst d hod] at hv0; cases hv0
          exact hv
        · rw [if_neg hod]
          refine (h.now d v (fun k p hk hkd => ?_) hv0).mono hle
          have := hall k p hk hkd
          rwa [getD_set_ne false (fun e => by subst e; rw [hp.at_] at hk; cases hk; exact hod hkd)] at this
      · have : (ca.put o.dst cv).defers = ca.defers := by cases o.dst <;> rfl
        rw [this]; exact h.defs.mono hle
      · intro q hq hu
        obtain ⟨hki, hu⟩ := unl_set hilt hu
        obtain ⟨s, hs, hsi⟩ := h.pend q hq hu
        exact ⟨s, List.mem_filter.2 ⟨hs, by simp [hsi, hki]⟩, hsi⟩
      · intro s hs
        obtain ⟨hs, hsi⟩ := List.mem_filter.1 hs
        have hsi : s.i ≠ r.i := by simpa using hsi
        obtain ⟨p, hq⟩ := h.recs s hs
        refine ⟨p, hq.at_, hq.inPast, by rw [getD_set_ne false (fun e => hsi e.symm)]; exact hq.unl, hq.wanted, hq.reads, hq.dst, hq.skip, hq.light, hq.strict, hq.foot, fun O hO => ?_, hq.ge⟩
        obtain ⟨g1, g2⟩ := hq.alloc O hO
        refine ⟨g1, hkp s hs hsi (fun e => ?_) g2⟩
        rw [e] at hO
        have := congrArg AS.next hO
        simp [AS.more] at this
      · intro x hx y hy
        exact h.distinct x (List.mem_filter.1 hx).1 y (List.mem_filter.1 hy).1
    · have hle2 := List.length_filter_le (fun s => decide (s.i ≠ r.i)) L
      rcases Nat.lt_or_ge (L.filter fun s => decide (s.i ≠ r.i)).length L.length with hlt | hge
      · exact hlt
      · exfalso
        have := (List.length_filter_eq_length_iff.1 (Nat.le_antisymm hle2 hge)) r hr
        simp at this
  unfold wpOp
  rw [hp.at_]
  simp only
  rw [hwr]
  cases hb : r.run with
  | false =>
    rw [if_neg (by simp)]
    obtain ⟨e1, e2⟩ := hp.skip hb
    refine fin Go.undef w ρ h.rel h.ext (Rho.le_refl ρ) ?_ (fun _ _ _ _ hn => hn)
    rw [e1]; exact .undef
  | true =>
    rw [if_pos rfl]
    left
    obtain ⟨q1, q2, q3⟩ := hp.light hb
    have hop : Hop ρ r.tm ca.eval o.op := fun x hx v hv => ev_rel hv fun t ht htv => by
      subst ht; exact (hvals t (tmp_reads hx) v htv).2
    obtain ⟨cv, w', ρ', g1, g2, g3, g4, g5, g6⟩ := light_run q2 h.rel q3 hp.alloc hop h.ext hp.ge
    unfold Oper.wp
    rw [g1, Oper.upon_value]
    refine fin cv w' ρ' g2 g3 g5 g4 fun s hs hsi hne hn => ?_
    rw [g6]
    · exact hn
    · by_cases he : r.S' = r.S
      · exact .inr he
      · exact .inl fun e => h.distinct s hs r hr hsi hne he e

/-- The order takes the operation that changes memory and that comes next. -/
theorem Inv.heavy {i : Nat} {js : List Nat} {o : Oper} (h : Inv C listed ca w ρ past ((i, js) :: rest) ps L a S) (hi : i ∈ Region.ready .any C.cops listed) (ho : C.cops[i]? = some o)
    (hw : wantedA C.cops.toList a.tmps o = some true) (hh : isHeavy o.op = true)
    (hP : ∀ v a' S' ca' cv w' ρ', C.x = .pan v a' S' → Rel ρ' S' w' → Ext C.ρ0 C.S0 C.w0 ρ' S' w' → VRel ρ' v cv → DsRel ρ' a'.defers ca'.defers → Q (.panic (chainOf cv)) ca' w')
    (hK : ∀ ca' w' ρ' a' S', Inv C (listed.setIfInBounds i true) ca' w' ρ' (past ++ [(i, js)]) rest ps L a' S' → K ca' w') : wpOp C.P C.cops Q i K ca w := by
  obtain ⟨o', r, ho', hone, hcase⟩ := drawOps_cons h.draw
  rw [ho] at ho'; cases ho'
  obtain ⟨c1, c2⟩ := hOK.pairs h.split
  obtain ⟨⟨ko, hko, hhead⟩, _⟩ := planChk_cons c1
  rw [ho] at hko; cases hko
  have hilt : i < listed.size := by rw [h.lsize]; exact (Array.getElem?_eq_some_iff.1 ho).1
  have hNo : ∀ x, o.dst = some x → x < C.N := hOK.hN o (List.mem_of_getElem? (by rw [Array.getElem?_toList]; exact ho))
  have hvals := head_vals hOK h ho hi
  have hps : psNext C.T C.cops.toList a S i o ps = ps := by unfold psNext; rw [hw, hh]
  rw [hps] at hcase
  have hwr := wanted_rel (cops := C.cops) (ca := ca) (ρ := ρ) hw fun g p d v hg hgp hd hv => ⟨by rw [h.size]; exact h.lt d v hv, hvals d (guard_reads hg hgp hd) v hv⟩
  have hop : Hop ρ a.tmps ca.eval o.op := fun x hx v hv => ev_rel hv fun t ht htv => by
    subst ht; exact hvals t (tmp_reads hx) v htv
  have hone : oneHeavy C.T C.X none C.call o a S = some r := by
    unfold oneOp at hone
    rw [hw] at hone
    have hone : oneRun C.T C.X none C.call o a S = some r := hone
    unfold oneRun at hone
    rw [hh] at hone
    exact hone
  have hpast : ∀ js', (i, js') ∉ past := fun js' hm => by
    obtain ⟨_, _, _, h5⟩ := c2 _ hm
    obtain ⟨_, _, h7⟩ := h5 _ List.mem_cons_self
    exact h7.ne rfl
  unfold wpOp
  rw [ho]
  simp only
  rw [hwr, if_pos rfl]
  left
  rcases heavy_step hOK.hT hOK.hK hOK.hX hOK.hC hone h.rel hop h.defs with ⟨_, v, hv, _⟩ | hstep
  · cases hv
  refine hstep K Q ?_ ?_
  · intro S' v ds cds cv w' ρ' e1 g1 g2 g3 g4
    subst e1
    rcases hcase with ⟨a1, S1, e2, hre, hdraw⟩ | ⟨v1, a1, S1, e2, _⟩
    case inr => cases e2
    cases e2
    have hget : ∀ d, o.dst ≠ some d → (putTmp a.tmps o.dst v).get d = a.tmps.get d := fun d hd => by rw [putTmp_get, if_neg hd]
    have hput := fun (d : Nat) => put_getD { ca with defers := cds } o.dst cv d (fun x hx => by simp only; rw [h.size]; exact hNo x hx)
    refine hK _ w' ρ' ⟨putTmp a.tmps o.dst v, ds⟩ S' ?_
    refine ⟨by rw [h.split]; simp, hdraw, g1, h.ext.trans g2, by rw [put_size]; exact h.size, ?_, by simp [h.lsize], closed_set h.closed hi, ?_, ?_, ?_, ?_, ?_, ?_, ?_, h.distinct⟩
    · intro d u hu
      simp only at hu
      rw [putTmp_get] at hu
      by_cases hd : o.dst = some d
      · exact hNo d hd
      · rw [if_neg hd] at hu; exact h.lt d u hu
    · intro q hq
      obtain ⟨_, _, h7⟩ := hhead.pair q hq
      rw [getD_set_ne false (fun e => h7.ne e.symm)]
      exact h.restU q (List.mem_cons_of_mem _ hq)
    · intro d u k p hk hkd hu hv0
      obtain ⟨hki, hu⟩ := unl_set hilt hu
      rw [hput, if_neg (fun hod => hki (hOK.uniq hk ho hkd hod))]
      exact (h.old d u k p hk hkd hu hv0).mono g2.le
    · intro d u hall hv0
      simp only at hv0
      rw [hput]
      rw [putTmp_get] at hv0
      by_cases hod : o.dst = some d
      · rw [if_pos hod] at hv0 ⊢; cases hv0; exact g3
      · rw [if_neg hod] at hv0 ⊢
        refine (h.now d u (fun k p hk hkd => ?_) hv0).mono g2.le
        have := hall k p hk hkd
        rwa [getD_set_ne false (fun e => by subst e; rw [ho] at hk; cases hk; exact hod hkd)] at this
    · intro q hq p d hp hd
      simp only
      obtain ⟨p', hp', hpair⟩ := hhead.pair q hq
      rw [hp] at hp'; cases hp'
      rw [hget d (fun hod => hpair.dst d hod hd)]
      exact h.keep q (List.mem_cons_of_mem _ hq) p d hp hd
    · have : (({ ca with defers := cds } : Act).put o.dst cv).defers = cds := by cases o.dst <;> rfl
      rw [this]; exact g4
    · intro q hq hu
      obtain ⟨hki, hu⟩ := unl_set hilt hu
      rcases List.mem_append.1 hq with hq | hq
      · exact h.pend q hq hu
      · rw [List.mem_singleton] at hq; subst hq; exact absurd rfl hki
    · intro s hs
      obtain ⟨p, hp⟩ := h.recs s hs
      obtain ⟨js', hjs⟩ := hp.inPast
      have hsi : s.i ≠ i := fun e => by rw [e] at hjs; exact hpast js' hjs
      obtain ⟨p', hp', _, h5⟩ := c2 _ hjs
      simp only at hp'
      rw [hp.at_] at hp'; cases hp'
      obtain ⟨o'', ho'', hpair⟩ := h5 _ List.mem_cons_self
      rw [ho] at ho''; cases ho''
      have hnd : (mayRead p.op = false ∨ isHeavy o.op = false ∨ s.i ∈ js) := by
        rcases hpair.dep with hdep | ⟨_, _, _, h8⟩
        · have := hdep listed h.closed (.inr hi)
          simp only at this
          rw [hp.unl] at this; cases this
        · exact h8
      refine ⟨p, hp.at_, ⟨js', List.mem_append.2 (.inl hjs)⟩, by rw [getD_set_ne false (fun e => hsi e.symm)]; exact hp.unl, hp.wanted, ?_, ?_, hp.skip, ?_, hp.strict, hp.foot, ?_, hp.ge⟩
      · intro d hd u hu
        rcases hp.reads d hd u hu with ⟨k1, k2⟩ | g
        · left
          have hod : o.dst ≠ some d := fun hod => by
            obtain ⟨⟨js2, hm⟩, _⟩ := k2 i o ho hod
            exact hpast js2 hm
          refine ⟨by simp only; rw [hget d hod]; exact k1, fun k q hk hkd => ?_⟩
          obtain ⟨⟨js2, hm⟩, hdep⟩ := k2 k q hk hkd
          exact ⟨⟨js2, List.mem_append.2 (.inl hm)⟩, hdep⟩
        · exact .inr g
      · intro d hd
        simp only
        rw [hget d (fun hod => hsi (hOK.uniq hp.at_ ho hd hod))]
        exact hp.dst d hd
      · intro hb
        obtain ⟨q1, q2, q3⟩ := hp.light hb
        refine ⟨q1, q2, .inr ?_⟩
        have hstat : Stat s.S S' := by
          intro b B hB
          obtain ⟨B1, k1, k2, k3, k4, k5⟩ := q3.stat b B hB
          obtain ⟨B2, j1, j2, j3, j4, j5⟩ := g2.stat b B1 (h.rel.next _ _ k1) k1
          exact ⟨B2, j1, j2.trans k2, j3.trans k3, j4.trans k4, j5.trans k5⟩
        rcases hnd with hnd | hnd | hnd
        · exact ⟨strictOp_mayRead hnd, hstat, fun a2 n2 cs hf => by rw [footOf_mayRead hnd] at hf; cases hf⟩
        · rw [hh] at hnd; cases hnd
        · have hrc := recheck_spec hre
          have hst : strictOp s.tm p.op = false := by
            cases hst : strictOp s.tm p.op with
            | false => rfl
            | true => have := hrc _ (hp.strict hb hst) hnd; cases this
          refine ⟨hst, hstat, fun a2 n2 cs hf hlo => ?_⟩
          have := hrc _ (hp.foot hb hst a2 n2 cs hf hlo) hnd
          unfold recheck1 at this
          simp only at this
          split at this
          · rename_i cs' hcs'
            rw [hcs', vsEq_true this]
          · cases this
      · intro O hO
        obtain ⟨k1, k2⟩ := hp.alloc O hO
        refine ⟨(g2.keep _ (h.rel.next _ _ k1) k2).trans k1, ?_⟩
        cases hn : ρ' s.S.next with
        | none => rfl
        | some x =>
          have := g2.new _ _ hn k2
          have := h.rel.next _ _ k1
          omega
  · intro S' v cv w' ρ' e1 g1 g2 g3
    subst e1
    rcases hcase with ⟨a1, S1, e2, _⟩ | ⟨v1, a1, S1, e2, hx⟩
    case inl => cases e2
    cases e2
    exact hP v a S' ca cv w' ρ' hx g1 (h.ext.trans g2) g3 (h.defs.mono g2.le)
end
end Go.AM
