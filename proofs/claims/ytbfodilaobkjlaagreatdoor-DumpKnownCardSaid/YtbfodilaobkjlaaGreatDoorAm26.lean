/- The abstract machine: a region that draws its order; the plan goes on by an operation that changes no memory. -/
import Derived.Test.YtbfodilaobkjlaaGreatDoorAm25
namespace Go.AM

theorem strictOp_mayRead {tm : Tr Value} {op : Op} (h : mayRead op = false) : strictOp tm op = false := by
  cases op <;> first | rfl | (simp [mayRead] at h; done)
theorem footOf_mayRead {T : Tr TI} {tm : Tr Value} {op : Op} (h : mayRead op = false) : footOf T tm op = none := by
  cases op <;> first | rfl | (simp [mayRead] at h; done)

theorem pendOf_mono {T : Tr TI} {tm : Tr Value} {S : AS} {i : Nat} {o : Oper} {ps : List Pend} {p : Pend} (h : p ∈ ps) : p ∈ pendOf T tm S i o ps := by
  unfold pendOf
  split
  · exact List.mem_cons_of_mem _ h
  · split
    · split
      · exact List.mem_cons_of_mem _ h
      · exact List.mem_cons_of_mem _ h
    · exact h

theorem psNext_mono {T : Tr TI} {ops : List Oper} {a : AAct} {S : AS} {i : Nat} {o : Oper} {ps : List Pend} {p : Pend} (h : p ∈ ps) : p ∈ psNext T ops a S i o ps := by
  unfold psNext
  split
  · exact pendOf_mono h
  · exact h

theorem kVal_inv {o : Oper} {a : AAct} {v : Value} {S : AS} {r : AReg} (h : kVal o a v S = some r) : r = .norm ⟨putTmp a.tmps o.dst v, a.defers⟩ S := by
  unfold kVal at h; cases h; rfl

section
variable {C : Ctx} (hOK : C.OK)
variable {listed : Array Bool} {ca : Act} {w : World} {ρ : Rho} {past rest : Plan} {ps : List Pend} {L : List PR} {a : AAct} {S : AS}
include hOK

/-- The plan runs an operation that is not wanted, or that changes no memory. -/
theorem Inv.advance {i : Nat} {js : List Nat} (h : Inv C listed ca w ρ past ((i, js) :: rest) ps L a S) (hl : ∀ o, C.cops[i]? = some o → wantedA C.cops.toList a.tmps o = some true → isHeavy o.op = false) :
    ∃ ps' L' a' S', Inv C listed ca w ρ (past ++ [(i, js)]) rest ps' L' a' S' ∧ L'.length = L.length + 1 := by
  obtain ⟨o, r, ho, hone, hcase⟩ := drawOps_cons h.draw
  have hl := hl o ho
  obtain ⟨c1, c2⟩ := hOK.pairs h.split
  obtain ⟨⟨ko, hko, hhead⟩, _⟩ := planChk_cons c1
  rw [ho] at hko; cases hko
  have hNo : ∀ x, o.dst = some x → x < C.N := hOK.hN o (List.mem_of_getElem? (by rw [Array.getElem?_toList]; exact ho))
  have hun : listed.getD i false = false := h.restU (i, js) List.mem_cons_self
  have hsplit : C.l = (past ++ [(i, js)]) ++ rest := by rw [h.split]; simp
  -- what the step gives
  obtain ⟨b, v, S', hw, rfl, hnew, hskip, hlight⟩ : ∃ b v S', wantedA C.cops.toList a.tmps o = some b ∧ r = .norm ⟨putTmp a.tmps o.dst v, a.defers⟩ S' ∧
      (S' = S ∨ ∃ O, S' = S.more O ∧ O.own S.next) ∧ (b = false → v = U ∧ S' = S) ∧ (b = true → isHeavy o.op = false ∧ LightOK C.P C.T a.tmps o S S' v) := by
    unfold oneOp at hone
    cases hw : wantedA C.cops.toList a.tmps o with
    | none => rw [hw] at hone; cases hone
    | some b =>
      rw [hw] at hone
      cases b with
      | false => exact ⟨false, U, S, rfl, kVal_inv hone, .inl rfl, fun _ => ⟨rfl, rfl⟩, (fun hb => by cases hb)⟩
      | true =>
        have hh := hl hw
        have hone : oneRun C.T C.X none C.call o a S = some r := hone
        unfold oneRun at hone
        rw [hh] at hone
        have hone : oneLight C.T o a S = some r := hone
        unfold oneLight at hone
        cases hn : lightD o.op C.T a.tmps S with
        | none => rw [hn] at hone; cases hone
        | some p =>
          obtain ⟨v, S'⟩ := p
          rw [hn] at hone
          have hlk : LightOK C.P C.T a.tmps o S S' v := light_ok hOK.hT hOK.hK hn
          refine ⟨true, v, S', rfl, kVal_inv hone, ?_, (fun hb => by cases hb), fun _ => ⟨hh, hlk⟩⟩
          rcases hlk with ⟨e, _⟩ | ⟨O, e, e2, _⟩
          · exact .inl e
          · exact .inr ⟨O, e, e2⟩
  rcases hcase with ⟨a1, S1, heq, _, hdraw⟩ | ⟨v1, a1, S1, heq, _⟩
  case inr => cases heq
  cases heq
  have hal : Allocs S S' := by
    rcases hnew with e | ⟨O, e, _⟩
    · rw [e]; exact Allocs.refl S
    · subst e
      exact ⟨fun b X hb => by simp only [AS.more]; rw [Tr.get_set_ne _ _ _ _ (by have := h.rel.next b X hb; omega)]; exact hb, rfl⟩
  have hrel : Rel ρ S' w := by
    rcases hnew with e | ⟨O, e, e2⟩
    · rw [e]; exact h.rel
    · rw [e]; exact rel_more h.rel e2
  have hext : Ext C.ρ0 C.S0 C.w0 ρ S' w := by
    rcases hnew with e | ⟨O, e, e2⟩
    · rw [e]; exact h.ext
    · rw [e]; exact ext_more h.ext O
  -- the destination is no one else's
  have hne : ∀ k p d, C.cops[k]? = some p → p.dst = some d → k ≠ i → o.dst ≠ some d := fun k p d hk hd hki hod => hki (hOK.uniq hk ho hd hod)
  have hpast : ∀ js', (i, js') ∉ past := fun js' hm => by
    obtain ⟨_, _, _, h5⟩ := c2 _ hm
    obtain ⟨_, _, h7⟩ := h5 _ List.mem_cons_self
    exact h7.ne rfl
  have hget : ∀ d, o.dst ≠ some d → (putTmp a.tmps o.dst v).get d = a.tmps.get d := fun d hd => by rw [putTmp_get, if_neg hd]
  let rec0 : PR := ⟨i, a.tmps, S, S', v, b⟩
  refine ⟨psNext C.T C.cops.toList a S i o ps, rec0 :: L, ⟨putTmp a.tmps o.dst v, a.defers⟩, S', ?_, rfl⟩
  refine ⟨hsplit, hdraw, hrel, hext, h.size, ?_, h.lsize, h.closed, fun q hq => h.restU q (List.mem_cons_of_mem _ hq), h.old, ?_, ?_, h.defs, ?_, ?_, ?_⟩
  · intro d u hu
    simp only at hu
    rw [putTmp_get] at hu
    by_cases hd : o.dst = some d
    · exact hNo d hd
    · rw [if_neg hd] at hu; exact h.lt d u hu
  · intro d u hall hu
    simp only at hu
    by_cases hd : o.dst = some d
    · have := hall i o ho hd; rw [hun] at this; cases this
    · rw [hget d hd] at hu; exact h.now d u hall hu
  · intro q hq p d hp hd
    simp only
    obtain ⟨p', hp', hpair⟩ := hhead.pair q hq
    rw [hp] at hp'; cases hp'
    rw [hget d (fun hod => hpair.dst d hod hd)]
    exact h.keep q (List.mem_cons_of_mem _ hq) p d hp hd
  · intro q hq hqu
    rcases List.mem_append.1 hq with hq | hq
    · obtain ⟨r, hr, hri⟩ := h.pend q hq hqu
      exact ⟨r, List.mem_cons_of_mem _ hr, hri⟩
    · rw [List.mem_singleton] at hq
      subst hq
      exact ⟨rec0, List.mem_cons_self, rfl⟩
  · intro r hr
    rcases List.mem_cons.1 hr with rfl | hr
    · -- the new one
      refine ⟨o, ho, ⟨js, List.mem_append.2 (.inr (by simp [rec0]))⟩, hun, hw, ?_, ?_, fun hb => hskip hb, ?_, ?_, ?_, ?_, h.ext.next⟩
      · intro d hd u hu
        have hu : a.tmps.get d = some u := hu
        have hself : o.dst ≠ some d := fun hod => hhead.self d hod hd
        by_cases hW : ∃ q ∈ rest, ∃ p, C.cops[q.1]? = some p ∧ p.dst = some d
        · obtain ⟨q, hq, p, hp, hpd⟩ := hW
          right
          refine ⟨by rw [← h.keep q (List.mem_cons_of_mem _ hq) p d hp hpd]; exact hu, q.1, p, hp, hpd, ?_⟩
          obtain ⟨p', hp', hpair⟩ := hhead.pair q hq
          rw [hp] at hp'; cases hp'
          rcases hpair.dep with hdep | ⟨_, h2, _⟩
          · exact hdep
          · exact absurd hd (h2 d hpd)
        · left
          refine ⟨by simp only; rw [hget d hself]; exact hu, fun k p hk hkd => ?_⟩
          have hki : k ≠ i := fun e => by subst e; rw [ho] at hk; cases hk; exact hself hkd
          rcases hOK.all h.split (Array.getElem?_eq_some_iff.1 hk).1 with ⟨js2, hm⟩ | ⟨js2, hm⟩
          · refine ⟨⟨js2, List.mem_append.2 (.inl hm)⟩, ?_⟩
            obtain ⟨p', hp', _, h5⟩ := c2 _ hm
            rw [hk] at hp'; cases hp'
            obtain ⟨o', ho', hpair⟩ := h5 _ List.mem_cons_self
            rw [ho] at ho'; cases ho'
            rcases hpair.dep with hdep | ⟨h2, _⟩
            · exact hdep
            · exact absurd hd (h2 d hkd)
          · rcases List.mem_cons.1 hm with hm | hm
            · cases hm; exact absurd rfl hki
            · exact absurd ⟨_, hm, p, hk, hkd⟩ hW
      · intro d hd
        simp only
        rw [putTmp_get, if_pos hd]
      · intro hb
        obtain ⟨q1, q2⟩ := hlight hb
        exact ⟨q1, q2, .inl hal⟩
      · intro hb hs
        have hh := (hlight hb).1
        show (⟨i, none⟩ : Pend) ∈ psNext C.T C.cops.toList a S i o ps
        unfold psNext
        have hw' : wantedA C.cops.toList a.tmps o = some true := by rw [hw]; exact congrArg some hb
        rw [hw', hh]
        simp only
        unfold pendOf
        rw [show strictOp a.tmps o.op = true from hs]
        exact List.mem_cons_self
      · intro hb hs a2 n2 cs hf hlo
        have hh := (hlight hb).1
        show (⟨i, some (a2, n2, cs)⟩ : Pend) ∈ psNext C.T C.cops.toList a S i o ps
        unfold psNext
        have hw' : wantedA C.cops.toList a.tmps o = some true := by rw [hw]; exact congrArg some hb
        rw [hw', hh]
        simp only
        unfold pendOf
        rw [show strictOp a.tmps o.op = false from hs, show footOf C.T a.tmps o.op = some (a2, n2) from hf]
        simp only
        rw [show loadN S a2 n2 = some cs from hlo]
        exact List.mem_cons_self
      · intro O hO
        refine ⟨?_, h.rel.new_none⟩
        rw [show S' = S.more O from hO]
        exact Tr.get_set _ _ _
    · -- an old one
      obtain ⟨p, hp⟩ := h.recs r hr
      have hri : r.i ≠ i := fun e => by obtain ⟨js', hm⟩ := hp.inPast; rw [e] at hm; exact hpast js' hm
      refine ⟨p, hp.at_, ?_, hp.unl, hp.wanted, ?_, ?_, hp.skip, ?_, ?_, ?_, ?_, hp.ge⟩
      · obtain ⟨js', hm⟩ := hp.inPast; exact ⟨js', List.mem_append.2 (.inl hm)⟩
      · intro d hd u hu
        rcases hp.reads d hd u hu with ⟨g1, g2⟩ | g
        · left
          have hod : o.dst ≠ some d := fun hod => by
            obtain ⟨⟨js', hm⟩, _⟩ := g2 i o ho hod
            exact hpast js' hm
          refine ⟨by simp only; rw [hget d hod]; exact g1, fun k q hk hkd => ?_⟩
          obtain ⟨⟨js', hm⟩, hdep⟩ := g2 k q hk hkd
          exact ⟨⟨js', List.mem_append.2 (.inl hm)⟩, hdep⟩
        · exact .inr g
      · intro d hd
        simp only
        rw [hget d (hne r.i p d hp.at_ hd hri)]
        exact hp.dst d hd
      · intro hb
        obtain ⟨q1, q2, q3⟩ := hp.light hb
        exact ⟨q1, q2, q3.more hal⟩
      · intro hb hs; exact psNext_mono (hp.strict hb hs)
      · intro hb hs a2 n2 cs hf hlo; exact psNext_mono (hp.foot hb hs a2 n2 cs hf hlo)
      · intro O hO
        obtain ⟨q1, q2⟩ := hp.alloc O hO
        exact ⟨hal.1 _ _ q1, q2⟩
  · -- apart
    have lt_of : ∀ r ∈ L, r.S' ≠ r.S → r.S.next < S.next := by
      intro r hr hne2
      obtain ⟨p, hp⟩ := h.recs r hr
      cases hb : r.run with
      | false => exact absurd (hp.skip hb).2 hne2
      | true =>
        rcases (hp.light hb).2.1 with ⟨e, _⟩ | ⟨O, e, _⟩
        · exact absurd e hne2
        · exact h.rel.next _ _ (hp.alloc O e).1
    intro r hr s hs hrs h1 h2
    rcases List.mem_cons.1 hr with rfl | hr
    · rcases List.mem_cons.1 hs with rfl | hs
      · exact absurd rfl hrs
      · have := lt_of s hs h2; simp only [rec0]; omega
    · rcases List.mem_cons.1 hs with rfl | hs
      · have := lt_of r hr h1; simp only [rec0]; omega
      · exact h.distinct r hr s hs hrs h1 h2
end
end Go.AM
