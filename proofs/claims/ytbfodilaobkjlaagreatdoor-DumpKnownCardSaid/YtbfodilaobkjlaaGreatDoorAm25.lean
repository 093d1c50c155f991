/- The abstract machine: a region that draws its order; what holds at every point of every order. -/
import Derived.Test.YtbfodilaobkjlaaGreatDoorAm24
namespace Go.AM

noncomputable def psNext (T : Tr TI) (ops : List Oper) (a : AAct) (S : AS) (i : Nat) (o : Oper) (ps : List Pend) : List Pend :=
  match wantedA ops a.tmps o, isHeavy o.op with | some true, false => pendOf T a.tmps S i o ps | _, _ => ps

theorem drawOps_cons {T : Tr TI} {X : Exts} {call : CallF} {cops : Array Oper} {i : Nat} {js : List Nat} {l : Plan} {ps : List Pend} {a : AAct} {S : AS} {x : AReg} (h : drawOps T X none call cops.toList ((i, js) :: l) ps a S = some x) :
    ∃ o r, cops[i]? = some o ∧ oneOp T X none call cops.toList o a S = some r ∧
      ((∃ a1 S1, r = .norm a1 S1 ∧ recheck S1 js (psNext T cops.toList a S i o ps) = true ∧ drawOps T X none call cops.toList l (psNext T cops.toList a S i o ps) a1 S1 = some x) ∨ (∃ v a1 S1, r = .pan v a1 S1 ∧ x = .pan v a1 S1)) := by
  have e : drawOps T X none call cops.toList ((i, js) :: l) ps a S = match nth cops.toList i with
    | none => none
    | some o => match oneOp T X none call cops.toList o a S with
      | some (.norm a1 S1) => match recheck S1 js (psNext T cops.toList a S i o ps) with | true => drawOps T X none call cops.toList l (psNext T cops.toList a S i o ps) a1 S1 | false => none
      | some (.pan v a1 S1) => some (.pan v a1 S1)
      | none => none := rfl
  rw [e, nth_eq, Array.getElem?_toList] at h
  cases ho : cops[i]? with
  | none => rw [ho] at h; cases h
  | some o =>
    rw [ho] at h
    simp only at h
    cases hr : oneOp T X none call cops.toList o a S with
    | none => rw [hr] at h; cases h
    | some r =>
      rw [hr] at h
      refine ⟨o, r, rfl, hr, ?_⟩
      cases r with
      | norm a1 S1 =>
        simp only at h
        split at h
        · rename_i hc; exact .inl ⟨a1, S1, rfl, hc, h⟩
        · cases h
      | pan v a1 S1 => cases h; exact .inr ⟨v, a1, S1, rfl, rfl⟩

theorem mem_iff {i : Nat} {l : List Nat} : mem i l = true ↔ i ∈ l := by
  induction l with
  | nil => simp [mem]
  | cons j l ih =>
    have e : mem i (j :: l) = match Nat.beq i j with | true => true | false => mem i l := rfl
    rw [e]
    cases h : Nat.beq i j with
    | true => simp [Nat.eq_of_beq_eq_true h]
    | false =>
      simp only [List.mem_cons]
      rw [ih]
      constructor
      · exact .inr
      · rintro (rfl | h2)
        · rw [Nat.beq_refl] at h; cases h
        · exact h2

noncomputable def recheckL (S : AS) (l : List Nat) (ps : List Pend) : Bool :=
  List.rec (motive := fun _ => Bool) true
    (fun p _ ih => match mem p.i l with
      | false => ih
      | true => match recheck1 S p with | true => ih | false => false) ps

theorem recheckL_cons (S : AS) (l : List Nat) (p : Pend) (ps : List Pend) : recheckL S l (p :: ps) = match mem p.i l with
      | false => recheckL S l ps
      | true => match recheck1 S p with | true => recheckL S l ps | false => false := rfl

theorem recheckL_spec {S : AS} {l : List Nat} : ∀ {ps : List Pend}, recheckL S l ps = true → ∀ p ∈ ps, p.i ∈ l → recheck1 S p = true := by
  intro ps
  induction ps with
  | nil => intro _ p hp; simp at hp
  | cons p ps ih =>
    intro h q hq hql
    rw [recheckL_cons] at h
    cases hm : mem p.i l with
    | false =>
      rw [hm] at h
      rcases List.mem_cons.1 hq with rfl | hq
      · rw [mem_iff.2 hql] at hm; cases hm
      · exact ih h q hq hql
    | true =>
      rw [hm] at h
      simp only at h
      cases hr : recheck1 S p with
      | false => rw [hr] at h; cases h
      | true =>
        rw [hr] at h
        rcases List.mem_cons.1 hq with rfl | hq
        · exact hr
        · exact ih h q hq hql

theorem recheck_spec {S : AS} {js : List Nat} {ps : List Pend} (h : recheck S js ps = true) : ∀ p ∈ ps, p.i ∈ js → recheck1 S p = true := by
  cases js with
  | nil => intro p _ hp; simp at hp
  | cons j js => exact recheckL_spec (l := j :: js) h

theorem Cond.more {T : Tr TI} {tm : Tr Value} {op : Op} {S0 S S' : AS} (h : Cond T tm op S0 S) (ha : Allocs S S') : Cond T tm op S0 S' := by
  rcases h with h | ⟨h1, h2, h3⟩
  · exact .inl ⟨fun b O hb => ha.1 b O (h.1 b O hb), ha.2.trans h.2⟩
  · refine .inr ⟨h1, fun b B hb => ?_, fun a n cs hf hl => loadN_allocs ha (h3 a n cs hf hl)⟩
    obtain ⟨B1, k1, k2⟩ := h2 b B hb
    exact ⟨B1, ha.1 _ _ k1, k2⟩

/-- An operation that the plan has run and that the order in force may not have run yet. -/
structure PR where
  i : Nat
  tm : Tr Value
  S : AS
  S' : AS
  v : Value
  run : Bool

structure Ctx where
  P : Program
  T : Tr TI
  X : Exts
  call : CallF
  cops : Array Oper
  N : Nat
  l : Plan
  x : AReg
  ρ0 : Rho
  S0 : AS
  w0 : World
  a0 : AAct

structure Ctx.OK (C : Ctx) : Prop where
  hT : ∀ t ti, C.T.get t = some ti → TypeOK C.P t ti
  hK : KeysOK C.P C.T
  hX : XOK C.P C.X
  hC : CallOK C.P C.call
  hN : dstsLt C.N C.cops.toList
  hl : planOK C.cops.toList C.l = true
  lt0 : ∀ d v, C.a0.tmps.get d = some v → d < C.N

structure RecOK (C : Ctx) (listed : Array Bool) (ρ : Rho) (past : Plan) (ps : List Pend) (a : AAct) (S : AS) (r : PR) (o : Oper) : Prop where
  at_ : C.cops[r.i]? = some o
  inPast : ∃ js, (r.i, js) ∈ past
  unl : listed.getD r.i false = false
  wanted : wantedA C.cops.toList r.tm o = some r.run
  reads : ∀ d ∈ readsOf C.cops.toList o, ∀ v, r.tm.get d = some v →
    (a.tmps.get d = some v ∧ ∀ k p, C.cops[k]? = some p → p.dst = some d → (∃ js, (k, js) ∈ past) ∧ Dep C.cops k r.i) ∨
    (C.a0.tmps.get d = some v ∧ ∃ k p, C.cops[k]? = some p ∧ p.dst = some d ∧ Dep C.cops r.i k)
  dst : ∀ d, o.dst = some d → a.tmps.get d = some r.v
  skip : r.run = false → r.v = U ∧ r.S' = r.S
  light : r.run = true → isHeavy o.op = false ∧ LightOK C.P C.T r.tm o r.S r.S' r.v ∧ Cond C.T r.tm o.op r.S S
  strict : r.run = true → strictOp r.tm o.op = true → ⟨r.i, none⟩ ∈ ps
  foot : r.run = true → strictOp r.tm o.op = false → ∀ a n cs, footOf C.T r.tm o.op = some (a, n) → loadN r.S a n = some cs → ⟨r.i, some (a, n, cs)⟩ ∈ ps
  alloc : ∀ O, r.S' = r.S.more O → S.heap.get r.S.next = some O ∧ ρ r.S.next = none
  ge : C.S0.next ≤ r.S.next

structure Inv (C : Ctx) (listed : Array Bool) (ca : Act) (w : World) (ρ : Rho) (past rest : Plan) (ps : List Pend) (L : List PR) (a : AAct) (S : AS) : Prop where
  split : C.l = past ++ rest
  draw : drawOps C.T C.X none C.call C.cops.toList rest ps a S = some C.x
  rel : Rel ρ S w
  ext : Ext C.ρ0 C.S0 C.w0 ρ S w
  size : ca.tmps.size = C.N
  lt : ∀ d v, a.tmps.get d = some v → d < C.N
  lsize : listed.size = C.cops.size
  closed : Closed C.cops listed
  restU : ∀ q ∈ rest, listed.getD q.1 false = false
  old : ∀ d v i o, C.cops[i]? = some o → o.dst = some d → listed.getD i false = false → C.a0.tmps.get d = some v → VRel ρ v (ca.tmps.getD d Go.undef)
  now : ∀ d v, (∀ i o, C.cops[i]? = some o → o.dst = some d → listed.getD i false = true) → a.tmps.get d = some v → VRel ρ v (ca.tmps.getD d Go.undef)
  keep : ∀ q ∈ rest, ∀ o d, C.cops[q.1]? = some o → o.dst = some d → a.tmps.get d = C.a0.tmps.get d
  defs : DsRel ρ a.defers ca.defers
  pend : ∀ q ∈ past, listed.getD q.1 false = false → ∃ r ∈ L, r.i = q.1
  recs : ∀ r ∈ L, ∃ o, RecOK C listed ρ past ps a S r o
  distinct : ∀ r ∈ L, ∀ s ∈ L, r.i ≠ s.i → r.S' ≠ r.S → s.S' ≠ s.S → r.S.next ≠ s.S.next

section
variable {C : Ctx} (hOK : C.OK)
include hOK

theorem Ctx.OK.pairs {past rest : Plan} (h : C.l = past ++ rest) : planChk C.cops.toList rest = true ∧ ∀ k ∈ past, ∃ ko, C.cops[k.1]? = some ko ∧ (∀ d, ko.dst = some d → d ∉ readsOf C.cops.toList ko) ∧ ∀ q ∈ rest, ∃ o, C.cops[q.1]? = some o ∧ PairOK C.cops k.1 ko q o := by
  have := (planOK_all hOK.hl).1
  rw [h] at this
  exact planChk_append this

theorem Ctx.OK.all {past rest : Plan} (h : C.l = past ++ rest) {i : Nat} (hi : i < C.cops.size) : (∃ js, (i, js) ∈ past) ∨ (∃ js, (i, js) ∈ rest) := by
  obtain ⟨js, hj⟩ := (planOK_all hOK.hl).2 i hi
  rw [h, List.mem_append] at hj
  exact hj.imp (fun h => ⟨js, h⟩) (fun h => ⟨js, h⟩)

/-- Two operations that have one destination are one. -/
theorem Ctx.OK.uniq {i j d : Nat} {oi oj : Oper} (hi : C.cops[i]? = some oi) (hj : C.cops[j]? = some oj) (di : oi.dst = some d) (dj : oj.dst = some d) : i = j := by
  obtain ⟨js, hm⟩ := (planOK_all hOK.hl).2 i (Array.getElem?_eq_some_iff.1 hi).1
  obtain ⟨p1, p2, hp⟩ := List.append_of_mem hm
  obtain ⟨c1, c2⟩ := hOK.pairs (past := p1) hp
  obtain ⟨⟨ko, h1, h2⟩, _⟩ := planChk_cons c1
  rw [hi] at h1; cases h1
  rcases hOK.all (past := p1) hp (Array.getElem?_eq_some_iff.1 hj).1 with ⟨js2, h3⟩ | ⟨js2, h3⟩
  · obtain ⟨ko, h4, _, h5⟩ := c2 _ h3
    rw [hj] at h4; cases h4
    obtain ⟨o, h6, h7⟩ := h5 _ (List.mem_cons_self)
    rw [hi] at h6; cases h6
    exact absurd di (h7.dst d dj)
  · rcases List.mem_cons.1 h3 with h3 | h3
    · cases h3; rfl
    · obtain ⟨o, h6, h7⟩ := h2.pair _ h3
      rw [hj] at h6; cases h6
      exact absurd dj (h7.dst d di)
end
end Go.AM
