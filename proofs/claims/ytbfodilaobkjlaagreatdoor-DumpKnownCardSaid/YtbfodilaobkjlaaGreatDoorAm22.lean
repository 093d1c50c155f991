/- The abstract machine: the frame of a call; an operation run, now or later. -/
import Derived.Test.YtbfodilaobkjlaaGreatDoorAm21
import Derived.Test.YtbfodilaobkjlaaGreatDoorAmC
namespace Go.AM

inductive DsRel (ρ : Rho) : List ADef → List Deferred → Prop
  | nil : DsRel ρ [] []
  | cons {d : ADef} {cd : Deferred} {l : List ADef} {l' : List Deferred} (h : DRel ρ d cd) (hs : DsRel ρ l l') : DsRel ρ (d :: l) (cd :: l')

theorem DsRel.mono {ρ ρ' : Rho} (hl : ρ.le ρ') {l : List ADef} {l' : List Deferred} (h : DsRel ρ l l') : DsRel ρ' l l' := by
  induction h with
  | nil => exact .nil
  | cons h _ ih => exact .cons (h.mono hl) ih

structure ActRel (ρ : Rho) (N : Nat) (a : AAct) (ca : Act) : Prop where
  size : ca.tmps.size = N
  lt : ∀ d v, a.tmps.get d = some v → d < N
  tm : ∀ d v, a.tmps.get d = some v → VRel ρ v (ca.tmps.getD d Go.undef)
  defs : DsRel ρ a.defers ca.defers

theorem ActRel.mono {ρ ρ' : Rho} (hl : ρ.le ρ') {N : Nat} {a : AAct} {ca : Act} (h : ActRel ρ N a ca) : ActRel ρ' N a ca :=
  ⟨h.size, h.lt, fun d v hv => (h.tm d v hv).mono hl, h.defs.mono hl⟩

/-- The temporaries an operand looks at. -/
def tmpOf : Operand → Option Nat
  | .tmp t => some t
  | _ => none

theorem ev_rel {ρ : Rho} {tm : Tr Value} {ca : Act} {x : Operand} {v : Value} (h : ev tm x = some v) (ht : ∀ t, x = .tmp t → tm.get t = some v → VRel ρ v (ca.tmps.getD t Go.undef)) : VRel ρ v (ca.eval x) := by
  cases x with
  | tmp t => exact ht t rfl h
  | const u =>
    have h : constV u = some v := h
    unfold constV at h
    cases hc : constOK u with
    | false => rw [hc] at h; cases h
    | true => rw [hc] at h; cases h; exact .same hc
  | global g => cases h
  | func f =>
    cases h
    exact .func rfl rfl (fun i v v' h => by simp at h) (fun i v v' h => by simp at h)

theorem ActRel.hop {ρ : Rho} {N : Nat} {a : AAct} {ca : Act} (h : ActRel ρ N a ca) (op : Op) : Hop ρ a.tmps ca.eval op :=
  fun _ _ _ hv => ev_rel hv fun t _ ht => h.tm t _ ht

theorem getD_setIf {l : Array Value} {d i : Nat} {v u : Value} : (l.setIfInBounds d v).getD i u = if d = i ∧ i < l.size then v else l.getD i u := by
  rw [Array.getD_eq_getD_getElem?, Array.getElem?_setIfInBounds, Array.getD_eq_getD_getElem?]
  by_cases h : d = i
  · subst h
    by_cases h2 : d < l.size
    · rw [if_pos rfl, if_pos h2, if_pos ⟨rfl, h2⟩]; rfl
    · rw [if_pos rfl, if_neg h2, if_neg (by simp [h2]), Array.getElem?_eq_none (by omega)]
  · rw [if_neg h, if_neg (by simp [h])]

theorem put_size (ca : Act) (dst : Option Nat) (v : Value) : (ca.put dst v).tmps.size = ca.tmps.size := by
  cases dst <;> simp [Act.put]

theorem putTmp_get (tm : Tr Value) (dst : Option Nat) (v : Value) (d : Nat) : (putTmp tm dst v).get d = if dst = some d then some v else tm.get d := by
  cases dst with
  | none => rfl
  | some x =>
    show (tm.set x v).get d = _
    rw [Tr.get_set_if]
    by_cases h : d = x
    · subst h; simp
    · rw [if_neg h, if_neg (by simp; omega)]

theorem put_getD (ca : Act) (dst : Option Nat) (v : Value) (d : Nat) (hlt : ∀ x, dst = some x → x < ca.tmps.size) : (ca.put dst v).tmps.getD d Go.undef = if dst = some d then v else ca.tmps.getD d Go.undef := by
  cases dst with
  | none => rfl
  | some x =>
    have hx := hlt x rfl
    show (ca.tmps.setIfInBounds x v).getD d Go.undef = _
    rw [getD_setIf]
    by_cases h : x = d
    · subst h; simp [hx]
    · rw [if_neg (by simp [h]), if_neg (by simp [h])]

theorem ActRel.put {ρ : Rho} {N : Nat} {a : AAct} {ca : Act} (h : ActRel ρ N a ca) {dst : Option Nat} {v cv : Value} (hv : VRel ρ v cv) (hlt : ∀ x, dst = some x → x < N) : ActRel ρ N ⟨putTmp a.tmps dst v, a.defers⟩ (ca.put dst cv) := by
  have hlt' : ∀ x, dst = some x → x < ca.tmps.size := fun x hx => by rw [h.size]; exact hlt x hx
  refine ⟨by rw [put_size]; exact h.size, ?_, ?_, ?_⟩
  · intro d u hu
    simp only at hu
    rw [putTmp_get] at hu
    by_cases hd : dst = some d
    · exact hlt d hd
    · rw [if_neg hd] at hu; exact h.lt d u hu
  · intro d u hu
    simp only at hu
    rw [putTmp_get] at hu
    rw [put_getD _ _ _ _ hlt']
    by_cases hd : dst = some d
    · rw [if_pos hd] at hu ⊢; cases hu; exact hv
    · rw [if_neg hd] at hu ⊢; exact h.tm d u hu
  · cases dst <;> exact h.defs

/-- Whether an operation is wanted. -/
theorem wanted_rel {ρ : Rho} {cops : Array Oper} {tm : Tr Value} {ca : Act} {o : Oper} {b : Bool} (h : wantedA cops.toList tm o = some b)
    (ht : ∀ g p d v, o.guard = some g → cops[g.1]? = some p → p.dst = some d → tm.get d = some v → d < ca.tmps.size ∧ VRel ρ v (ca.tmps.getD d Go.undef)) : Region.wanted o (yielded cops ca.tmps) = b := by
  unfold wantedA at h
  unfold Region.wanted
  cases hg : o.guard with
  | none => rw [hg] at h; cases h; rfl
  | some g =>
    obtain ⟨j, want⟩ := g
    rw [hg] at h
    have h : guardOK cops.toList tm (j, want) = some b := h
    unfold guardOK at h
    rw [nth_eq, Array.getElem?_toList] at h
    simp only
    unfold yielded
    cases hp : cops[j]? with
    | none => rw [hp] at h; simp only at h; cases h; simp
    | some p =>
      rw [hp] at h
      simp only at h
      cases hd : p.dst with
      | none => rw [hd] at h; simp only at h; cases h; simp [hd]
      | some d =>
        rw [hd] at h
        simp only at h
        cases hv : tm.get d with
        | none => rw [hv] at h; cases h
        | some v =>
          rw [hv] at h
          obtain ⟨hlt, hr⟩ := ht _ p d v hg hp hd hv
          have hget : ca.tmps[d]? = some (ca.tmps.getD d Go.undef) := by
            rw [Array.getD_eq_getD_getElem?, Array.getElem?_eq_getElem hlt]; rfl
          have hy : ((some p : Option Oper).bind (·.dst)).bind (ca.tmps[·]?) = some (ca.tmps.getD d Go.undef) := by
            simp only [Option.bind_some, hd, hget]
          rw [hy]
          generalize ca.tmps.getD d Go.undef = cv at hr
          cases v with
          | bool t =>
            obtain rfl := hr.bool_inv
            cases t <;> (simp only at h; cases h; first | (cases b <;> rfl) | (cases want <;> rfl))
          | _ =>
            simp only at h
            cases h
            cases hr <;> first | rfl | (rename_i hc; simp [constOK] at hc; done)

section
variable {P : Program} {T : Tr TI} {tm : Tr Value} {S0 S' : AS} {o : Oper} {v : Value}

/-- A light operation run at a later state. -/
theorem light_run (h : LightOK P T tm o S0 S' v) {ρ ρ0 : Rho} {S2 SS : AS} {w w0 : World} {E : Operand → Value} (hR : Rel ρ S2 w) (hc : Cond T tm o.op S0 S2)
    (hal : ∀ O, S' = S0.more O → S2.heap.get S0.next = some O ∧ ρ S0.next = none) (hop : Hop ρ tm E o.op) (hx : Ext ρ0 SS w0 ρ S2 w) (hge : SS.next ≤ S0.next) :
    ∃ cv w' ρ', (execOp E o).run P w = .ok (.value cv) w' ∧ Rel ρ' S2 w' ∧ Ext ρ0 SS w0 ρ' S2 w' ∧ VRel ρ' v cv ∧ ρ.le ρ' ∧ (∀ b, b ≠ S0.next ∨ S' = S0 → ρ' b = ρ b) := by
  rcases h with ⟨hS, hp⟩ | ⟨O, hS, hown, hp⟩
  · obtain ⟨cv, h1, h2⟩ := hp ρ S2 w E hR hc hop
    exact ⟨cv, w, ρ, h1, hR, hx, h2, Rho.le_refl ρ, fun _ _ => rfl⟩
  · obtain ⟨a1, a2⟩ := hal O hS
    obtain ⟨X, r, w1, cv, e1, e2, e3, e4, h1, h2, h3, h4, h5⟩ := hp ρ S2 w E hR hc a1 a2 hop
    have hR1 : Rel ρ S2 w1 := hR.of_heap e1
    have hx1 : Ext ρ0 SS w0 ρ S2 w1 := hx.of_heap e1 e2 e3 e4
    refine ⟨cv, _, ρ.put S0.next r, h1, ?_, ?_, h5, Rho.le_put r a2, fun b hb => ?_⟩
    · exact rel_real hR1 a2 a1 (by rw [h2, e1]) (fun b x hb => by have := hR.cb_lt hb; omega) h4
    · exact ext_real hx1 X a2 hge (by rw [h2, e1]) (.inl (by omega))
    · rcases hb with hb | hb
      · exact Rho.put_ne _ _ hb
      · rw [hb] at hS
        have := congrArg AS.next hS
        simp [AS.more] at this
end
end Go.AM
