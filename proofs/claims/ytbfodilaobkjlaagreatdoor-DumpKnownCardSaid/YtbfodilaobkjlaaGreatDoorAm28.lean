/- The abstract machine: a region that draws its order, whole. -/
import Derived.Test.YtbfodilaobkjlaaGreatDoorAm27
namespace Go.AM

section
variable {C : Ctx} (hOK : C.OK)
variable {Q : Exit → Act → World → Prop}
include hOK

theorem Inv.onward {listed : Array Bool} {ca : Act} {w : World} {ρ : Rho} : ∀ (rest past : Plan) (ps : List Pend) (L : List PR) (a : AAct) (S : AS), Inv C listed ca w ρ past rest ps L a S →
    ∃ past' rest' ps' L' a' S', Inv C listed ca w ρ past' rest' ps' L' a' S' ∧ L'.length + rest'.length = L.length + rest.length ∧
      (rest' = [] ∨ ∃ i js r o, rest' = (i, js) :: r ∧ C.cops[i]? = some o ∧ wantedA C.cops.toList a'.tmps o = some true ∧ isHeavy o.op = true) := by
  intro rest
  induction rest with
  | nil => intro past ps L a S h; exact ⟨_, _, _, _, _, _, h, rfl, .inl rfl⟩
  | cons q rest ih =>
    intro past ps L a S h
    obtain ⟨i, js⟩ := q
    obtain ⟨o, r, ho, hone, _⟩ := drawOps_cons h.draw
    by_cases hs : wantedA C.cops.toList a.tmps o = some true ∧ isHeavy o.op = true
    · exact ⟨_, _, _, _, _, _, h, rfl, .inr ⟨i, js, rest, o, rfl, ho, hs.1, hs.2⟩⟩
    · obtain ⟨ps1, L1, a1, S1, h1, hlen⟩ := h.advance hOK (fun o' ho' hw => by
        rw [ho] at ho'; cases ho'
        cases hh : isHeavy o.op with
        | false => rfl
        | true => exact absurd ⟨hw, hh⟩ hs)
      obtain ⟨p', r', ps', L', a', S', h2, h3, h4⟩ := ih _ _ _ _ _ h1
      exact ⟨p', r', ps', L', a', S', h2, by rw [h3, hlen, List.length_cons]; omega, h4⟩

theorem Inv.done {listed : Array Bool} {ca : Act} {w : World} {ρ : Rho} {past rest : Plan} {ps : List Pend} {L : List PR} {a : AAct} {S : AS} (h : Inv C listed ca w ρ past rest ps L a S)
    (hr : Region.ready .any C.cops listed = [])
    (hN : ∀ a' S' ca' w' ρ', C.x = .norm a' S' → Rel ρ' S' w' → Ext C.ρ0 C.S0 C.w0 ρ' S' w' → ActRel ρ' C.N a' ca' → Q .normal ca' w') : Q .normal ca w := by
  have hall := all_listed hr h.lsize C.l [] (planOK_all hOK.hl).1 (planOK_all hOK.hl).2 (by simp)
  have hall : ∀ q ∈ C.l, listed.getD q.1 false = true := hall
  have hrest : rest = [] := by
    cases rest with
    | nil => rfl
    | cons q rest =>
      exfalso
      have h1 := hall q (by rw [h.split]; simp)
      rw [h.restU q List.mem_cons_self] at h1
      cases h1
  subst hrest
  have hx : C.x = .norm a S := by
    have := h.draw
    have e : drawOps C.T C.X none C.call C.cops.toList [] ps a S = some (.norm a S) := rfl
    rw [e] at this
    exact (Option.some.inj this).symm
  refine hN a S ca w ρ hx h.rel h.ext ⟨h.size, h.lt, fun d v hv => h.now d v (fun i o hi _ => ?_) hv, h.defs⟩
  obtain ⟨js, hm⟩ := (planOK_all hOK.hl).2 i (Array.getElem?_eq_some_iff.1 hi).1
  exact hall _ hm

theorem draw_any
    (hN : ∀ a' S' ca' w' ρ', C.x = .norm a' S' → Rel ρ' S' w' → Ext C.ρ0 C.S0 C.w0 ρ' S' w' → ActRel ρ' C.N a' ca' → Q .normal ca' w')
    (hP : ∀ v a' S' ca' cv w' ρ', C.x = .pan v a' S' → Rel ρ' S' w' → Ext C.ρ0 C.S0 C.w0 ρ' S' w' → VRel ρ' v cv → DsRel ρ' a'.defers ca'.defers → Q (.panic (chainOf cv)) ca' w') :
    ∀ (fuel : Nat) (listed : Array Bool) (ca : Act) (w : World), (∃ ρ past rest ps L a S, Inv C listed ca w ρ past rest ps L a S ∧ L.length + rest.length ≤ fuel) → wpAny C.P .any C.cops Q fuel listed ca w := by
  intro fuel
  induction fuel with
  | zero =>
    rintro listed ca w ⟨ρ, past, rest, ps, L, a, S, h, hle⟩
    have hL : L = [] := List.eq_nil_of_length_eq_zero (by omega)
    have hrest : rest = [] := List.eq_nil_of_length_eq_zero (by omega)
    subst hL hrest
    have hr : Region.ready .any C.cops listed = [] := by
      rw [List.eq_nil_iff_forall_not_mem]
      intro i hi
      obtain ⟨hul, o, ho, _⟩ := mem_ready.1 hi
      have hlt := (Array.getElem?_eq_some_iff.1 ho).1
      rcases hOK.all h.split hlt with ⟨js, hm⟩ | ⟨js, hm⟩
      · have hun : listed.getD i false = false := by
          rw [Array.getD_eq_getD_getElem?, Array.getElem?_eq_getElem (by rw [h.lsize]; exact hlt)] at hul ⊢; exact hul
        obtain ⟨r, hr, _⟩ := h.pend _ hm hun
        simp at hr
      · simp at hm
    exact ⟨hr, h.done hOK hr hN⟩
  | succ fuel ih =>
    rintro listed ca w ⟨ρ, past, rest, ps, L, a, S, h, hle⟩
    refine ⟨fun hr => h.done hOK hr hN, fun i hi => ?_⟩
    obtain ⟨past, rest, ps, L, a, S, h, hlen, hhead⟩ := h.onward hOK
    obtain ⟨hul, o, ho, _⟩ := mem_ready.1 hi
    have hlt := (Array.getElem?_eq_some_iff.1 ho).1
    have hun : listed.getD i false = false := by
      rw [Array.getD_eq_getD_getElem?, Array.getElem?_eq_getElem (by rw [h.lsize]; exact hlt)] at hul ⊢; exact hul
    rcases hOK.all h.split hlt with ⟨js, hm⟩ | ⟨js, hm⟩
    · refine h.take hOK hi hm fun ca' w' ρ' L' h' hl' => ih _ _ _ ⟨ρ', past, rest, ps, L', a, S, h', ?_⟩
      omega
    · rcases hhead with rfl | ⟨i0, js0, rest0, o0, rfl, ho0, hw0, hh0⟩
      · simp at hm
      · rcases List.mem_cons.1 hm with hm | hm
        · cases hm
          refine h.heavy hOK hi ho0 hw0 hh0 hP fun ca' w' ρ' a' S' h' => ih _ _ _ ⟨ρ', _, rest0, ps, L, a', S', h', ?_⟩
          simp only [List.length_cons] at hlen hle
          omega
        · exfalso
          obtain ⟨c1, _⟩ := hOK.pairs h.split
          obtain ⟨⟨ko, hko, hhead⟩, _⟩ := planChk_cons c1
          rw [ho0] at hko; cases hko
          obtain ⟨p, _, hpair⟩ := hhead.pair _ hm
          rcases hpair.dep with hdep | ⟨_, _, h3, _⟩
          · have := hdep listed h.closed (.inr hi)
            rw [h.restU _ List.mem_cons_self] at this
            cases this
          · rw [hh0] at h3; cases h3
end

section
variable {P : Program} {T : Tr TI} {X : Exts} {call : CallF}
variable (hT : ∀ t ti, T.get t = some ti → TypeOK P t ti) (hK : KeysOK P T) (hX : XOK P X) (hC : CallOK P call)
include hT hK hX hC

theorem draw_ok {cops : Array Oper} {N : Nat} {l : Plan} {ρ0 ρ : Rho} {S0 S : AS} {w0 w : World} {Q : Exit → Act → World → Prop} {x : AReg} {a : AAct} {ca : Act} (hN0 : dstsLt N cops.toList) (hl : planOK cops.toList l = true)
    (h : drawOps T X none call cops.toList l [] a S = some x) (hR : Rel ρ S w) (hx : Ext ρ0 S0 w0 ρ S w) (hA : ActRel ρ N a ca)
    (hN : ∀ a' S' ca' w' ρ', x = .norm a' S' → Rel ρ' S' w' → Ext ρ0 S0 w0 ρ' S' w' → ActRel ρ' N a' ca' → Q .normal ca' w')
    (hP : ∀ v a' S' ca' cv w' ρ', x = .pan v a' S' → Rel ρ' S' w' → Ext ρ0 S0 w0 ρ' S' w' → VRel ρ' v cv → DsRel ρ' a'.defers ca'.defers → Q (.panic (chainOf cv)) ca' w') :
    wpAny P .any cops Q cops.size (Array.replicate cops.size false) ca w := by
  let C : Ctx := ⟨P, T, X, call, cops, N, l, x, ρ0, S0, w0, a⟩
  have hOK : C.OK := ⟨hT, hK, hX, hC, hN0, hl, hA.lt⟩
  have hf : ∀ i : Nat, (Array.replicate cops.size false).getD i false = false := by
    intro i
    rw [Array.getD_eq_getD_getElem?, Array.getElem?_replicate]
    split <;> rfl
  refine draw_any (C := C) hOK hN hP cops.size _ ca w ⟨ρ, [], l, [], [], a, S, ?_, ?_⟩
  · exact ⟨rfl, h, hR, hx, hA.size, hA.lt, by simp [C], (fun j o _ hj => by rw [hf] at hj; cases hj), fun q _ => hf _, fun d v i o _ _ _ hv => hA.tm d v hv, fun d v _ hv => hA.tm d v hv,
      fun _ _ _ _ _ _ => rfl, hA.defs, by simp, by simp, by simp⟩
  · have := planOK_len hl
    simpa using this
end
end Go.AM
