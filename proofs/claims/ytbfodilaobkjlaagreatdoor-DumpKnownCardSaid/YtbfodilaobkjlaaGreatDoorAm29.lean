/- The abstract machine: code. -/
import Derived.Test.YtbfodilaobkjlaaGreatDoorAm28
import Derived.LoopN
namespace Go.AM

noncomputable section
def dstsChk (N : Nat) (l : List Oper) : Bool := l.all fun o => match o.dst with | none => true | some d => Nat.ble (d + 1) N

def codeChk (N : Nat) (pl : Nat → Option Plan) : Nat → Code → Bool
  | 0, _ => false
  | n + 1, c => match c with
    | .region id ops draw => dstsChk N ops.toList && (match draw, pl id with | true, some l => planOK ops.toList l | _, _ => true)
    | .seq x y => codeChk N pl n x && codeChk N pl n y
    | .cond _ x y => codeChk N pl n x && codeChk N pl n y
    | .block _ x => codeChk N pl n x
    | .loop x => codeChk N pl n x
    | _ => true
end

def CodeOK (N : Nat) (pl : Nat → Option Plan) (c : Code) : Prop := ∃ n, codeChk N pl n c = true

theorem dstsChk_ok {N M : Nat} {l : List Oper} (hNM : N ≤ M) (h : dstsChk N l = true) : dstsLt M l := by
  intro o ho x hx
  have := List.all_eq_true.1 h o ho
  rw [hx] at this
  have h2 : x + 1 ≤ N := Nat.le_of_ble_eq_true this
  exact Nat.lt_of_lt_of_le h2 hNM

section
variable {N : Nat} {pl : Nat → Option Plan}

theorem CodeOK.region {id : Nat} {ops : Array Oper} {draw : Bool} (h : CodeOK N pl (.region id ops draw)) : dstsChk N ops.toList = true ∧ (draw = true → ∀ l, pl id = some l → planOK ops.toList l = true) := by
  obtain ⟨n, h⟩ := h
  cases n with
  | zero => cases h
  | succ n =>
    unfold codeChk at h
    simp only [Bool.and_eq_true] at h
    refine ⟨h.1, fun hd l hl => ?_⟩
    have h2 := h.2
    rw [hd, hl] at h2
    exact h2
theorem CodeOK.seq {x y : Code} (h : CodeOK N pl (.seq x y)) : CodeOK N pl x ∧ CodeOK N pl y := by
  obtain ⟨n, h⟩ := h
  cases n with
  | zero => cases h
  | succ n => unfold codeChk at h; simp only [Bool.and_eq_true] at h; exact ⟨⟨n, h.1⟩, ⟨n, h.2⟩⟩
theorem CodeOK.cond {c : Operand} {x y : Code} (h : CodeOK N pl (.cond c x y)) : CodeOK N pl x ∧ CodeOK N pl y := by
  obtain ⟨n, h⟩ := h
  cases n with
  | zero => cases h
  | succ n => unfold codeChk at h; simp only [Bool.and_eq_true] at h; exact ⟨⟨n, h.1⟩, ⟨n, h.2⟩⟩
theorem CodeOK.block {id : Nat} {x : Code} (h : CodeOK N pl (.block id x)) : CodeOK N pl x := by
  obtain ⟨n, h⟩ := h
  cases n with
  | zero => cases h
  | succ n => unfold codeChk at h; exact ⟨n, h⟩
theorem CodeOK.loop {x : Code} (h : CodeOK N pl (.loop x)) : CodeOK N pl x := by
  obtain ⟨n, h⟩ := h
  cases n with
  | zero => cases h
  | succ n => unfold codeChk at h; exact ⟨n, h⟩
end

def ExitRel (ρ : Rho) (N : Nat) (a' : AAct) (ca' : Act) : AExit → Exit → Prop
  | .normal, e' => e' = .normal ∧ ActRel ρ N a' ca'
  | .ret, e' => e' = .ret ∧ ActRel ρ N a' ca'
  | .exit id, e' => e' = .exit id ∧ ActRel ρ N a' ca'
  | .pan v, e' => ∃ cv, e' = .panic (chainOf cv) ∧ VRel ρ v cv ∧ DsRel ρ a'.defers ca'.defers

/-- What a run of code leaves. -/
def Leave (ρ0 : Rho) (S0 : AS) (w0 : World) (N : Nat) (e : AExit) (a' : AAct) (S' : AS) (e' : Exit) (ca' : Act) (w' : World) : Prop :=
  ∃ ρ', Rel ρ' S' w' ∧ Ext ρ0 S0 w0 ρ' S' w' ∧ ExitRel ρ' N a' ca' e e'

section
variable {P : Program} {T : Tr TI} {X : Exts} {call : CallF} {pl : Nat → Option Plan}
variable (hT : ∀ t ti, T.get t = some ti → TypeOK P t ti) (hK : KeysOK P T) (hX : XOK P X) (hC : CallOK P call) (hM : P.follows .mixedOrders = true)
include hT hK hX hC hM

theorem code_ok {M N : Nat} (hMN : M ≤ N) {ρ0 : Rho} {S0 : AS} {w0 : World} : ∀ (n : Nat) (c : Code) (a : AAct) (S : AS) (e : AExit) (a' : AAct) (S' : AS), code T X call pl n c a S = some (.mk e a' S') → CodeOK M pl c →
    ∀ (ρ : Rho) (w : World) (ca : Act) (Q : Exit → Act → World → Prop), Rel ρ S w → Ext ρ0 S0 w0 ρ S w → ActRel ρ N a ca →
      (∀ e' ca' w', Leave ρ0 S0 w0 N e a' S' e' ca' w' → Q e' ca' w') → c.wp P Q ca w := by
  intro n
  induction n using Nat.strongRecOn with
  | ind n ih =>
  intro c a S e a' S' h hc ρ w ca Q hR hx hA hQ
  cases n with
  | zero => cases h
  | succ n =>
    -- the first part ends otherwise than normally
    have other : ∀ {e1 : AExit} {e' : Exit} {ca' : Act} {w' : World} {a1 : AAct} {S1 : AS} {K : Act → World → Prop}, e1 ≠ .normal → Leave ρ0 S0 w0 N e1 a1 S1 e' ca' w' → (some (ARes.mk e1 a1 S1) = some (.mk e a' S')) → Exit.then K Q e' ca' w' := by
      intro e1 e' ca' w' a1 S1 K hne hL heq
      cases heq
      have hq := hQ e' ca' w' hL
      obtain ⟨ρ', _, _, hE⟩ := hL
      cases e with
      | normal => exact absurd rfl hne
      | ret => obtain ⟨rfl, _⟩ := hE; exact hq
      | exit id => obtain ⟨rfl, _⟩ := hE; exact hq
      | pan v => obtain ⟨cv, rfl, _⟩ := hE; exact hq
    cases c with
    | skip => cases h; exact wp_skip (hQ _ _ _ ⟨ρ, hR, hx, rfl, hA⟩)
    | ret => cases h; exact wp_ret (hQ _ _ _ ⟨ρ, hR, hx, rfl, hA⟩)
    | exit id => cases h; exact wp_exit (hQ _ _ _ ⟨ρ, hR, hx, rfl, hA⟩)
    | seq x y =>
      have e0 : code T X call pl (n + 1) (.seq x y) a S = match code T X call pl n x a S with
          | some (.mk .normal a S) => code T X call pl n y a S
          | r => r := rfl
      rw [e0] at h
      cases hx1 : code T X call pl n x a S with
      | none => rw [hx1] at h; cases h
      | some r =>
        obtain ⟨e1, a1, S1⟩ := r
        rw [hx1] at h
        refine wp_seq (ih n (Nat.lt_succ_self n) x a S e1 a1 S1 hx1 hc.seq.1 ρ w ca _ hR hx hA fun e' ca' w' hL => ?_)
        cases e1 with
        | normal =>
          obtain ⟨ρ', g1, g2, rfl, g3⟩ := hL
          exact ih n (Nat.lt_succ_self n) y a1 S1 e a' S' h hc.seq.2 ρ' w' ca' Q g1 g2 g3 hQ
        | _ => exact other (by simp) hL h
    | cond x y z =>
      have e0 : code T X call pl (n + 1) (.cond x y z) a S = match ev a.tmps x with
        | some (.bool true) => code T X call pl n y a S
        | some (.bool false) => code T X call pl n z a S
        | _ => none := rfl
      rw [e0] at h
      split at h
      · rename_i hv
        exact wp_cond_true (VRel.bool_inv (ev_rel hv fun t _ ht => hA.tm t _ ht)) (ih n (Nat.lt_succ_self n) y a S e a' S' h hc.cond.1 ρ w ca Q hR hx hA hQ)
      · rename_i hv
        exact wp_cond_false (VRel.bool_inv (ev_rel hv fun t _ ht => hA.tm t _ ht)) (ih n (Nat.lt_succ_self n) z a S e a' S' h hc.cond.2 ρ w ca Q hR hx hA hQ)
      · cases h
    | block id x =>
      have e0 : code T X call pl (n + 1) (.block id x) a S = match code T X call pl n x a S with
        | some (.mk (.exit id') a S) => match Nat.beq id' id with
          | true => some (.mk .normal a S)
          | false => some (.mk (.exit id') a S)
        | r => r := rfl
      rw [e0] at h
      cases hx1 : code T X call pl n x a S with
      | none => rw [hx1] at h; cases h
      | some r =>
        obtain ⟨e1, a1, S1⟩ := r
        rw [hx1] at h
        refine wp_block (ih n (Nat.lt_succ_self n) x a S e1 a1 S1 hx1 hc.block ρ w ca _ hR hx hA fun e' ca' w' hL => ?_)
        obtain ⟨ρ', g1, g2, g3⟩ := hL
        cases e1 with
        | exit id' =>
          obtain ⟨rfl, g3⟩ := g3
          simp only at h
          cases hb : Nat.beq id' id with
          | true =>
            rw [hb] at h
            cases h
            have := Nat.eq_of_beq_eq_true hb
            subst this
            show (if id' = id' then Q .normal ca' w' else _)
            rw [if_pos rfl]
            exact hQ _ _ _ ⟨ρ', g1, g2, rfl, g3⟩
          | false =>
            rw [hb] at h
            cases h
            have hne : id' ≠ id := fun e => by rw [e, Nat.beq_refl] at hb; cases hb
            show (if id' = id then Q .normal ca' w' else Q (.exit id') ca' w')
            rw [if_neg hne]
            exact hQ _ _ _ ⟨ρ', g1, g2, rfl, g3⟩
        | normal => cases h; obtain ⟨rfl, g3⟩ := g3; exact hQ _ _ _ ⟨ρ', g1, g2, rfl, g3⟩
        | ret => cases h; obtain ⟨rfl, g3⟩ := g3; exact hQ _ _ _ ⟨ρ', g1, g2, rfl, g3⟩
        | pan v => cases h; obtain ⟨cv, rfl, g3⟩ := g3; exact hQ _ _ _ ⟨ρ', g1, g2, cv, rfl, g3⟩
    | loop x =>
      have key : ∀ (m : Nat), m ≤ n + 1 → ∀ (a : AAct) (S : AS), code T X call pl m (.loop x) a S = some (.mk e a' S') → ∀ (ρ : Rho) (w : World) (ca : Act), Rel ρ S w → Ext ρ0 S0 w0 ρ S w → ActRel ρ N a ca → Code.rounds P x Q m ca w := by
        intro m
        induction m with
        | zero => intro _ a S h; cases h
        | succ m ihm =>
          intro hm a S h ρ w ca hR hx hA
          have e0 : code T X call pl (m + 1) (.loop x) a S = match code T X call pl m x a S with
            | some (.mk .normal a S) => code T X call pl m (.loop x) a S
            | r => r := rfl
          rw [e0] at h
          rw [rounds_succ]
          cases hx1 : code T X call pl m x a S with
          | none => rw [hx1] at h; cases h
          | some r =>
            obtain ⟨e1, a1, S1⟩ := r
            rw [hx1] at h
            refine ih m (by omega) x a S e1 a1 S1 hx1 hc.loop ρ w ca _ hR hx hA fun e' ca' w' hL => ?_
            cases e1 with
            | normal =>
              obtain ⟨ρ', g1, g2, rfl, g3⟩ := hL
              exact ihm (by omega) a1 S1 h ρ' w' ca' g1 g2 g3
            | _ => exact other (by simp) hL h
      exact wp_loop_rounds (n + 1) (key (n + 1) (Nat.le_refl _) a S h ρ w ca hR hx hA)
    | region id ops draw =>
      obtain ⟨hd, hl⟩ := hc.region
      have hN0 := dstsChk_ok hMN hd
      have fin : ∀ x : AReg, (match x with | .norm a S => some (ARes.mk .normal a S) | .pan v a S => some (ARes.mk (.pan v) a S)) = some (.mk e a' S') →
          (∀ a1 S1 ca' w' ρ', x = .norm a1 S1 → Rel ρ' S1 w' → Ext ρ0 S0 w0 ρ' S1 w' → ActRel ρ' N a1 ca' → Q .normal ca' w') ∧
          (∀ v a1 S1 ca' cv w' ρ', x = .pan v a1 S1 → Rel ρ' S1 w' → Ext ρ0 S0 w0 ρ' S1 w' → VRel ρ' v cv → DsRel ρ' a1.defers ca'.defers → Q (.panic (chainOf cv)) ca' w') := by
        intro x hx2
        refine ⟨fun a1 S1 ca' w' ρ' he g1 g2 g3 => ?_, fun v a1 S1 ca' cv w' ρ' he g1 g2 g3 g4 => ?_⟩
        · subst he; cases hx2; exact hQ _ _ _ ⟨ρ', g1, g2, rfl, g3⟩
        · subst he; cases hx2; exact hQ _ _ _ ⟨ρ', g1, g2, cv, rfl, g3, g4⟩
      cases draw with
      | false =>
        have e0 : code T X call pl (n + 1) (.region id ops false) a S = match seqOps T X none call ops.toList ops.toList a S with
          | some (.norm a S) => some (.mk .normal a S)
          | some (.pan v a S) => some (.mk (.pan v) a S)
          | none => none := rfl
        rw [e0] at h
        cases hs : seqOps T X none call ops.toList ops.toList a S with
        | none => rw [hs] at h; cases h
        | some x =>
          rw [hs] at h
          obtain ⟨f1, f2⟩ := fin x (by cases x <;> exact h)
          have := seq_ok hT hK hX hC hN0 f1 f2 ops.toList 0 a S ρ w ca rfl hs hR hx hA
          refine wp_region ?_
          rw [List.range_eq_range']
          simpa using this
      | true =>
        have e0 : code T X call pl (n + 1) (.region id ops true) a S = match pl id with
          | none => none
          | some l => match drawOps T X none call ops.toList l [] a S with
            | some (.norm a S) => some (.mk .normal a S)
            | some (.pan v a S) => some (.mk (.pan v) a S)
            | none => none := rfl
        rw [e0] at h
        cases hp : pl id with
        | none => rw [hp] at h; cases h
        | some l =>
          rw [hp] at h
          simp only at h
          cases hs : drawOps T X none call ops.toList l [] a S with
          | none => rw [hs] at h; cases h
          | some x =>
            rw [hs] at h
            obtain ⟨f1, f2⟩ := fin x (by cases x <;> exact h)
            exact wp_region_any hM (draw_ok hT hK hX hC hN0 (hl rfl l hp) hs (hR.of_heap rfl) (hx.of_heap rfl rfl rfl rfl) hA f1 f2)
    | _ => cases h
end
end Go.AM
