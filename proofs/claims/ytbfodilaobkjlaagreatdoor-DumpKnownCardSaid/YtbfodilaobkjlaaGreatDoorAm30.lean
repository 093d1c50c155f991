/- The abstract machine: the code of a deferred call. -/
import Derived.Test.YtbfodilaobkjlaaGreatDoorAm29
namespace Go.AM

section
variable {P : Program} {T : Tr TI} {X : Exts} {call : CallF} {pl : Nat → Option Plan}
variable (hT : ∀ t ti, T.get t = some ti → TypeOK P t ti) (hK : KeysOK P T) (hX : XOK P X) (hC : CallOK P call) (hM : P.follows .mixedOrders = true)
include hT hK hX hC hM

theorem codeD_ok {M N : Nat} (hMN : M ≤ N) {ρ0 : Rho} {S0 : AS} {w0 : World} {cs : List Frame} (hrec : recoverD cs = none) {m : Nat} : ∀ (n : Nat) (c : Code) (a : AAct) (S : AS) (e : AExit) (a' : AAct) (S' : AS), codeD T X call pl m n c a S = some (.mk e a' S') → CodeOK M pl c →
    ∀ (ρ : Rho) (w : World) (ca : Act) (Q : Exit → Act → List Frame → World → Prop), Rel ρ S w → Ext ρ0 S0 w0 ρ S w → ActRel ρ N a ca →
      (∀ e' ca' w', Leave ρ0 S0 w0 N e a' S' e' ca' w' → Q e' ca' cs w') → c.wpS P Q ca cs w := by
  intro n
  induction n with
  | zero => intro c a S e a' S' h; cases h
  | succ n ih =>
    intro c a S e a' S' h hc ρ w ca Q hR hx hA hQ
    have plain : code T X call pl m c a S = some (.mk e a' S') → c.wpS P Q ca cs w := fun h =>
      wpS_of_wp (code_ok hT hK hX hC hM hMN m c a S e a' S' h hc ρ w ca _ hR hx hA hQ)
    cases c with
    | seq x y =>
      have e0 : codeD T X call pl m (n + 1) (.seq x y) a S = match codeD T X call pl m n x a S with
          | some (.mk .normal a S) => codeD T X call pl m n y a S
          | r => r := rfl
      rw [e0] at h
      cases hx1 : codeD T X call pl m n x a S with
      | none => rw [hx1] at h; cases h
      | some r =>
        obtain ⟨e1, a1, S1⟩ := r
        rw [hx1] at h
        refine wpS_seq (ih x a S e1 a1 S1 hx1 hc.seq.1 ρ w ca _ hR hx hA fun e' ca' w' hL => ?_)
        cases e1 with
        | normal =>
          obtain ⟨ρ', g1, g2, rfl, g3⟩ := hL
          exact ih y a1 S1 e a' S' h hc.seq.2 ρ' w' ca' Q g1 g2 g3 hQ
        | ret => cases h; have hq := hQ e' ca' w' hL; obtain ⟨ρ', g1, g2, rfl, g3⟩ := hL; exact hq
        | exit id => cases h; have hq := hQ e' ca' w' hL; obtain ⟨ρ', g1, g2, rfl, g3⟩ := hL; exact hq
        | pan v => cases h; have hq := hQ e' ca' w' hL; obtain ⟨ρ', g1, g2, cv, rfl, g3⟩ := hL; exact hq
    | cond x y z =>
      have e0 : codeD T X call pl m (n + 1) (.cond x y z) a S = match ev a.tmps x with
        | some (.bool true) => codeD T X call pl m n y a S
        | some (.bool false) => codeD T X call pl m n z a S
        | _ => none := rfl
      rw [e0] at h
      split at h
      · rename_i hv
        exact wpS_cond (t := true) (VRel.bool_inv (ev_rel hv fun t _ ht => hA.tm t _ ht)) (ih y a S e a' S' h hc.cond.1 ρ w ca Q hR hx hA hQ)
      · rename_i hv
        exact wpS_cond (t := false) (VRel.bool_inv (ev_rel hv fun t _ ht => hA.tm t _ ht)) (ih z a S e a' S' h hc.cond.2 ρ w ca Q hR hx hA hQ)
      · cases h
    | region id ops draw =>
      cases draw with
      | true => exact plain h
      | false =>
        obtain ⟨hd, hl⟩ := hc.region
        have hN0 := dstsChk_ok hMN hd
        have fin : ∀ x : AReg, (match x with | .norm a S => some (ARes.mk .normal a S) | .pan v a S => some (ARes.mk (.pan v) a S)) = some (.mk e a' S') →
            (∀ a1 S1 ca' w' ρ', x = .norm a1 S1 → Rel ρ' S1 w' → Ext ρ0 S0 w0 ρ' S1 w' → ActRel ρ' N a1 ca' → Q .normal ca' cs w') ∧
            (∀ v a1 S1 ca' cv w' ρ', x = .pan v a1 S1 → Rel ρ' S1 w' → Ext ρ0 S0 w0 ρ' S1 w' → VRel ρ' v cv → DsRel ρ' a1.defers ca'.defers → Q (.panic (chainOf cv)) ca' cs w') := by
          intro x hx2
          refine ⟨fun a1 S1 ca' w' ρ' he g1 g2 g3 => ?_, fun v a1 S1 ca' cv w' ρ' he g1 g2 g3 g4 => ?_⟩
          · subst he; cases hx2; exact hQ _ _ _ ⟨ρ', g1, g2, rfl, g3⟩
          · subst he; cases hx2; exact hQ _ _ _ ⟨ρ', g1, g2, cv, rfl, g3, g4⟩
        have e0 : codeD T X call pl m (n + 1) (.region id ops false) a S = match seqOps T X (some .nilIface) call ops.toList ops.toList a S with
          | some (.norm a S) => some (.mk .normal a S)
          | some (.pan v a S) => some (.mk (.pan v) a S)
          | none => none := rfl
        rw [e0] at h
        cases hs : seqOps T X (some .nilIface) call ops.toList ops.toList a S with
        | none => rw [hs] at h; cases h
        | some x =>
          rw [hs] at h
          obtain ⟨f1, f2⟩ := fin x (by cases x <;> exact h)
          have := seqS_ok hT hK hX hC hrec hN0 f1 f2 ops.toList 0 a S ρ w ca rfl hs hR hx hA
          refine wpS_region ?_
          rw [List.range_eq_range']
          simpa using this
    | _ => exact plain h
end
end Go.AM
