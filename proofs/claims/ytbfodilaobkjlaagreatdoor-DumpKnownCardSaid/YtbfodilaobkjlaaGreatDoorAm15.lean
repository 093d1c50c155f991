/- The abstract machine's light operations are the model's: slices, parts, conversions. -/
import Derived.Test.YtbfodilaobkjlaaGreatDoorAm14
import Derived.Laws.BytesString
import Derived.Lib.Strings
namespace Go.AM

theorem rep_get {z : Array Value} {s : Nat} (hz : z.size = s) (_hs : 0 < s) : ∀ n j, ((List.replicate n z.toList).flatten)[j]? = if j < n * s then some (z.toList.getD (j % s) undef) else none := by
  intro n
  induction n with
  | zero => intro j; simp
  | succ n ih =>
    intro j
    have hl : z.toList.length = s := by simp [hz]
    rw [List.replicate_succ, List.flatten_cons]
    have hm : (n + 1) * s = n * s + s := Nat.succ_mul n s
    by_cases hj : j < s
    · rw [List.getElem?_append_left (by omega), if_pos (by omega), Nat.mod_eq_of_lt hj, List.getD_eq_getElem?_getD, List.getElem?_eq_getElem (by omega)]
      rfl
    · rw [List.getElem?_append_right (by omega), ih, hl]
      have : (j - s) % s = j % s := by
        have := Nat.add_mod_right (j - s) s
        rw [Nat.sub_add_cancel (by omega)] at this
        exact this.symm
      rw [this]
      by_cases h2 : j < (n + 1) * s
      · rw [if_pos (by omega), if_pos h2]
      · rw [if_neg (by omega), if_neg h2]

section
variable {P : Program} {T : Tr TI} {tm : Tr Value} {S S' : AS} {o : Oper} {v : Value}

theorem sliceBound_run {x : Value} {d y y' l : Nat} (h : sliceLim (some x) d y = some l) (hy : y ≤ y') (code : BoundsCode) (w : World) : (Instr.sliceBound x y' code).run P w = .ok l w ∧ l ≤ y := by
  unfold sliceLim at h
  split at h
  · cases ‹some x = none›
  · rename_i k i heq
    cases heq
    split at h
    · rename_i hle
      have hle := Nat.le_of_ble_eq_true hle
      cases h
      have : l ≤ y' := by omega
      refine ⟨?_, hle⟩
      simp [Instr.sliceBound, asIntOf, this]
    · cases h
  · cases h

theorem sliceBounds_run {isS : Bool} {n c c' l hh m : Nat} {lo hi mx : Option Value} (h : sliceL n c isS lo hi mx = some (l, hh, m)) (hcc : c ≤ c') (hn : n ≤ c) (w : World) :
    ∃ m', (Instr.sliceBounds isS n c' lo hi mx).run P w = .ok (l, hh, m') w ∧ l ≤ hh ∧ hh ≤ m ∧ m ≤ c ∧ ((m' = m ∧ mx ≠ none) ∨ (m' = c' ∧ m = c ∧ mx = none)) := by
  have low : ∀ {hh l : Nat}, sliceLim lo 0 hh = some l → l ≤ hh := by
    intro hh l hl
    cases lo with
    | none => cases hl; exact Nat.zero_le _
    | some x => exact (sliceBound_run (P := P) hl (Nat.le_refl _) .sliceB w).2
  unfold sliceL at h
  cases mx with
  | none =>
    simp only at h
    split at h
    · cases h
    · rename_i h1 hh1
      split at h
      · cases h
      · rename_i l1 hl1
        cases h
        have k1 := low hl1
        refine ⟨c', ?_, k1, ?_, Nat.le_refl _, .inr ⟨rfl, rfl, rfl⟩⟩
        · unfold Instr.sliceBounds
          cases hi with
          | none =>
            cases hh1
            simp only [Sem.run_bind, Sem.run_pure, Result.andThen_ok]
            cases lo with
            | none => cases hl1; rfl
            | some z =>
              simp only [Sem.run_bind, (sliceBound_run (P := P) hl1 (Nat.le_refl _) _ w).1, Result.andThen_ok]
              rfl
          | some x =>
            have hb := sliceBound_run (P := P) (y' := c') hh1 (by cases isS <;> simp <;> omega) (if isS then .sliceAcap else .sliceAlen) w
            simp only [Sem.run_bind, Sem.run_pure, Result.andThen_ok, hb.1]
            cases lo with
            | none => cases hl1; rfl
            | some z =>
              simp only [Sem.run_bind, (sliceBound_run (P := P) hl1 (Nat.le_refl _) _ w).1, Result.andThen_ok]
              rfl
        · cases hi with
          | none => cases hh1; exact hn
          | some x =>
            have hb := (sliceBound_run (P := P) (y' := c') hh1 (by cases isS <;> simp <;> omega) .sliceB w).2
            cases isS <;> simp at hb <;> omega
  | some y =>
    simp only at h
    cases hi with
    | none => cases h
    | some x =>
      simp only at h
      split at h
      · cases h
      · rename_i m1 hm1
        split at h
        · cases h
        · rename_i h1 hh1
          split at h
          · cases h
          · rename_i l1 hl1
            cases h
            have k1 := low hl1
            have hm := sliceBound_run (P := P) (y' := c') hm1 hcc (if isS then .slice3Acap else .slice3Alen) w
            have hb := sliceBound_run (P := P) (y' := m) hh1 (Nat.le_refl _) .slice3B w
            refine ⟨m, ?_, k1, hb.2, hm.2, .inl ⟨rfl, by simp⟩⟩
            unfold Instr.sliceBounds
            simp only [Sem.run_bind, Result.andThen_ok, hm.1, hb.1]
            cases lo with
            | none => cases hl1; rfl
            | some z =>
              simp only [Sem.run_bind, (sliceBound_run (P := P) hl1 (Nat.le_refl _) _ w).1, Result.andThen_ok]
              rfl

theorem lSliceS_run {s : ByteArray} {lo hi : Option Value} {v : Value} (h : lSliceS s.data.toList lo hi = some v) (t : TypeId) (hd : P.underlying t = some .string) (w : World) :
    (Instr.sliceAt t (.string s) lo hi none).run P w = .ok v w ∧ constOK v = true := by
  unfold lSliceS at h
  split at h
  · rename_i l hh m hs
    cases h
    refine ⟨?_, rfl⟩
    have hsz : s.data.toList.length = s.size := rfl
    have hv : ∀ a b, Value.string (s.extract a b) = .string ⟨⟨AM.take (Nat.sub b a) (AM.drop a s.data.toList)⟩⟩ := by
      intro a b
      congr 1
      apply bytes_ext
      rw [Lib.extract_data, take_eq, drop_eq]
      rfl
    simp only [Instr.sliceAt, Sem.run_bind, run_underlying hd, Result.andThen_ok]
    show (Instr.slice t (.string s) lo hi none).run P w = _
    rw [len_eq, hsz] at hs
    obtain ⟨m', k1, _⟩ := sliceBounds_run (P := P) hs (Nat.le_refl _) (Nat.le_refl _) w
    simp only [Instr.slice, Sem.run_bind, run_underlying hd, Result.andThen_ok]
    rw [← hv]
    simp [k1]
  · cases h

theorem lSliceL_run {ρ : Rho} {S2 : AS} {w : World} (hR : Rel ρ S2 w) (hst : Stat S S2) {a : Option Addr} {n c : Nat} {x' : Value} (hx : VRel ρ (.slice a n c) x') {lo hi mx : Option Value} {v : Value} {t e : TypeId} (hd : P.underlying t = some (.slice e)) {size : Nat}
    (hsz : (sizeOf e).run P w = .ok size w) (h : lSliceL S size a n c lo hi mx = some v) : ∃ cv, (Instr.sliceAt t x' lo hi mx).run P w = .ok cv w ∧ VRel ρ v cv := by
  unfold lSliceL at h
  split at h
  · cases h
  · rename_i l hh m hs
    have go : ∀ (a' : Option Addr) (c' m' : Nat), (Instr.sliceBounds true n c' lo hi mx).run P w = .ok (l, hh, m') w →
        (Instr.sliceAt t (.slice a' n c') lo hi mx).run P w = .ok (.slice (if m' = l then a' else a'.map (·.add (l * size))) (hh - l) (m' - l)) w := by
      intro a' c' m' hb
      simp only [Instr.sliceAt, Sem.run_bind, run_underlying hd, Result.andThen_ok]
      show (Instr.slice t (.slice a' n c') lo hi mx).run P w = _
      simp only [Instr.slice, Sem.run_bind, run_underlying hd, Result.andThen_ok, hb, hsz]
      rfl
    cases hx with
    | same hc =>
      unfold constOK at hc
      split at hc <;> first | (rename_i heq; cases heq; done) | (cases hc; done) | skip
      rename_i heq
      cases heq
      simp only at h
      cases h
      obtain ⟨m', k1, k2, k3, k4, k5⟩ := sliceBounds_run (P := P) hs (Nat.le_refl _) (Nat.le_refl _) w
      have hm' : m' = 0 := by rcases k5 with ⟨q, _⟩ | ⟨q, _⟩ <;> omega
      obtain ⟨rfl, rfl, rfl⟩ : l = 0 ∧ hh = 0 ∧ m = 0 := ⟨by omega, by omega, by omega⟩
      subst hm'
      exact ⟨_, go _ _ _ k1, .same rfl⟩
    | @slice b oo _ _ c' r hb hn he hc hcap =>
      simp only at h
      split at h
      · rename_i B hB
        split at h
        · rename_i hez
          have hez := Nat.eq_of_beq_eq_true hez
          cases h
          obtain ⟨e1, e2, e3⟩ := statBlk_rel hR hst hb hB
          have hrs : r.esz = size := by omega
          have hcc : c ≤ c' := by rcases hcap with q | ⟨_, _, q, _⟩ <;> omega
          obtain ⟨m', k1, k2, k3, k4, k5⟩ := sliceBounds_run (P := P) hs hcc hn w
          refine ⟨_, go _ _ _ k1, ?_⟩
          have hmm : m ≤ m' := by rcases k5 with ⟨q, _⟩ | ⟨q, q2, _⟩ <;> omega
          by_cases hml : m' = l
          · rw [if_pos hml]
            have z1 : Nat.sub hh l = 0 := by show hh - l = 0; omega
            have z2 : Nat.sub m l = 0 := by show m - l = 0; omega
            rw [z1, z2, show hh - l = 0 from by omega, show m' - l = 0 from by omega]
            exact .slice0 hb he
          · rw [if_neg hml]
            have hadd := add_at r oo (l * size)
            simp only [RI.at] at hadd
            simp only [Option.map_some, hadd]
            have m1 : m * size = l * size + (m - l) * size := by rw [← Nat.add_mul]; congr 1; omega
            have m2 : m' * size = l * size + (m' - l) * size := by rw [← Nat.add_mul]; congr 1; omega
            have m3 : m * size ≤ c * size := Nat.mul_le_mul_right _ k4
            rw [hrs] at hc hcap
            refine .slice (r := r) hb (by show hh - l ≤ m - l; omega) he (by rw [hrs]; show oo + l * size + (m - l) * size ≤ r.ext; omega) ?_
            rw [hrs]
            rcases k5 with ⟨q, _⟩ | ⟨q, q2, _⟩
            · exact .inl (by show m' - l = m - l; omega)
            · rcases hcap with hcap | ⟨p1, p2, p3, p4⟩
              · exact .inl (by show m' - l = m - l; omega)
              · subst q q2
                exact .inr ⟨p1, by show oo + l * size + (m - l) * size = r.ext; omega, by show m - l ≤ m' - l; omega, by show r.base + (oo + l * size) + (m' - l) * size ≤ r.csz; omega⟩
        · cases h
      · cases h
    | @slice0 b oo a' r hb he =>
      simp only at h
      split at h
      · split at h
        · cases h
          obtain ⟨m', k1, k2, k3, k4, k5⟩ := sliceBounds_run (P := P) hs (Nat.le_refl _) (Nat.le_refl _) w
          have hm' : m' = 0 := by rcases k5 with ⟨q, _⟩ | ⟨q, _⟩ <;> omega
          obtain ⟨rfl, rfl, rfl⟩ : l = 0 ∧ hh = 0 ∧ m = 0 := ⟨by omega, by omega, by omega⟩
          subst hm'
          exact ⟨_, go _ _ _ k1, .slice0 hb he⟩
        · cases h
      · cases h

theorem lSliceA_run {ρ : Rho} {S2 : AS} {w : World} (hR : Rel ρ S2 w) (hst : Stat S S2) {b oo n : Nat} {r : RI} (hb : ρ b = some r) {lo hi mx : Option Value} {v : Value} {t e : TypeId} (hd : P.underlying t = some (.array n e)) {size : Nat}
    (hsz : (sizeOf e).run P w = .ok size w) (h : lSliceA S n size b oo lo hi mx = some v) : ∃ cv, (Instr.sliceAt t (.pointer (some (r.at oo))) lo hi mx).run P w = .ok cv w ∧ VRel ρ v cv := by
  unfold lSliceA at h
  split at h
  · rename_i l hh m B hs hB
    split at h
    · rename_i g1 g2 g3 g4
      have g1 := Nat.eq_of_beq_eq_true g1
      have g2 := Nat.le_of_ble_eq_true g2
      have g4 := Nat.le_of_ble_eq_true g4
      simp only [Nat.add_eq, Nat.mul_eq] at g2
      cases h
      obtain ⟨e1, e2, e3⟩ := statBlk_rel hR hst hb hB
      obtain ⟨m', k1, k2, k3, k4, k5⟩ := sliceBounds_run (P := P) hs (Nat.le_refl _) (Nat.le_refl _) w
      have hm' : m' = m := by rcases k5 with ⟨q, _⟩ | ⟨q, q2, _⟩ <;> omega
      subst hm'
      refine ⟨.slice (some (if m' = l then r.at oo else (r.at oo).add (l * size))) (hh - l) (m' - l), ?_, ?_⟩
      · simp only [Instr.sliceAt, Sem.run_bind, run_underlying hd, Result.andThen_ok, Instr.sureAddr, Sem.run_pure, k1, hsz]
      · have hrs : r.esz = size := by omega
        by_cases hml : m' = l
        · rw [if_pos hml]
          have z1 : Nat.sub hh l = 0 := by show hh - l = 0; omega
          have z2 : Nat.sub m' l = 0 := by show m' - l = 0; omega
          rw [z1, z2, show hh - l = 0 from by omega, show m' - l = 0 from by omega]
          exact .slice0 hb (by omega)
        · rw [if_neg hml, add_at]
          have m1 : m' * size = l * size + (m' - l) * size := by rw [← Nat.add_mul]; congr 1; omega
          have m3 : m' * size ≤ n * size := Nat.mul_le_mul_right _ k4
          exact .slice (r := r) hb (by show hh - l ≤ m' - l; omega) (by omega) (by rw [hrs]; show oo + l * size + (m' - l) * size ≤ r.ext; omega) (.inl rfl)
    · cases h
  · cases h

def limOK (x : Option Value) : Prop := x = none ∨ ∃ k n, x = some (.int k n)

theorem sliceLim_ok {x : Option Value} {d y l : Nat} (h : sliceLim x d y = some l) : limOK x := by
  unfold sliceLim at h
  split at h
  · exact .inl rfl
  · exact .inr ⟨_, _, rfl⟩
  · cases h

theorem sliceL_ok {n c : Nat} {isS : Bool} {lo hi mx : Option Value} {q : Nat × Nat × Nat} (h : sliceL n c isS lo hi mx = some q) : limOK lo ∧ limOK hi ∧ limOK mx := by
  unfold sliceL at h
  split at h
  · split at h
    · cases h
    · split at h
      · cases h
      · rename_i hm
        split at h
        · cases h
        · rename_i hh
          split at h
          · cases h
          · rename_i hl
            exact ⟨sliceLim_ok hl, sliceLim_ok hh, sliceLim_ok hm⟩
  · split at h
    · cases h
    · rename_i hh
      split at h
      · cases h
      · rename_i hl
        exact ⟨sliceLim_ok hl, sliceLim_ok hh, .inl rfl⟩

theorem evOpt_map {ρ : Rho} {E : Operand → Value} {x : Option Operand} {y : Option Value} (h : evOpt tm x = some y) (hop : ∀ z, x = some z → ∀ v, ev tm z = some v → VRel ρ v (E z)) (hl : limOK y) : x.map E = y := by
  unfold evOpt at h
  split at h
  · cases h; rfl
  · rename_i z
    split at h
    · rename_i u hu
      cases h
      rcases hl with hl | ⟨k, n, hl⟩
      · cases hl
      · cases hl
        have := (hop z rfl _ hu).int_inv
        simp [this]
    · cases h

variable (hT : ∀ t ti, T.get t = some ti → TypeOK P t ti)
include hT

theorem lSlice_ok {t : Nat} {x : Operand} {lo hi mx : Option Operand} (ho : o.op = .slice t x lo hi mx) (h : lSlice T tm S t x lo hi mx = some (v, S')) : LightOK P T tm o S S' v := by
  unfold lSlice at h
  split at h
  · rename_i xv lov hiv mxv ti hx hlo hhi hmx hti
    have hto := hT t ti hti
    have mem : ∀ (l : Option Operand), (l = lo ∨ l = hi ∨ l = mx) → ∀ z, l = some z → z ∈ o.op.operands := by
      intro l hl z hz
      rw [ho]
      simp only [Op.operands, Array.mem_append]
      subst hz
      rcases hl with hl | hl | hl <;> subst hl <;> simp
    split at h
    · rename_i s hu
      split at h
      · unfold retV at h
        cases hr : lSliceS s.data.toList lov hiv with
        | none => rw [hr] at h; cases h
        | some u =>
          rw [hr] at h
          cases h
          refine .inl ⟨rfl, fun ρ S2 w E hR hc hop => ?_⟩
          obtain ⟨cx, hcx, hp⟩ := hop.at (x := x) (by rw [ho]; simp [Op.operands]) hx
          obtain rfl := hp.string_inv
          obtain ⟨k1, k2⟩ := lSliceS_run (P := P) hr t (hto.str hu) w
          have hl : limOK lov ∧ limOK hiv := by
            unfold lSliceS at hr
            split at hr
            · rename_i q; exact ⟨(sliceL_ok q).1, (sliceL_ok q).2.1⟩
            · cases hr
          have e1 := evOpt_map (E := E) hlo (fun z hz u hu => hop z (mem lo (.inl rfl) z hz) u hu) hl.1
          have e2 := evOpt_map (E := E) hhi (fun z hz u hu => hop z (mem hi (.inr (.inl rfl)) z hz) u hu) hl.2
          have e3 := evOpt_map (E := E) hmx (fun z hz u hu => hop z (mem mx (.inr (.inr rfl)) z hz) u hu) (.inl rfl)
          refine ⟨v, ?_, .same k2⟩
          simp only [execOp, ho, hcx, e1, e2, e3, Sem.run_bind, k1]
          rfl
      · cases h
    · rename_i e a n c hu
      split at h
      · rename_i te hte
        have hteo := hT e te hte
        unfold retV at h
        cases hr : lSliceL S te.size a n c lov hiv mxv with
        | none => rw [hr] at h; cases h
        | some u =>
          rw [hr] at h
          cases h
          refine .inl ⟨rfl, fun ρ S2 w E hR hc hop => ?_⟩
          obtain ⟨cx, hcx, hp⟩ := hop.at (x := x) (by rw [ho]; simp [Op.operands]) hx
          obtain ⟨cv, k1, k2⟩ := lSliceL_run (P := P) hR hc.stat hp (hto.slice hu) (hteo.run_size w) hr
          have hl : limOK lov ∧ limOK hiv ∧ limOK mxv := by
            unfold lSliceL at hr
            split at hr
            · cases hr
            · rename_i q; exact sliceL_ok q
          have e1 := evOpt_map (E := E) hlo (fun z hz u hu => hop z (mem lo (.inl rfl) z hz) u hu) hl.1
          have e2 := evOpt_map (E := E) hhi (fun z hz u hu => hop z (mem hi (.inr (.inl rfl)) z hz) u hu) hl.2.1
          have e3 := evOpt_map (E := E) hmx (fun z hz u hu => hop z (mem mx (.inr (.inr rfl)) z hz) u hu) hl.2.2
          refine ⟨cv, ?_, k2⟩
          simp only [execOp, ho, hcx, e1, e2, e3, Sem.run_bind, k1]
          rfl
      · cases h
    · rename_i n e b oo hu
      split at h
      · rename_i te hte
        have hteo := hT e te hte
        unfold retV at h
        cases hr : lSliceA S n te.size b oo lov hiv mxv with
        | none => rw [hr] at h; cases h
        | some u =>
          rw [hr] at h
          cases h
          refine .inl ⟨rfl, fun ρ S2 w E hR hc hop => ?_⟩
          obtain ⟨cx, hcx, hp⟩ := hop.at (x := x) (by rw [ho]; simp [Op.operands]) hx
          cases hp with
          | same hc => simp [constOK] at hc
          | @ptr _ _ r hb =>
            obtain ⟨cv, k1, k2⟩ := lSliceA_run (P := P) hR hc.stat hb (hto.arr hu) (hteo.run_size w) hr
            have hl : limOK lov ∧ limOK hiv ∧ limOK mxv := by
              unfold lSliceA at hr
              split at hr
              · rename_i q _; exact sliceL_ok q
              · cases hr
            have e1 := evOpt_map (E := E) hlo (fun z hz u hu => hop z (mem lo (.inl rfl) z hz) u hu) hl.1
            have e2 := evOpt_map (E := E) hhi (fun z hz u hu => hop z (mem hi (.inr (.inl rfl)) z hz) u hu) hl.2.1
            have e3 := evOpt_map (E := E) hmx (fun z hz u hu => hop z (mem mx (.inr (.inr rfl)) z hz) u hu) hl.2.2
            refine ⟨cv, ?_, k2⟩
            simp only [RI.at] at k1
            simp only [execOp, ho, hcx, e1, e2, e3, Sem.run_bind, k1]
            rfl
      · cases h
    · cases h
  · cases h
end
end Go.AM
