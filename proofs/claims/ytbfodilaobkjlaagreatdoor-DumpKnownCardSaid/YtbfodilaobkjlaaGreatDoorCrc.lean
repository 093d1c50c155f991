/- The sum of bytes: what its code comes to in the abstract machine. -/
import Derived.Test.YtbfodilaobkjlaaGreatDoorTab
import Derived.Test.YtbfodilaobkjlaaGreatDoorAm39
import Derived.KernelRfl
namespace Go.Proofs.YtbfodilaobkjlaaGreatDoor
open Go Go.AM Go.Proofs

variable {X : Exts} {pl : Nat → Option Plan}

/-- The loop over the bits. -/
theorem more_bits : ∀ (n i : Nat) (a : AAct) (S : AS) (r : Nat), i + n = 8 → r < 4294967296 → a.tmps.get 5 = some (.int .u32 (.ofNat r)) → a.tmps.get 20 = some (.int .i64 (.ofNat i)) →
    ∃ a', Runs tt X ft pl (cAt [1, 1, 0, 1, 0, 0, 1, 1, 0, 0, 1, 1, 1, 0] (bodyOf Tryz.f82)) a S (.exit 2) a' S ∧ a'.defers = a.defers ∧ a'.tmps.get 5 = some (.int .u32 (.ofNat (crcBits n r))) ∧
      a'.tmps.get 10 = a.tmps.get 10 ∧ a'.tmps.get 11 = a.tmps.get 11 ∧ a'.tmps.get 12 = a.tmps.get 12 := by
  intro n
  induction n with
  | zero =>
    intro i a S r hi hr h5 h20
    obtain rfl : i = 8 := by omega
    refine ⟨_, Runs.leave (Runs.seq (Runs.region (RegRuns.light rfl rfl (l_binI h20 ev_int b_lss) RegRuns.nil)) (Runs.seqOut (Runs.condF (by simp [putTmp_some, ev_tmp, Tr.get_set_if]; decide) Runs.exit) (by simp))) (by simp), rfl, ?_, ?_, ?_, ?_⟩
    all_goals simp [putTmp_some, Tr.get_set_if, h5]
    rfl
  | succ n ih =>
    intro i a S r hi hr h5 h20
    have hi2 : i < 8 := by omega
    have hadd : bopII .add .i64 (.ofNat i) .i64 (.ofNat 1) = some (.int .i64 (.ofNat (i + 1))) := b_add (by omega)
    have hlss : bopII .lss .i64 (.ofNat i) .i64 (.ofNat 8) = some (.bool true) := by rw [b_lss, ble_lt hi2]
    have step : ∃ a1, Runs tt X ft pl (cAt [0] (cAt [1, 1, 0, 1, 0, 0, 1, 1, 0, 0, 1, 1, 1, 0] (bodyOf Tryz.f82))) a S .normal a1 S ∧ a1.defers = a.defers ∧ a1.tmps.get 5 = some (.int .u32 (.ofNat (crcStep r))) ∧
        a1.tmps.get 20 = some (.int .i64 (.ofNat (i + 1))) ∧ a1.tmps.get 10 = a.tmps.get 10 ∧ a1.tmps.get 11 = a.tmps.get 11 ∧ a1.tmps.get 12 = a.tmps.get 12 := by
      rcases land_one r with hl | hl
      · have heq : bopII .eql .u32 (.ofNat (Nat.land r 1)) .u32 (.ofNat 1) = some (.bool false) := by rw [hl]; rfl
        refine ⟨_, Runs.seq (Runs.region (RegRuns.light rfl rfl (l_binI h20 ev_int hlss) RegRuns.nil)) (Runs.seq (Runs.condT ?_ Runs.skip) (Runs.seq (Runs.block_normal (Runs.seq
          (Runs.region (RegRuns.light rfl rfl (l_move (v := .int .u32 (.ofNat r)) ?_) (RegRuns.light rfl rfl (l_binI ?_ ev_int (b_and hr (by decide))) (RegRuns.light rfl rfl (l_binI ?_ ev_int heq) RegRuns.nil))))
          (Runs.condF ?_ (Runs.region (RegRuns.light rfl rfl (l_move (v := .int .u32 (.ofNat r)) ?_) (RegRuns.light rfl rfl (l_binI ?_ ev_int (b_shr1 (a := r))) (RegRuns.light rfl rfl (l_assign (v := .int .u32 (.ofNat (Nat.shiftRight r 1))) ?_) RegRuns.nil)))))))
          (Runs.region (RegRuns.light rfl rfl (l_binI ?_ ev_int hadd) (RegRuns.light rfl rfl (l_move (v := .int .i64 (.ofNat (i + 1))) ?_) RegRuns.nil))))), rfl, ?_, ?_, ?_, ?_, ?_⟩
        all_goals simp [putTmp_some, ev_tmp, Tr.get_set_if, h5, h20, crcStep_zero hl]
      · have heq : bopII .eql .u32 (.ofNat (Nat.land r 1)) .u32 (.ofNat 1) = some (.bool true) := by rw [hl]; rfl
        refine ⟨_, Runs.seq (Runs.region (RegRuns.light rfl rfl (l_binI h20 ev_int hlss) RegRuns.nil)) (Runs.seq (Runs.condT ?_ Runs.skip) (Runs.seq (Runs.block_normal (Runs.seq
          (Runs.region (RegRuns.light rfl rfl (l_move (v := .int .u32 (.ofNat r)) ?_) (RegRuns.light rfl rfl (l_binI ?_ ev_int (b_and hr (by decide))) (RegRuns.light rfl rfl (l_binI ?_ ev_int heq) RegRuns.nil))))
          (Runs.condT ?_ (Runs.region (RegRuns.light rfl rfl (l_move (v := .int .u32 (.ofNat r)) ?_) (RegRuns.light rfl rfl (l_binI ?_ ev_int (b_shr1 (a := r))) (RegRuns.light rfl rfl (l_binI ?_ ev_int (b_xor (shr_lt hr) (by decide))) (RegRuns.light rfl rfl (l_assign (v := .int .u32 (.ofNat (Nat.xor (Nat.shiftRight r 1) 3988292384))) ?_) RegRuns.nil))))))))
          (Runs.region (RegRuns.light rfl rfl (l_binI ?_ ev_int hadd) (RegRuns.light rfl rfl (l_move (v := .int .i64 (.ofNat (i + 1))) ?_) RegRuns.nil))))), rfl, ?_, ?_, ?_, ?_, ?_⟩
        all_goals simp [putTmp_some, ev_tmp, Tr.get_set_if, h5, h20, crcStep_one hl]
    obtain ⟨a1, k, d1, k5, k20, k10, k11, k12⟩ := step
    obtain ⟨a', h, g1, g2, g3, g4, g5⟩ := ih (i + 1) a1 S (crcStep r) (by omega) (crcStep_lt hr) k5 k20
    exact ⟨a', Runs.again k h, g1.trans d1, by rw [crcBits_succ]; exact g2, g3.trans k10, g4.trans k11, g5.trans k12⟩

/-- The loop over the bytes. -/
theorem more_bytes : ∀ (cs : List Value) (i : Nat) (a : AAct) (S : AS) (r r' : Nat) (ad : Option Addr) (n c : Nat), i + cs.length = n → n ≤ 9223372036854775806 → r < 4294967296 → crcCells cs r = some r' →
    (∀ j v, cs[j]? = some v → ∃ b o, ad = some ⟨b, o, none⟩ ∧ loadN S ⟨b, o + (i + j) * 1, none⟩ 1 = some [v]) →
    a.tmps.get 5 = some (.int .u32 (.ofNat r)) → a.tmps.get 10 = some (.slice ad n c) → a.tmps.get 11 = some (.int .i64 (.ofNat n)) → a.tmps.get 12 = some (.int .i64 (.ofNat i)) →
    ∃ a', Runs tt X ft pl (cAt [1, 1, 0, 1, 0] (bodyOf Tryz.f82)) a S (.exit 0) a' S ∧ a'.defers = a.defers ∧ a'.tmps.get 5 = some (.int .u32 (.ofNat r')) ∧ r' < 4294967296 := by
  intro cs
  induction cs with
  | nil =>
    intro i a S r r' ad n c hi hn hr hc _ h5 h10 h11 h12
    cases hc
    have hlss : bopII .lss .i64 (.ofNat i) .i64 (.ofNat n) = some (.bool false) := by
      rw [b_lss]
      cases hb : Nat.ble (Nat.succ i) n with
      | false => rfl
      | true => have := Nat.le_of_ble_eq_true hb; simp at hi; omega
    refine ⟨_, Runs.leave (Runs.seq (Runs.region (RegRuns.light rfl rfl (l_binI h12 h11 hlss) RegRuns.nil)) (Runs.seqOut (Runs.condF (by simp [putTmp_some, ev_tmp, Tr.get_set_if]) Runs.exit) (by simp))) (by simp), rfl, ?_, hr⟩
    simp [putTmp_some, Tr.get_set_if, h5]
  | cons v cs ih =>
    intro i a S r r' ad n c hi hn hr hc hl h5 h10 h11 h12
    obtain ⟨m, rfl, hm, hc2⟩ := crcCells_cons hc
    have hi2 : i < n := by simp at hi; omega
    have hadd : bopII .add .i64 (.ofNat i) .i64 (.ofNat 1) = some (.int .i64 (.ofNat (i + 1))) := b_add (by omega)
    have hlss : bopII .lss .i64 (.ofNat i) .i64 (.ofNat n) = some (.bool true) := by rw [b_lss, ble_lt hi2]
    obtain ⟨b, o, rfl, hld⟩ := hl 0 _ rfl
    have hx : Nat.xor r m < 4294967296 := xor_lt hr (by omega)
    have hw : wrapF .u32 (m : Int) = (m : Int) := w_u32 (by omega)
    have pre : ∃ a1, (∀ y e a2, Runs tt X ft pl y a1 S e a2 S → Runs tt X ft pl (.seq (cAt [1, 1, 0, 1, 0, 0, 1, 1, 0, 0, 0] (bodyOf Tryz.f82)) (.seq (cAt [1, 1, 0, 1, 0, 0, 1, 1, 0, 0, 1, 0] (bodyOf Tryz.f82))
          (.seq (cAt [1, 1, 0, 1, 0, 0, 1, 1, 0, 0, 1, 1, 0] (bodyOf Tryz.f82)) y))) ⟨putTmp a.tmps (some 13) (.bool true), a.defers⟩ S e a2 S) ∧ a1.defers = a.defers ∧
        a1.tmps.get 5 = some (.int .u32 (.ofNat (Nat.xor r m))) ∧ a1.tmps.get 20 = some (.int .i64 (.ofNat 0)) ∧ a1.tmps.get 10 = a.tmps.get 10 ∧ a1.tmps.get 11 = a.tmps.get 11 ∧ a1.tmps.get 12 = a.tmps.get 12 := by
      refine ⟨_, fun y e a2 h => Runs.seq (Runs.region (RegRuns.light rfl rfl (l_idxS (b := b) (o := o) (i := i) (n := n) (c := c) (k := .i64) ?_ ?_ rfl rfl rfl hi2) (RegRuns.light rfl rfl (l_load1 (v := .int .u8 (.ofNat m)) (ad := ⟨b, o + i * 1, none⟩) ?_ rfl rfl hld)
          (RegRuns.light rfl rfl (l_assign (v := .int .u8 (.ofNat m)) ?_) RegRuns.nil))))
        (Runs.seq (Runs.region (RegRuns.light rfl rfl (l_move (v := .int .u32 (.ofNat r)) ?_) (RegRuns.light rfl rfl (l_move (v := .int .u8 (.ofNat m)) ?_) (RegRuns.light rfl rfl (l_convI (j := .u8) (n := .ofNat m) ?_ rfl rfl rfl)
          (RegRuns.light rfl rfl (l_binI ?_ ?_ (b_xor hr (show m < 4294967296 by omega))) (RegRuns.light rfl rfl (l_assign (v := .int .u32 (.ofNat (Nat.xor r m))) ?_) RegRuns.nil))))))
        (Runs.seq (Runs.region (RegRuns.light rfl rfl (l_move (v := .int .i64 (.ofNat 0)) ?_) RegRuns.nil)) h)), rfl, ?_, ?_, ?_, ?_, ?_⟩
      all_goals simp [putTmp_some, ev_tmp, ev_int, Tr.get_set_if, h5, h10, h11, h12, hw]
    obtain ⟨a1, k, d1, k5, k20, k10, k11, k12⟩ := pre
    obtain ⟨a2, h2, d2, g5, g10, g11, g12⟩ := more_bits 8 0 a1 S _ rfl hx k5 k20
    have post : ∃ a3, Runs tt X ft pl (cAt [1, 1, 0, 1, 0, 0] (bodyOf Tryz.f82)) a S .normal a3 S ∧ a3.defers = a.defers ∧ a3.tmps.get 5 = a2.tmps.get 5 ∧ a3.tmps.get 10 = a2.tmps.get 10 ∧ a3.tmps.get 11 = a2.tmps.get 11 ∧
        a3.tmps.get 12 = some (.int .i64 (.ofNat (i + 1))) := by
      refine ⟨_, Runs.seq (Runs.region (RegRuns.light rfl rfl (l_binI h12 h11 hlss) RegRuns.nil)) (Runs.seq (Runs.condT (by simp [putTmp_some, ev_tmp, Tr.get_set_if]) Runs.skip)
        (Runs.seq (Runs.block_normal (k _ _ _ (Runs.block_exit h2))) (Runs.region (RegRuns.light rfl rfl (l_binI (m := .ofNat i) (j := .i64) ?_ ev_int hadd) (RegRuns.light rfl rfl (l_move (v := .int .i64 (.ofNat (i + 1))) ?_) RegRuns.nil))))), d2.trans d1, ?_, ?_, ?_, ?_⟩
      all_goals simp [putTmp_some, ev_tmp, Tr.get_set_if, g12, k12, h12]
    obtain ⟨a3, h3, d3, j5, j10, j11, j12⟩ := post
    obtain ⟨a4, h4, d4, l5, l6⟩ := ih (i + 1) a3 S _ r' _ n c (by simp at hi; omega) hn (crcBits_lt 8 hx) hc2 (fun j v hj => by
        have := hl (j + 1) v (by simpa using hj)
        rwa [show i + (j + 1) = i + 1 + j from by omega] at this) (j5.trans g5) (by rw [j10, g10, k10, h10]) (by rw [j11, g11, k11, h11]) j12
    exact ⟨a4, Runs.again h3 h4, d4.trans d3, l5, l6⟩

/-- The sum of bytes on from a sum. -/
theorem more_runs {args : List Value} {S S' : AS} {v : Value} (h : extMore args S = some (v, S')) : CallRuns tt X ft 82 args S (.ret v S') := by
  unfold extMore at h
  split at h
  · rename_i s ad n c
    split at h
    · rename_i cs hs hn hcs
      have hs := Nat.le_of_ble_eq_true hs
      have hn := Nat.le_of_ble_eq_true hn
      cases hc : crcCells cs (Nat.xor s 4294967295) with
      | none => rw [hc] at h; cases h
      | some r' =>
        rw [hc] at h
        cases h
        have hx0 : Nat.xor s 4294967295 < 4294967296 := xor_lt hs (by decide)
        have pre : ∃ a1, (∀ y z e a2 e2 a3, Runs tt X ft (fun _ => none) y a1 S e a2 S → (e = .normal) → Runs tt X ft (fun _ => none) z a2 S e2 a3 S →
              Runs tt X ft (fun _ => none) (.seq (cAt [0] (bodyOf Tryz.f82)) (.seq (cAt [1, 0] (bodyOf Tryz.f82)) (.seq (.seq (cAt [1, 1, 0, 0] (bodyOf Tryz.f82)) y) z))) ⟨argTmps [.int .u32 (.ofNat s), .slice ad n c] 0 .leaf, []⟩ S e2 a3 S) ∧
            a1.defers = [] ∧ a1.tmps.get 5 = some (.int .u32 (.ofNat (Nat.xor s 4294967295))) ∧ a1.tmps.get 10 = some (.slice ad n c) ∧ a1.tmps.get 11 = some (.int .i64 (.ofNat n)) ∧ a1.tmps.get 12 = some (.int .i64 (.ofNat 0)) := by
          refine ⟨_, fun y z e a2 e2 a3 hy he hz => Runs.seq (Runs.region (RegRuns.light rfl rfl (l_assign ev_int) RegRuns.nil))
            (Runs.seq (Runs.region (RegRuns.light rfl rfl (l_move (v := .int .u32 (.ofNat s)) ?_) (RegRuns.light rfl rfl (l_binI ?_ ev_int (b_xor hs (show 4294967295 < 4294967296 by decide))) (RegRuns.light rfl rfl (l_assign (v := .int .u32 (.ofNat (Nat.xor s 4294967295))) ?_) RegRuns.nil))))
            (Runs.seq (Runs.seq (Runs.region (RegRuns.light rfl rfl (l_move (v := .slice ad n c) ?_) (RegRuns.light rfl rfl (l_lenS (ad := ad) (n := n) (c := c) ?_ rfl rfl) (RegRuns.light rfl rfl (l_move (v := .int .i64 (.ofNat 0)) ?_) RegRuns.nil)))) (he ▸ hy)) hz)), rfl, ?_, ?_, ?_, ?_⟩
          all_goals first | rfl | simp [putTmp_some, ev_tmp, ev_int, Tr.get_set_if]
        obtain ⟨a1, k, d1, k5, k10, k11, k12⟩ := pre
        have hcl : ∃ a2, Runs tt X ft (fun _ => none) (.block 0 (cAt [1, 1, 0, 1, 0] (bodyOf Tryz.f82))) a1 S .normal a2 S ∧ a2.defers = [] ∧ a2.tmps.get 5 = some (.int .u32 (.ofNat r')) ∧ r' < 4294967296 := by
          obtain ⟨hlen, hat⟩ := src_at hcs
          obtain ⟨a2, h2, d2, g5, g6⟩ := more_bytes cs 0 a1 S _ r' ad n c (by omega) hn hx0 hc (fun j v hj => by
            obtain ⟨b, o, h1, h2⟩ := hat j v hj
            exact ⟨b, o, h1, by rw [Nat.zero_add]; exact h2⟩) k5 k10 k11 k12
          exact ⟨a2, Runs.block_exit h2, d2.trans d1, g5, g6⟩
        obtain ⟨a2, h2, d2, g5, g6⟩ := hcl
        have post : ∃ a3, Runs tt X ft (fun _ => none) (cAt [1, 1, 1] (bodyOf Tryz.f82)) a2 S .ret a3 S ∧ a3.defers = [] ∧ a3.tmps.get 4 = some (.int .u32 (.ofNat (Nat.xor r' 4294967295))) := by
          refine ⟨_, Runs.seq (Runs.region (RegRuns.light rfl rfl (l_move (v := .int .u32 (.ofNat r')) ?_) (RegRuns.light rfl rfl (l_binI ?_ ev_int (b_xor g6 (show 4294967295 < 4294967296 by decide)))
            (RegRuns.light rfl rfl (l_assign (v := .int .u32 (.ofNat (Nat.xor r' 4294967295))) ?_) RegRuns.nil)))) Runs.ret, d2, ?_⟩
          all_goals simp [putTmp_some, ev_tmp, Tr.get_set_if, g5]
        obtain ⟨a3, h3, d3, g4⟩ := post
        refine CallRuns.of (vs := [_]) rfl rfl (k _ _ _ a2 _ a3 h2 rfl h3) (.inr rfl) d3 ?_
        show (match a3.tmps.get 4 with | some v => _ | none => _) = _
        rw [g4]
    · cases h
  · cases h
end Go.Proofs.YtbfodilaobkjlaaGreatDoor
