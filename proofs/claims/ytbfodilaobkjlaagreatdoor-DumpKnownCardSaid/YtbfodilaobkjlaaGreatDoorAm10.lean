/- The abstract machine's operators are the model's. -/
import Derived.Test.YtbfodilaobkjlaaGreatDoorAm9
namespace Go.AM

theorem room_le (k : IntKind) : room k ≤ 2 ^ k.bits := by cases k <;> simp [room, IntKind.bits]
theorem room_pow (k : IntKind) : ∃ q, room k = 2 ^ q := by
  cases k
  · exact ⟨7, rfl⟩
  · exact ⟨15, rfl⟩
  · exact ⟨31, rfl⟩
  · exact ⟨63, rfl⟩
  · exact ⟨8, rfl⟩
  · exact ⟨16, rfl⟩
  · exact ⟨32, rfl⟩
  · exact ⟨64, rfl⟩

theorem toNat_ofInt (n a : Nat) (h : a < 2 ^ n) : (BitVec.ofInt n (Int.ofNat a)).toNat = a := by
  simp only [Int.ofNat_eq_natCast, BitVec.ofInt_natCast, BitVec.toNat_ofNat]
  exact Nat.mod_eq_of_lt h

theorem bitsF_run {op : BinOp} {k : IntKind} {x y : Int} {v : Value} (h : bitsF op k x y = some v) (P : Program) (w : World) : (Op.intBits op k x y).run P w = .ok v w := by
  unfold bitsF at h
  split at h
  · rename_i a b
    split at h
    · rename_i h1 h2
      have h1 : a < room k := Nat.le_of_ble_eq_true h1
      have h2 : b < room k := Nat.le_of_ble_eq_true h2
      have hr := room_le k
      obtain ⟨q, hq⟩ := room_pow k
      have ha := toNat_ofInt k.bits a (by omega)
      have hb := toNat_ofInt k.bits b (by omega)
      split at h
      · cases h
        simp only [Op.intBits, Sem.run_pure, BitVec.toNat_and, ha, hb]
        have := Nat.and_lt_two_pow a (n := q) (by omega : b < 2 ^ q)
        rw [show ((a &&& b : Nat) : Int) = Int.ofNat (a &&& b) from rfl, wrap_nat (by omega)]
        rfl
      · cases h
        simp only [Op.intBits, Sem.run_pure, BitVec.toNat_or, ha, hb]
        have := Nat.or_lt_two_pow (n := q) (by omega : a < 2 ^ q) (by omega : b < 2 ^ q)
        rw [show ((a ||| b : Nat) : Int) = Int.ofNat (a ||| b) from rfl, wrap_nat (by omega)]
        rfl
      · cases h
        simp only [Op.intBits, Sem.run_pure, BitVec.toNat_xor, ha, hb]
        have := Nat.xor_lt_two_pow (n := q) (by omega : a < 2 ^ q) (by omega : b < 2 ^ q)
        rw [show ((a ^^^ b : Nat) : Int) = Int.ofNat (a ^^^ b) from rfl, wrap_nat (by omega)]
        rfl
      · exact pureS_run h P w
    · exact pureS_run h P w
  · exact pureS_run h P w

theorem bopI_run {op : BinOp} {k : IntKind} {a b : Int} {v : Value} (h : bopI op k a b = some v) (hs : op ≠ .shl) (hs2 : op ≠ .shr) (P : Program) (t : TypeId) (w : World) :
    (binOp op t (.int k a) (.int k b)).run P w = .ok v w := by
  unfold bopI at h
  cases op <;> simp only at h <;> first | (exact absurd rfl hs) | (exact absurd rfl hs2) | skip
  case add => cases h; simp [binOp, Op.intArith, wrapF_eq]
  case sub => cases h; simp [binOp, Op.intArith, wrapF_eq]; rfl
  case mul => cases h; simp [binOp, Op.intArith, wrapF_eq]
  case quo =>
    split at h
    · rename_i m n
      cases n with
      | zero => cases h
      | succ n =>
        cases h
        have hne : ¬ ((Int.ofNat (n + 1)) = 0) := by simp only [Int.ofNat_eq_natCast]; omega
        simp only [binOp, ne_eq, not_true_eq_false, if_false, Op.intDiv, if_neg hne, Sem.run_pure, wrapF_eq]
        rfl
    · cases h
  case rem =>
    split at h
    · rename_i m n
      cases n with
      | zero => cases h
      | succ n =>
        cases h
        have hne : ¬ ((Int.ofNat (n + 1)) = 0) := by simp only [Int.ofNat_eq_natCast]; omega
        simp only [binOp, ne_eq, not_true_eq_false, if_false, Op.intDiv, if_neg hne, Sem.run_pure]
        rfl
    · cases h
  case and => simpa [binOp] using bitsF_run h P w
  case or => simpa [binOp] using bitsF_run h P w
  case xor => simpa [binOp] using bitsF_run h P w
  case andNot => simpa [binOp] using bitsF_run h P w
  case eql => cases h; simp [binOp, Op.intCmp, eqI_eq]
  case neq => cases h; simp [binOp, Op.intCmp, eqI_eq]; rfl
  case lss => cases h; simp [binOp, Op.intCmp, ltI_eq]
  case leq => cases h; simp [binOp, Op.intCmp, ltI_eq]; rw [Bool.eq_iff_iff]; simp
  case gtr => cases h; simp [binOp, Op.intCmp, ltI_eq]
  case geq => cases h; simp [binOp, Op.intCmp, ltI_eq]; rw [Bool.eq_iff_iff]; simp
  all_goals (cases h)

theorem fdiv_pow (a n : Nat) : (Int.ofNat a).fdiv (2 ^ n) = Int.ofNat (Nat.shiftRight a n) := by
  have h1 : ((2 : Int) ^ n) = ((2 ^ n : Nat) : Int) := by simp
  have h2 : Nat.shiftRight a n = a / 2 ^ n := Nat.shiftRight_eq_div_pow a n
  rw [h1, h2]
  exact (Int.ofNat_fdiv a (2 ^ n)).symm

theorem shiftF_run {op : BinOp} {k yk : IntKind} {x y : Int} {v : Value} (h : shiftF op k x y = some v) (P : Program) (w : World) : (Op.shift op k x yk y).run P w = .ok v w := by
  unfold shiftF at h
  split at h
  · rename_i a n
    have hn : ¬ (Int.ofNat n < 0) := by simp
    split at h
    · split at h
      · rename_i hle
        have hle := Nat.le_of_ble_eq_true hle
        rw [kbits_eq] at hle
        cases h
        simp only [Op.shift, if_neg hn, Sem.run_pure, wrapF_eq]
        rw [show min (Int.ofNat n).toNat k.bits = n from by simp; omega]
        congr 3
        simp [Nat.shiftLeft_eq]
      · rename_i hle
        have hle : k.bits < n := by
          rcases Nat.lt_or_ge (kbits k) n with h2 | h2
          · rwa [kbits_eq] at h2
          · rw [Nat.ble_eq_true_of_le h2] at hle; cases hle
        cases h
        simp only [Op.shift, if_neg hn, Sem.run_pure, wrapF_eq, kbits_eq]
        rw [show min (Int.ofNat n).toNat k.bits = k.bits from by simp; omega]
        congr 3
        simp [Nat.shiftLeft_eq]
    · split at h
      · rename_i hle
        have hle := Nat.le_of_ble_eq_true hle
        rw [kbits_eq] at hle
        cases h
        simp only [Op.shift, if_neg hn, Sem.run_pure]
        rw [show min (Int.ofNat n).toNat k.bits = n from by simp; omega]
        rw [fdiv_pow]
      · rename_i hle
        have hle : k.bits < n := by
          rcases Nat.lt_or_ge (kbits k) n with h2 | h2
          · rwa [kbits_eq] at h2
          · rw [Nat.ble_eq_true_of_le h2] at hle; cases hle
        cases h
        simp only [Op.shift, if_neg hn, Sem.run_pure, kbits_eq]
        rw [show min (Int.ofNat n).toNat k.bits = k.bits from by simp; omega]
        rw [fdiv_pow]
    · cases h
  · unfold pureS at h
    split at h
    · rename_i u hu
      cases h
      have : Op.shift op k x yk y = Op.shift op k x k y := rfl
      rw [this, hu]; rfl
    · cases h

/-! With the guard -/
theorem eqGuard_run (op : BinOp) (t : TypeId) (x y : Operand) (a b : Value) (h1 : a ≠ .nilIface ∨ b ≠ .nilIface) (h2 : ∀ l, a ≠ .agg l) (P : Program) (w : World) :
    (eqGuard op t x y a b).run P w = .ok () w := by
  have key : ∀ op, op = .eql ∨ op = .neq → (eqGuard op t x y a b).run P w = .ok () w := by
    intro op hop
    cases a with
    | agg l => exact absurd rfl (h2 l)
    | nilIface =>
      cases b with
      | nilIface => simp at h1
      | _ => rcases hop with rfl | rfl <;> rfl
    | _ => rcases hop with rfl | rfl <;> rfl
  cases op <;> first | rfl | (exact key _ (.inl rfl)) | (exact key _ (.inr rfl))

theorem eqGuard_nil (op : BinOp) (t : TypeId) (x y : Operand) (h : (isK x || isK y) = true) (P : Program) (w : World) :
    (eqGuard op t x y .nilIface .nilIface).run P w = .ok () w := by
  have key : ∀ op, op = .eql ∨ op = .neq → (eqGuard op t x y .nilIface .nilIface).run P w = .ok () w := by
    intro op hop
    rcases hop with rfl | rfl <;> (cases x <;> cases y <;> first | rfl | (cases h; done))
  cases op <;> first | rfl | (exact key _ (.inl rfl)) | (exact key _ (.inr rfl))

theorem VRel.int_inv {ρ : Rho} {k : IntKind} {n : Int} {v : Value} (h : VRel ρ (.int k n) v) : v = .int k n := by cases h; rfl
theorem VRel.bool_inv {ρ : Rho} {b : Bool} {v : Value} (h : VRel ρ (.bool b) v) : v = .bool b := by cases h; rfl
theorem VRel.string_inv {ρ : Rho} {s : ByteArray} {v : Value} (h : VRel ρ (.string s) v) : v = .string s := by cases h; rfl
theorem VRel.float_inv {ρ : Rho} {k : FloatKind} {n : Nat} {v : Value} (h : VRel ρ (.float k n) v) : v = .float k n := by cases h; rfl
theorem VRel.int {ρ : Rho} {k : IntKind} {n : Int} : VRel ρ (.int k n) (.int k n) := .same rfl
theorem VRel.bool {ρ : Rho} {b : Bool} : VRel ρ (.bool b) (.bool b) := .same rfl
theorem VRel.string {ρ : Rho} {s : ByteArray} : VRel ρ (.string s) (.string s) := .same rfl
theorem VRel.float {ρ : Rho} {k : FloatKind} {n : Nat} : VRel ρ (.float k n) (.float k n) := .same rfl

theorem bopII_run {op : BinOp} {j k : IntKind} {a b : Int} {v : Value} (h : bopII op j a k b = some v) (P : Program) (t : TypeId) (w : World) :
    (binOp op t (.int j a) (.int k b)).run P w = .ok v w := by
  unfold bopII at h
  split at h
  · simpa [binOp] using shiftF_run h P w
  · simpa [binOp] using shiftF_run h P w
  · rename_i h1 h2
    split at h
    · rename_i hk
      obtain rfl := kEq_true hk
      exact bopI_run h h1 h2 P t w
    · cases h

theorem bopF_run {op : BinOp} {a b : Nat} {v : Value} (h : bopF op a b = some v) (P : Program) (t : TypeId) (w : World) :
    (binOp op t (.float .f64 a) (.float .f64 b)).run P w = .ok v w := by
  unfold bopF at h
  split at h <;> first | (cases h; done) | (have := pureS_run h P w; simpa [binOp] using this)

theorem scal_of_pure {s : Sem Value} {v : Value} (h : pureS s = some v) : s = .pure v := by
  unfold pureS at h; split at h
  · cases h; rfl
  · cases h

theorem TypeOK.ptr {P : Program} {t : TypeId} {ti : TI} (h : TypeOK P t ti) (hu : ti.u = .ptr) : ∃ e, P.underlying t = some (.pointer e) := by
  have := h.u; rw [hu] at this; unfold chkU at this; simp only at this
  split at this
  · rename_i e he; exact ⟨e, he⟩
  · cases this
theorem TypeOK.iface {P : Program} {t : TypeId} {ti : TI} (h : TypeOK P t ti) (hu : ti.u = .iface) : ∃ e, P.underlying t = some (.interface e) := by
  have := h.u; rw [hu] at this; unfold chkU at this; simp only at this
  split at this
  · rename_i e he; exact ⟨e, he⟩
  · cases this
theorem TypeOK.func {P : Program} {t : TypeId} {ti : TI} (h : TypeOK P t ti) (hu : ti.u = .func) : ∃ a b c, P.underlying t = some (.func a b c) := by
  have := h.u; rw [hu] at this; unfold chkU at this; simp only at this
  split at this
  · rename_i a b c he; exact ⟨a, b, c, he⟩
  · cases this

theorem run_equal {P : Program} {t : TypeId} {d : TypeDesc} (hd : P.underlying t = some d) (x y : Value) (w : World) (b : Bool)
    (h : (match d, x, y with
      | .bool, .bool a, .bool b => some (a == b)
      | .pointer _, .pointer none, .pointer b => some b.isNone
      | .pointer _, .pointer _, .pointer none => some false
      | .interface _, .nilIface, .nilIface => some true
      | .interface _, .nilIface, .iface _ _ | .interface _, .iface _ _, .nilIface => some false
      | .slice _, .slice none _ _, .slice b _ _ => some b.isNone
      | .slice _, .slice _ _ _, .slice none _ _ => some false
      | .map _ _, .map none, .map b => some b.isNone
      | .map _ _, .map _, .map none => some false
      | .func _ _ _, .nilFunc, .nilFunc => some true
      | .func _ _ _, .nilFunc, .func _ _ _ | .func _ _ _, .func _ _ _, .nilFunc => some false
      | _, _, _ => none) = some b) : (Op.equal t x y).run P w = .ok b w := by
  show (Op.equalIn (9999 + 1) t x y).run P w = _
  unfold Op.equalIn
  simp only [Sem.run_bind, run_underlying hd, Result.andThen_ok]
  split at h <;> first | (cases h; done) | (cases h; rfl) | (cases h; rename_i a _; cases a <;> first | rfl | (simp at *; done)) | (cases h; rename_i a _ _ _ _; cases a <;> first | rfl | (simp at *; done)) | (cases h; rename_i a _ _ _ _ _; cases a <;> first | rfl | (simp at *; done)) | skip

theorem eqN_run {P : Program} {t : TypeId} {ti : TI} (hT : TypeOK P t ti) {ρ : Rho} {x y x' y' : Value} (hx : VRel ρ x x') (hy : VRel ρ y y') {b : Bool} (h : eqN ti.u x y = some b) (w : World) :
    (Op.equal t x' y').run P w = .ok b w := by
  unfold eqN at h
  split at h
  case h_1 u e n c b' n' c' hu =>
    cases hx; cases hy <;> cases h <;> exact run_equal (hT.slice hu) _ _ w _ (by first | rfl | (cases b' <;> rfl))
  case h_2 u e a n c n' c' hu =>
    cases hy; cases hx <;> first | (cases h; exact run_equal (hT.slice hu) _ _ w _ rfl) | (rename_i hc; simp [constOK] at hc)
  case h_3 u k e b' hu =>
    cases hx; cases hy <;> cases h <;> exact run_equal (hT.map hu) _ _ w _ (by first | rfl | (cases b' <;> rfl))
  case h_4 u k e b' hu =>
    cases hy; cases hx <;> first | (cases h; exact run_equal (hT.map hu) _ _ w _ rfl) | (rename_i hc; simp [constOK] at hc)
  case h_5 u b' hu =>
    obtain ⟨e, he⟩ := hT.ptr hu
    cases hx; cases hy <;> cases h <;> exact run_equal he _ _ w _ (by first | rfl | (cases b' <;> rfl))
  case h_6 u b' hu =>
    obtain ⟨e, he⟩ := hT.ptr hu
    cases hy; cases hx <;> first | (cases h; exact run_equal he _ _ w _ rfl) | (rename_i hc; simp [constOK] at hc)
  case h_7 u hu =>
    obtain ⟨a, b, c, he⟩ := hT.func hu
    cases hx; cases hy; cases h; exact run_equal he _ _ w _ rfl
  case h_8 u f1 f2 f3 hu =>
    obtain ⟨a, b, c, he⟩ := hT.func hu
    cases hx; cases hy <;> first | (cases h; exact run_equal he _ _ w _ rfl) | (rename_i hc; simp [constOK] at hc)
  case h_9 u f1 f2 f3 hu =>
    obtain ⟨a, b, c, he⟩ := hT.func hu
    cases hy; cases hx <;> first | (cases h; exact run_equal he _ _ w _ rfl) | (rename_i hc; simp [constOK] at hc)
  case h_10 u f1 f2 hu =>
    obtain ⟨a, he⟩ := hT.iface hu
    cases hx; cases hy <;> first | (cases h; exact run_equal he _ _ w _ rfl) | (rename_i hc; simp [constOK] at hc)
  case h_11 u f1 f2 hu =>
    obtain ⟨a, he⟩ := hT.iface hu
    cases hy; cases hx <;> first | (cases h; exact run_equal he _ _ w _ rfl) | (rename_i hc; simp [constOK] at hc)
  case h_12 u a1 b1 hu =>
    cases hx; cases hy; cases h
    exact run_equal (hT.bool hu) _ _ w _ (by cases a1 <;> cases b1 <;> rfl)
  case h_13 => cases h

theorem eqN_ok {u : TU} {x y : Value} {b : Bool} (h : eqN u x y = some b) : (x ≠ .nilIface ∨ y ≠ .nilIface) ∧ ∀ l, x ≠ .agg l := by
  unfold eqN at h
  split at h
  case h_10 => exact ⟨.inr (by simp), fun l hl => by cases hl⟩
  case h_13 => cases h
  all_goals exact ⟨.inl (by simp), fun l hl => by cases hl⟩

theorem intBits_const {op : BinOp} {k : IntKind} {x y : Int} {v : Value} (h : pureS (Op.intBits op k x y) = some v) : constOK v = true := by
  unfold Op.intBits at h
  cases op <;> first | (cases h; rfl) | (cases h; done)
theorem bitsF_const {op : BinOp} {k : IntKind} {x y : Int} {v : Value} (h : bitsF op k x y = some v) : constOK v = true := by
  unfold bitsF at h
  split at h
  · split at h
    · split at h <;> first | (cases h; rfl) | exact intBits_const h
    · exact intBits_const h
  · exact intBits_const h
theorem bopI_const {op : BinOp} {k : IntKind} {x y : Int} {v : Value} (h : bopI op k x y = some v) : constOK v = true := by
  unfold bopI at h
  split at h <;> first | (cases h; rfl) | (exact bitsF_const h) | (split at h <;> first | (cases h; done) | (split at h <;> first | (cases h; rfl) | (cases h; done)))
theorem shiftF_const {op : BinOp} {k : IntKind} {x y : Int} {v : Value} (h : shiftF op k x y = some v) : constOK v = true := by
  unfold shiftF at h
  split at h
  · split at h
    · split at h <;> (cases h; rfl)
    · split at h <;> (cases h; rfl)
    · cases h
  · unfold Op.shift at h
    split at h
    · cases h
    · cases op <;> first | (cases h; rfl) | (cases h; done)
theorem bopII_const {op : BinOp} {j k : IntKind} {x y : Int} {v : Value} (h : bopII op j x k y = some v) : constOK v = true := by
  unfold bopII at h
  split at h
  · exact shiftF_const h
  · exact shiftF_const h
  · split at h
    · exact bopI_const h
    · cases h
theorem bopS_const {op : BinOp} {x y : List UInt8} {v : Value} (h : bopS op x y = some v) : constOK v = true := by
  unfold bopS at h
  split at h <;> first | (cases h; rfl) | (cases h; done) | (split at h <;> first | (cases h; rfl) | (cases h; done))
theorem bopF_const {op : BinOp} {x y : Nat} {v : Value} (h : bopF op x y = some v) : constOK v = true := by
  unfold bopF at h
  cases op <;> first | (cases h; rfl) | (cases h; done)

def eqKind (x : Value) : Prop := match x with | .slice _ _ _ | .map _ | .pointer _ | .nilFunc | .func _ _ _ | .nilIface | .iface _ _ | .bool _ => True | _ => False

theorem binOp_eql {t : TypeId} {x y : Value} {P : Program} {w : World} {b : Bool} (h : (Op.equal t x y).run P w = .ok b w) (hx : eqKind x) :
    (binOp .eql t x y).run P w = .ok (.bool b) w ∧ (binOp .neq t x y).run P w = .ok (.bool (!b)) w := by
  have e1 : binOp .eql t x y = (do pure (.bool (← Op.equal t x y)) : Sem Value) := by
    cases x <;> first | (exact hx.elim) | skip
    all_goals (cases y <;> rfl)
  have e2 : binOp .neq t x y = (do pure (.bool (!(← Op.equal t x y))) : Sem Value) := by
    cases x <;> first | (exact hx.elim) | skip
    all_goals (cases y <;> rfl)
  rw [e1, e2]
  simp [h]

theorem eqN_kind {u : TU} {x y : Value} {b : Bool} (h : eqN u x y = some b) : eqKind x := by
  unfold eqN at h
  split at h <;> first | trivial | cases h

theorem bop_run {P : Program} {T : Tr TI} (hT : ∀ t ti, T.get t = some ti → TypeOK P t ti) {ρ : Rho} {op : BinOp} {t : TypeId} {x y x' y' v : Value} (hx : VRel ρ x x') (hy : VRel ρ y y') (h : bop T op t x y = some v) (o1 o2 : Operand) (w : World) :
    (do eqGuard op t o1 o2 x' y'; binOp op t x' y' : Sem Value).run P w = .ok v w ∧ constOK v = true := by
  unfold bop at h
  split at h
  · rename_i j a k b
    rw [hx.int_inv, hy.int_inv]
    exact ⟨by simp only [Sem.run_bind, eqGuard_run op t o1 o2 (.int j a) (.int k b) (.inl (by simp)) (by simp) P w, Result.andThen_ok]; exact bopII_run h P t w, bopII_const h⟩
  · rename_i a b
    rw [hx.string_inv, hy.string_inv]
    refine ⟨?_, bopS_const h⟩
    simp only [Sem.run_bind, eqGuard_run op t o1 o2 (.string a) (.string b) (.inl (by simp)) (by simp) P w, Result.andThen_ok]
    have := bopS_run h P w
    simpa [binOp] using this
  · rename_i a b
    rw [hx.float_inv, hy.float_inv]
    exact ⟨by simp only [Sem.run_bind, eqGuard_run op t o1 o2 (.float .f64 a) (.float .f64 b) (.inl (by simp)) (by simp) P w, Result.andThen_ok]; exact bopF_run h P t w, bopF_const h⟩
  · rename_i h1 h2 h3
    split at h
    · rename_i ti hti
      have hto := hT t ti hti
      have main : ∀ b, eqN ti.u x y = some b → ∀ op, (eqGuard op t o1 o2 x' y').run P w = .ok () w ∧ (binOp .eql t x' y').run P w = .ok (.bool b) w ∧ (binOp .neq t x' y').run P w = .ok (.bool (!b)) w := by
        intro b hb op
        obtain ⟨g1, g2⟩ := eqN_ok hb
        have hq := eqN_run hto hx hy hb w
        have hk := eqN_kind hb
        refine ⟨eqGuard_run _ _ _ _ _ _ ?_ ?_ P w, binOp_eql hq ?_⟩
        · rcases g1 with g1 | g1
          · exact .inl fun hc => g1 (by subst hc; cases hx; rfl)
          · exact .inr fun hc => g1 (by subst hc; cases hy; rfl)
        · intro l hl; subst hl; cases hx
          · rename_i hc; simp [constOK] at hc
          · exact g2 _ rfl
        · cases hx <;> first | exact hk | trivial
      unfold bopE at h
      split at h
      · rename_i b hb
        cases h
        obtain ⟨k1, k2, _⟩ := main b hb .eql
        exact ⟨by simp only [Sem.run_bind, k1, Result.andThen_ok]; exact k2, rfl⟩
      · rename_i b hb
        cases h
        obtain ⟨k1, _, k3⟩ := main b hb .neq
        exact ⟨by simp only [Sem.run_bind, k1, Result.andThen_ok]; exact k3, rfl⟩
      · cases h
    · cases h

theorem uop_run {op : UnOp} {x v : Value} (h : uop op x = some v) (P : Program) (w : World) : (Op.unary op x).run P w = .ok v w ∧ constOK v = true := by
  unfold uop at h
  split at h
  · cases h; exact ⟨rfl, rfl⟩
  · cases h
    refine ⟨?_, rfl⟩
    simp [Op.unary, Op.intArith, wrapF_eq]
    rfl
  · refine ⟨pureS_run h P w, ?_⟩
    unfold Op.unary at h
    exact intBits_const h
  · cases h
theorem uop_rel {ρ : Rho} {op : UnOp} {x x' v : Value} (h : uop op x = some v) (hx : VRel ρ x x') : x' = x := by
  unfold uop at h
  split at h
  · exact hx.bool_inv
  · exact hx.int_inv
  · exact hx.int_inv
  · cases h
end Go.AM
