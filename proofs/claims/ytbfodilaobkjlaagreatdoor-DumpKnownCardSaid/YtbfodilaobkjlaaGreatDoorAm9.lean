/- The abstract machine's numbers and texts are the model's. -/
import Derived.Test.YtbfodilaobkjlaaGreatDoorAm8
import Derived.Laws.Strings
namespace Go.AM

theorem kbits_eq (k : IntKind) : kbits k = k.bits := by cases k <;> rfl

theorem wrap_nat {k : IntKind} {m : Nat} (h : m < room k) : k.wrap (Int.ofNat m) = Int.ofNat m := by
  cases k <;> simp only [room] at h <;> simp only [IntKind.wrap, IntKind.bits, IntKind.signed, Int.ofNat_eq_natCast] <;> simp <;> omega

theorem wrapF_eq (k : IntKind) (n : Int) : wrapF k n = k.wrap n := by
  unfold wrapF
  split
  · rename_i m
    split
    · rename_i h
      have h := Nat.le_of_ble_eq_true h
      exact (wrap_nat (k := .i64) (show m < 9223372036854775808 by omega)).symm
    · rfl
  · rename_i m
    split
    · rename_i h
      have h := Nat.le_of_ble_eq_true h
      simp only [IntKind.wrap, IntKind.bits, IntKind.signed, Int.negSucc_eq]
      simp
      omega
    · rfl
  · simp only [IntKind.wrap, IntKind.bits, IntKind.signed]; simp; rfl
  · simp only [IntKind.wrap, IntKind.bits, IntKind.signed]; simp; rfl
  · simp only [IntKind.wrap, IntKind.bits, IntKind.signed]; simp; rfl
  · simp only [IntKind.wrap, IntKind.bits, IntKind.signed]; simp; rfl
  · rfl

theorem ltI_eq (a b : Int) : ltI a b = decide (a < b) := by
  cases a with
  | ofNat m =>
    cases b with
    | ofNat n =>
      simp only [ltI]
      rw [Bool.eq_iff_iff]; simp [Nat.ble_eq, Int.ofNat_eq_natCast]; omega
    | negSucc n =>
      simp only [ltI]
      rw [Bool.eq_iff_iff]; simp [Int.negSucc_eq]; omega
  | negSucc m =>
    cases b with
    | ofNat n =>
      simp only [ltI]
      rw [Bool.eq_iff_iff]; simp [Int.negSucc_eq]; omega
    | negSucc n =>
      simp only [ltI]
      rw [Bool.eq_iff_iff]; simp [Nat.ble_eq, Int.negSucc_eq]; omega
theorem eqI_eq (a b : Int) : eqI a b = (a == b) := by
  rw [Bool.eq_iff_iff, beq_iff_eq]
  constructor
  · exact eqI_true
  · intro h; subst h; cases a <;> simp [eqI]

theorem pureS_run {s : Sem Value} {v : Value} (h : pureS s = some v) (P : Program) (w : World) : s.run P w = .ok v w := by
  unfold pureS at h
  split at h
  · cases h; rfl
  · cases h

theorem bytesLt_iff : ∀ (a b : List UInt8), bytesLt a b = Op.bytesLess a b := by
  intro a
  induction a with
  | nil => intro b; cases b <;> rfl
  | cons x a ih =>
    intro b
    cases b with
    | nil => rfl
    | cons y b =>
      show (match Nat.beq x.toNat y.toNat with | true => bytesLt a b | false => Nat.ble (Nat.succ x.toNat) y.toNat) = (decide (x < y) || (x == y && Op.bytesLess a b))
      cases h : Nat.beq x.toNat y.toNat with
      | true =>
        have hxy : x = y := UInt8.toNat_inj.1 (Nat.eq_of_beq_eq_true h)
        subst hxy
        simp [ih, UInt8.lt_irrefl]
      | false =>
        have hne : x ≠ y := fun he => Nat.ne_of_beq_eq_false h (by rw [he])
        simp only [beq_eq_false_iff_ne.2 hne, Bool.false_and, Bool.or_false]
        rw [Bool.eq_iff_iff]; simp [Nat.ble_eq, UInt8.lt_iff_toNat_lt]; omega

theorem less_le (a b : List UInt8) : (Op.bytesLess a b || (a == b)) = !(Op.bytesLess b a) := by
  induction a generalizing b with
  | nil => cases b <;> simp [Op.bytesLess]
  | cons x a ih =>
    cases b with
    | nil => simp [Op.bytesLess]
    | cons y b =>
      simp only [Op.bytesLess]
      by_cases h1 : x < y
      · have h2 : ¬ y < x := by simp only [UInt8.lt_iff_toNat_lt] at *; omega
        have h3 : ¬ y = x := by intro h; subst h; exact h2 h1
        simp [h1, h2, h3]
      · by_cases h2 : y < x
        · have h3 : ¬ x = y := by intro h; subst h; exact h1 h2
          simp [h1, h2, h3]
        · have h3 : x = y := UInt8.toNat_inj.1 (by simp only [UInt8.lt_iff_toNat_lt] at *; omega)
          subst h3
          have := ih b
          simp only [h1, decide_false, Bool.false_or, beq_self_eq_true, Bool.true_and]
          rw [← this]
          simp

theorem bytesEq_eq (a b : List UInt8) : bytesEq a b = (a == b) := by
  rw [Bool.eq_iff_iff, bytesEq_iff]; simp

theorem bopS_run {op : BinOp} {a b : ByteArray} {v : Value} (h : bopS op a.data.toList b.data.toList = some v) (P : Program) (w : World) :
    (Op.stringOp op a b).run P w = .ok v w := by
  unfold bopS at h
  unfold Op.stringOp
  simp only [ByteArray.toList_eq]
  cases op <;> first | (cases h; done) | skip
  · simp only at h
    split at h
    · rename_i hle
      have hle := Nat.le_of_ble_eq_true hle
      rw [len_eq, len_eq] at hle
      simp only [Nat.add_eq] at hle
      cases h
      have hsz : ¬ (((a.size + b.size : Nat) : Int) > IntKind.i64.max) := by
        have e1 : a.size = a.data.toList.length := rfl
        have e2 : b.size = b.data.toList.length := rfl
        simp only [IntKind.max, IntKind.signed, IntKind.bits]
        simp
        omega
      simp only
      rw [if_neg hsz]
      show Result.ok _ w = _
      congr 2
      apply bytes_ext
      rw [app_eq]
      simp
    · cases h
  all_goals
    cases h
    simp only [bytesEq_eq, bytesLt_iff]
    show Result.ok _ w = _
  · rfl
  · rfl
  · rfl
  · rw [less_le]
  · rw [less_le]; simp
  · rfl
end Go.AM
