/- The sum of bytes, in plain Lean, and the numbers that its code reckons with. -/
import Derived.Test.YtbfodilaobkjlaaGreatDoorAm38
namespace Go.AM

noncomputable section
/-- One bit. -/
def crcStep (r : Nat) : Nat :=
  Nat.rec (motive := fun _ => Nat) (Nat.shiftRight r 1) (fun _ _ => Nat.xor (Nat.shiftRight r 1) 3988292384) (Nat.land r 1)

def crcBits (n : Nat) : Nat → Nat := Nat.rec (motive := fun _ => Nat → Nat) (fun r => r) (fun _ ih r => Nat.rec (motive := fun _ => Nat) (ih (crcStep 0)) (fun m _ => ih (crcStep (Nat.succ m))) r) n

/-- The cells' sum; all must be bytes. -/
def crcCells (l : List Value) : Nat → Option Nat :=
  List.rec (motive := fun _ => Nat → Option Nat) (fun r => some r)
    (fun v _ ih r => match v with
      | .int .u8 (.ofNat n) => match Nat.ble (Nat.succ n) 256 with
        | true => ih (crcBits 8 (Nat.xor r n))
        | false => none
      | _ => none) l

/-- The cells of a slice of bytes. -/
def srcS (S : AS) (a : Option Addr) (n : Nat) : Option (List Value) :=
  match n with
  | 0 => some []
  | n + 1 => match a with
    | none => none
    | some a => loadN S a (n + 1)

def moreV (r : Option Nat) (S : AS) : Option (Value × AS) :=
  match r with
  | some r => some (.int .u32 (.ofNat (Nat.xor r 4294967295)), S)
  | none => none

def extMore (args : List Value) (S : AS) : Option (Value × AS) :=
  match args with
  | [.int .u32 (.ofNat s), .slice a n _] => match Nat.ble (Nat.succ s) 4294967296, Nat.ble n 9223372036854775806, srcS S a n with
    | true, true, some cs => moreV (crcCells cs (Nat.xor s 4294967295)) S
    | _, _, _ => none
  | _ => none

def extOf (args : List Value) (S : AS) : Option (Value × AS) :=
  match args with
  | [x] => extMore [.int .u32 (.ofNat 0), x] S
  | _ => none
end

theorem crcCells_eq (v : Value) (l : List Value) (r : Nat) : crcCells (v :: l) r = match v with
      | .int .u8 (.ofNat n) => match Nat.ble (Nat.succ n) 256 with
        | true => crcCells l (crcBits 8 (Nat.xor r n))
        | false => none
      | _ => none := rfl
theorem crcCells_cons {v : Value} {l : List Value} {r r' : Nat} (h : crcCells (v :: l) r = some r') : ∃ n, v = .int .u8 (.ofNat n) ∧ n < 256 ∧ crcCells l (crcBits 8 (Nat.xor r n)) = some r' := by
  rw [crcCells_eq] at h
  split at h
  · rename_i n
    split at h
    · rename_i hb
      exact ⟨n, rfl, Nat.le_of_ble_eq_true hb, h⟩
    · cases h
  · cases h

/-- What is read of a slice, cell by cell. -/
theorem src_at {S : AS} {ad : Option Addr} {n : Nat} {cs : List Value} (h : srcS S ad n = some cs) :
    cs.length = n ∧ ∀ j v, cs[j]? = some v → ∃ b o, ad = some ⟨b, o, none⟩ ∧ loadN S ⟨b, o + j * 1, none⟩ 1 = some [v] := by
  unfold srcS at h
  split at h
  · cases h; exact ⟨rfl, fun j v hj => by simp at hj⟩
  · rename_i m
    split at h
    · cases h
    · rename_i a
      obtain ⟨b, o, B, rfl, hB, hext, hc⟩ := loadN_some h
      obtain ⟨h1, h2⟩ := cellsFrom_spec B _ _ _ hc
      refine ⟨h1, fun j v hj => ⟨b, o, rfl, ?_⟩⟩
      have hj2 : j < m + 1 := by rw [← h1]; exact (List.getElem?_eq_some_iff.1 hj).1
      unfold loadN
      simp only [hB]
      rw [Nat.ble_eq_true_of_le (by simp only [Nat.add_eq]; omega)]
      show cellsFrom B 1 (o + j * 1) = _
      have e : cellsFrom B 1 (o + j * 1) = match B.cell (o + j * 1) with
        | none => none
        | some v => some [v] := rfl
      rw [e, Nat.mul_one, h2 j hj2, hj]

theorem crcBits_succ (n r : Nat) : crcBits (n + 1) r = crcBits n (crcStep r) := by
  cases r <;> rfl
theorem crcStep_one {r : Nat} (h : Nat.land r 1 = 1) : crcStep r = Nat.xor (Nat.shiftRight r 1) 3988292384 := by
  unfold crcStep; rw [h]; rfl
theorem crcStep_zero {r : Nat} (h : Nat.land r 1 = 0) : crcStep r = Nat.shiftRight r 1 := by
  unfold crcStep; rw [h]; rfl
theorem land_one (r : Nat) : Nat.land r 1 = 0 ∨ Nat.land r 1 = 1 := by
  have : Nat.land r 1 = r % 2 := Nat.and_one_is_mod r
  omega
theorem xor_lt {a b : Nat} (ha : a < 4294967296) (hb : b < 4294967296) : Nat.xor a b < 4294967296 := Nat.xor_lt_two_pow (n := 32) ha hb
theorem shr_lt {a : Nat} (ha : a < 4294967296) : Nat.shiftRight a 1 < 4294967296 := by
  have : Nat.shiftRight a 1 = a / 2 ^ 1 := Nat.shiftRight_eq_div_pow a 1
  omega
theorem crcStep_lt {r : Nat} (h : r < 4294967296) : crcStep r < 4294967296 := by
  rcases land_one r with h1 | h1
  · rw [crcStep_zero h1]; exact shr_lt h
  · rw [crcStep_one h1]; exact xor_lt (shr_lt h) (by decide)
theorem crcBits_lt : ∀ (n : Nat) {r : Nat}, r < 4294967296 → crcBits n r < 4294967296 := by
  intro n
  induction n with
  | zero => intro r h; exact h
  | succ n ih => intro r h; rw [crcBits_succ]; exact ih (crcStep_lt h)

/-! The operations -/
theorem ble_lt {a b : Nat} (h : a < b) : Nat.ble (Nat.succ a) b = true := Nat.ble_eq_true_of_le h
theorem b_xor {a b : Nat} (ha : a < 4294967296) (hb : b < 4294967296) : bopII .xor .u32 (.ofNat a) .u32 (.ofNat b) = some (.int .u32 (.ofNat (Nat.xor a b))) := by
  show bitsF .xor .u32 (.ofNat a) (.ofNat b) = _
  unfold bitsF
  simp only [room, ble_lt ha, ble_lt hb]
theorem b_and {a b : Nat} (ha : a < 4294967296) (hb : b < 4294967296) : bopII .and .u32 (.ofNat a) .u32 (.ofNat b) = some (.int .u32 (.ofNat (Nat.land a b))) := by
  show bitsF .and .u32 (.ofNat a) (.ofNat b) = _
  unfold bitsF
  simp only [room, ble_lt ha, ble_lt hb]
theorem b_shr1 {a : Nat} {k : IntKind} : bopII .shr .u32 (.ofNat a) k (.ofNat 1) = some (.int .u32 (.ofNat (Nat.shiftRight a 1))) := rfl
theorem b_eql {k : IntKind} {a b : Nat} : bopII .eql k (.ofNat a) k (.ofNat b) = some (.bool (Nat.beq a b)) := by
  cases k <;> rfl
theorem b_lss {k : IntKind} {a b : Nat} : bopII .lss k (.ofNat a) k (.ofNat b) = some (.bool (Nat.ble (Nat.succ a) b)) := by
  cases k <;> rfl
theorem b_add {a b : Nat} (h : a + b ≤ 9223372036854775807) : bopII .add .i64 (.ofNat a) .i64 (.ofNat b) = some (.int .i64 (.ofNat (a + b))) := by
  show some (Value.int .i64 (wrapF .i64 (.ofNat (a + b)))) = _
  have e : wrapF .i64 (.ofNat (a + b)) = match Nat.ble (a + b) 9223372036854775807 with | true => .ofNat (a + b) | false => IntKind.wrap .i64 (.ofNat (a + b)) := rfl
  rw [e, Nat.ble_eq_true_of_le h]
theorem w_u32 {a : Nat} (h : a < 4294967296) : wrapF .u32 (.ofNat a) = .ofNat a := by
  show Int.ofNat (Nat.mod a 4294967296) = _
  rw [show Nat.mod a 4294967296 = a from Nat.mod_eq_of_lt h]
end Go.AM
