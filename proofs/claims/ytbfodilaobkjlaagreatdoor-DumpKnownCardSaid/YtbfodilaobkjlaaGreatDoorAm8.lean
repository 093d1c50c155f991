/- The abstract machine's table of types against the program's. -/
import Derived.Test.YtbfodilaobkjlaaGreatDoorAm7
namespace Go.AM

theorem kEq_true {j k : IntKind} (h : kEq j k = true) : j = k := by cases j <;> cases k <;> simp [kEq] at h ⊢
theorem eqI_true {a b : Int} (h : eqI a b = true) : a = b := by
  cases a <;> cases b <;> simp only [eqI] at h <;> first | (cases h; done) | (rw [Nat.eq_of_beq_eq_true h])
theorem bytesEq_iff : ∀ (a b : List UInt8), bytesEq a b = true ↔ a = b := by
  intro a
  induction a with
  | nil => intro b; cases b <;> simp [bytesEq]
  | cons x a ih =>
    intro b
    cases b with
    | nil => simp [bytesEq]
    | cons y b =>
      show (match Nat.beq x.toNat y.toNat with | true => bytesEq a b | false => false) = true ↔ _
      cases h : Nat.beq x.toNat y.toNat with
      | true =>
        have hxy : x = y := UInt8.toNat_inj.1 (Nat.eq_of_beq_eq_true h)
        simp [ih, hxy]
      | false =>
        have hne : x ≠ y := fun he => Nat.ne_of_beq_eq_false h (by rw [he])
        simp [hne]
theorem bytes_ext {a b : ByteArray} (h : a.data.toList = b.data.toList) : a = b := by
  obtain ⟨⟨a⟩⟩ := a; obtain ⟨⟨b⟩⟩ := b
  simp at h; rw [h]

theorem addrEq_true {a b : Addr} (h : addrEq a b = true) : a = b := by
  obtain ⟨a, o, s⟩ := a; obtain ⟨b, p, q⟩ := b
  cases s <;> cases q <;> simp only [addrEq] at h <;> try (cases h; done)
  split at h
  · rename_i h1; rw [Nat.eq_of_beq_eq_true h1, Nat.eq_of_beq_eq_true h]
  · cases h
theorem optNatEq_true {a b : Option Nat} (h : optNatEq a b = true) : a = b := by
  cases a <;> cases b <;> simp only [optNatEq] at h <;> first | rfl | (cases h; done) | (rw [Nat.eq_of_beq_eq_true h])

theorem vEq_true {x y : Value} (h : vEq x y = true) : x = y := by
  unfold vEq at h
  split at h
  · split at h
    · rename_i h1; rw [kEq_true h1, eqI_true h]
    · cases h
  · split at h <;> first | rfl | (cases h; done)
  · rw [bytes_ext ((bytesEq_iff _ _).1 h)]
  · rw [Nat.eq_of_beq_eq_true h]
  · rfl
  · rw [addrEq_true h]
  · split at h
    · rename_i h1; rw [Nat.eq_of_beq_eq_true h1, Nat.eq_of_beq_eq_true h]
    · cases h
  · split at h
    · rename_i h1 h2; rw [addrEq_true h1, Nat.eq_of_beq_eq_true h2, Nat.eq_of_beq_eq_true h]
    · cases h
  · rw [optNatEq_true h]
  · rfl
  · rfl
  · cases h

theorem vsEq_true : ∀ {xs ys : List Value}, vsEq xs ys = true → xs = ys := by
  intro xs
  induction xs with
  | nil => intro ys h; cases ys <;> simp [vsEq] at h ⊢
  | cons x xs ih =>
    intro ys h
    cases ys with
    | nil => simp [vsEq] at h
    | cons y ys =>
      have h' : (match vEq x y with | true => vsEq xs ys | false => false) = true := h
      cases hv : vEq x y with
      | true => rw [hv] at h'; rw [vEq_true hv, ih h']
      | false => rw [hv] at h'; cases h'

/-! The check -/
def aggOf (P : Program) (t : TypeId) : Bool := match P.underlying t with | some (.struct _) => true | some (.array _ _) => true | _ => false

def chkFs (P : Program) : List (Nat × Nat × Bool) → List Field → Bool
  | [], [] => true
  | (o, n, g) :: fs, f :: gs => Nat.beq o f.offset && (match P.info? f.type with | some i => Nat.beq n i.size | none => false) && (g == aggOf P f.type) && (P.underlying f.type).isSome && chkFs P fs gs
  | _, _ => false

def chkU (P : Program) (t : TypeId) : TU → Bool
  | .bool => match P.underlying t with | some .bool => true | _ => false
  | .int k => match P.underlying t with | some (.int k') => kEq k k' | _ => false
  | .float => match P.underlying t with | some (.float .f64) => true | _ => false
  | .str => match P.underlying t with | some .string => true | _ => false
  | .ptr => match P.underlying t with | some (.pointer _) => true | _ => false
  | .slice e => match P.underlying t with | some (.slice e') => Nat.beq e e' | _ => false
  | .arr n e => match P.underlying t with | some (.array n' e') => Nat.beq n n' && Nat.beq e e' | _ => false
  | .strct fs => match P.underlying t with | some (.struct fields) => chkFs P fs fields.toList | _ => false
  | .map k e => match P.underlying t with | some (.map k' e') => Nat.beq k k' && Nat.beq e e' | _ => false
  | .iface => match P.underlying t with | some (.interface _) => true | _ => false
  | .func => match P.underlying t with | some (.func _ _ _) => true | _ => false
  | .other => match P.underlying t with | some (.interface _) => false | some _ => true | none => false

noncomputable def chkZ (z : Option Value) (agg : Bool) (zs : List Value) : Bool :=
  match z with
  | some (.agg a) => agg && vsEq a.toList zs
  | some (.tuple _) => false
  | some v => !agg && vsEq [v] zs
  | none => false

noncomputable def chkTI (P : Program) (t : TypeId) (ti : TI) : Bool :=
  match P.info? t with
  | none => false
  | some i => Nat.beq i.size ti.size && Nat.beq i.bytes ti.bytes && chkU P t ti.u && (ti.agg == aggOf P t) && chkZ i.zero ti.agg ti.zero &&
      Nat.beq (len ti.zero) ti.size && ti.zero.all (fun v => constOK v && isOne v)

def Tr.all {α : Type} (f : Nat → α → Bool) : (Nat → Nat) → Tr α → Bool
  | _, .leaf => true
  | g, .node l v r => (match v with | some a => f (g 0) a | none => true) && Tr.all f (fun m => g (2 * m + 1)) l && Tr.all f (fun m => g (2 * m + 2)) r

theorem Tr.all_get {α : Type} {f : Nat → α → Bool} : ∀ (t : Tr α) (g : Nat → Nat) (n : Nat) (a : α), Tr.all f g t = true → t.get n = some a → f (g n) a = true := by
  intro t
  induction t with
  | leaf => intro g n a _ h; cases h
  | node l v r ihl ihr =>
    intro g n a h hn
    simp only [Tr.all, Bool.and_eq_true] at h
    obtain ⟨⟨h1, h2⟩, h3⟩ := h
    cases n with
    | zero => rw [Tr.get_zero] at hn; subst hn; exact h1
    | succ m =>
      rcases Nat.mod_two_eq_zero_or_one m with he | he
      · rw [Tr.get_even _ _ _ _ he] at hn
        have := ihl _ _ _ h2 hn
        rwa [show 2 * (m / 2) + 1 = m + 1 from by omega] at this
      · rw [Tr.get_odd _ _ _ _ he] at hn
        have := ihr _ _ _ h3 hn
        rwa [show 2 * (m / 2) + 2 = m + 1 from by omega] at this

/-- What the table says is so. -/
structure TypeOK (P : Program) (t : TypeId) (ti : TI) : Prop where
  info : ∃ i z, P.info? t = some i ∧ i.size = ti.size ∧ i.bytes = ti.bytes ∧ i.zero = some z ∧ z.cells.toList = ti.zero ∧ (ti.agg = true → z = .agg z.cells) ∧ (ti.agg = false → ti.zero = [z])
  agg : ti.agg = aggOf P t
  zlen : ti.zero.length = ti.size
  zok : ∀ v ∈ ti.zero, constOK v = true ∧ isOne v = true
  u : chkU P t ti.u = true

theorem typeOK_of_chk {P : Program} {t : TypeId} {ti : TI} (h : chkTI P t ti = true) : TypeOK P t ti := by
  unfold chkTI at h
  split at h
  · cases h
  · rename_i i hi
    simp only [Bool.and_eq_true, beq_iff_eq, List.all_eq_true] at h
    obtain ⟨⟨⟨⟨⟨⟨h1, h2⟩, h3⟩, h4⟩, h5⟩, h6⟩, h7⟩ := h
    have hz : ∃ z, i.zero = some z ∧ z.cells.toList = ti.zero ∧ (ti.agg = true → z = .agg z.cells) ∧ (ti.agg = false → ti.zero = [z]) := by
      unfold chkZ at h5
      split at h5
      · rename_i a hz
        simp only [Bool.and_eq_true] at h5
        exact ⟨_, hz, vsEq_true h5.2, fun _ => rfl, (fun hf => by rw [hf] at h5; cases h5.1)⟩
      · cases h5
      · rename_i v hna hnt hz
        simp only [Bool.and_eq_true, Bool.not_eq_true'] at h5
        have := vsEq_true h5.2
        refine ⟨v, hz, ?_, (fun hf => by rw [hf] at h5; cases h5.1), fun _ => this.symm⟩
        rw [← this]
        cases v <;> first | rfl | (exact absurd rfl (hna _)) | (exact absurd rfl (hnt _))
      · cases h5
    obtain ⟨z, k1, k2, k3, k4⟩ := hz
    refine ⟨⟨i, z, hi, Nat.eq_of_beq_eq_true h1, Nat.eq_of_beq_eq_true h2, k1, k2, k3, k4⟩, h4, ?_, fun v hv => ?_, h3⟩
    · have := Nat.eq_of_beq_eq_true h6; rwa [len_eq] at this
    · have := h7 v hv; simpa using this

section
variable {P : Program} {t : TypeId} {ti : TI} (h : TypeOK P t ti)
include h
theorem TypeOK.slice {e : Nat} (hu : ti.u = .slice e) : P.underlying t = some (.slice e) := by
  have := h.u; rw [hu] at this; unfold chkU at this; simp only at this
  split at this
  · rename_i e' he; rw [he, Nat.eq_of_beq_eq_true this]
  · cases this
theorem TypeOK.arr {n e : Nat} (hu : ti.u = .arr n e) : P.underlying t = some (.array n e) := by
  have := h.u; rw [hu] at this; unfold chkU at this; simp only at this
  split at this
  · rename_i n' e' he
    simp only [Bool.and_eq_true] at this
    rw [he, Nat.eq_of_beq_eq_true this.1, Nat.eq_of_beq_eq_true this.2]
  · cases this
theorem TypeOK.map {k e : Nat} (hu : ti.u = .map k e) : P.underlying t = some (.map k e) := by
  have := h.u; rw [hu] at this; unfold chkU at this; simp only at this
  split at this
  · rename_i n' e' he
    simp only [Bool.and_eq_true] at this
    rw [he, Nat.eq_of_beq_eq_true this.1, Nat.eq_of_beq_eq_true this.2]
  · cases this
theorem TypeOK.str (hu : ti.u = .str) : P.underlying t = some .string := by
  have := h.u; rw [hu] at this; unfold chkU at this; simp only at this
  split at this
  · rename_i he; exact he
  · cases this
theorem TypeOK.bool (hu : ti.u = .bool) : P.underlying t = some .bool := by
  have := h.u; rw [hu] at this; unfold chkU at this; simp only at this
  split at this
  · rename_i he; exact he
  · cases this
theorem TypeOK.float (hu : ti.u = .float) : P.underlying t = some (.float .f64) := by
  have := h.u; rw [hu] at this; unfold chkU at this; simp only at this
  split at this
  · rename_i he; exact he
  · cases this
theorem TypeOK.int {k : IntKind} (hu : ti.u = .int k) : P.underlying t = some (.int k) := by
  have := h.u; rw [hu] at this; unfold chkU at this; simp only at this
  split at this
  · rename_i k' he; rw [he, kEq_true this]
  · cases this
theorem TypeOK.has : ∃ d, P.underlying t = some d := by
  cases hd : P.underlying t with
  | some d => exact ⟨d, rfl⟩
  | none =>
    have hu := h.u
    unfold chkU at hu
    rw [hd] at hu
    cases hc : ti.u <;> rw [hc] at hu <;> cases hu
theorem TypeOK.noIface (hu : ti.u ≠ .iface) : ∃ d, P.underlying t = some d ∧ ∀ ms, d ≠ .interface ms := by
  obtain ⟨d, hd⟩ := h.has
  refine ⟨d, hd, fun ms hm => hu ?_⟩
  subst hm
  have hc := h.u
  unfold chkU at hc
  rw [hd] at hc
  cases hcc : ti.u <;> rw [hcc] at hc <;> first | rfl | cases hc
theorem TypeOK.size : ∃ i, P.info? t = some i ∧ i.size = ti.size ∧ i.bytes = ti.bytes := by
  obtain ⟨i, z, h1, h2, h3, _⟩ := h.info; exact ⟨i, h1, h2, h3⟩
theorem TypeOK.run_size (w : World) : (sizeOf t).run P w = .ok ti.size w := by
  obtain ⟨i, h1, h2, _⟩ := h.size
  simp [sizeOf, typeInfo, h1, h2]
theorem TypeOK.run_agg (w : World) : (isAgg t).run P w = .ok ti.agg w := by
  rw [h.agg]
  unfold aggOf
  obtain ⟨d, hd⟩ := h.has
  simp only [isAgg, Sem.run_bind, run_underlying hd, Result.andThen_ok]
  cases d <;> rw [hd] <;> rfl
theorem TypeOK.run_zero (w : World) : ∃ z, (zeroValue t).run P w = .ok z w ∧ z.cells.toList = ti.zero ∧ (ti.agg = true → z = .agg z.cells) ∧ (ti.agg = false → ti.zero = [z]) := by
  obtain ⟨i, z, h1, h2, h3, h4, h5, h6, h7⟩ := h.info
  exact ⟨z, by simp [zeroValue, typeInfo, h1, h4], h5, h6, h7⟩
end
end Go.AM
