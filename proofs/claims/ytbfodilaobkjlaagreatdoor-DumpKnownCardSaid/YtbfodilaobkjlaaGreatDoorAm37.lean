/- The abstract machine: functions without a body; functions that stand by a contract. -/
import Derived.Test.YtbfodilaobkjlaaGreatDoorAm36
import Derived.Laws.Externs
import Derived.Lib.Bytealg
import Derived.Lib.BytesEntry
namespace Go.AM

noncomputable section
def cmpB (a : List UInt8) : List UInt8 → Value :=
  List.rec (motive := fun _ => List UInt8 → Value) (fun b => match b with | [] => .int .i64 (.ofNat 0) | _ :: _ => .int .i64 (.negSucc 0))
    (fun x _ ih b => match b with
      | [] => .int .i64 (.ofNat 1)
      | y :: b => match Nat.beq x.toNat y.toNat with
        | true => ih b
        | false => match Nat.ble (Nat.succ x.toNat) y.toNat with
          | true => .int .i64 (.negSucc 0)
          | false => .int .i64 (.ofNat 1)) a

def bytesOfV (S : AS) (x : Value) : Option (List UInt8) :=
  match x with
  | .slice a n c => match srcCells S (.slice a n c) n 1 with
    | some cs => toBytes cs
    | none => none
  | _ => none

def extCompare (args : List Value) (S : AS) : Option (Value × AS) :=
  match args with
  | [x, y] => match bytesOfV S x, bytesOfV S y with
    | some a, some b => some (cmpB a b, S)
    | _, _ => none
  | _ => none

def extCmpStr (args : List Value) (S : AS) : Option (Value × AS) :=
  match args with
  | [.string a, .string b] => some (cmpB a.data.toList b.data.toList, S)
  | _ => none

def extBits (args : List Value) (S : AS) : Option (Value × AS) :=
  match args with
  | [.float .f64 b] => some (.int .u64 (.ofNat b), S)
  | _ => none
end

/-- What one entry of the table of contracts must be. -/
def XF (P : Program) (f : Nat) (g : List Value → AS → Option (Value × AS)) : Prop :=
  ∀ args S v S', g args S = some (v, S') → ∀ ρ w (cargs : Array Value), Rel ρ S w → VsRel ρ args cargs.toList →
    ∀ (o : Oper) (a : Act) (next : Act → World → Prop) (Q : Exit → Act → World → Prop),
      (∀ cv w' ρ', Rel ρ' S' w' → Ext ρ S w ρ' S' w' → VRel ρ' v cv → next (a.put o.dst cv) w') → o.upon P a next Q ((callFunc f cargs).run P w)

theorem xok_of {P : Program} {x : Tr (List Value → AS → Option (Value × AS))} (h : Tr.AllP (XF P) id x) : XOK P (Tr.get x) :=
  fun f g hf => Tr.allP_get x id f g h hf

/-- A function without a body that does not touch memory. -/
theorem xf_extern {P : Program} {f : Nat} {fn : Func} {e : Array Value → Sem Value} (hf : P.funcs[f]? = some fn) (hname : (fn.name == "runtime.NumGoroutine") = false)
    (hb : fn.body.isNone = true) (hn : Extern.findNext fn = none) (he : Extern.find fn = some e) {g : List Value → AS → Option (Value × AS)}
    (hg : ∀ args S v S', g args S = some (v, S') → S' = S ∧ ∀ ρ w (cargs : Array Value), Rel ρ S w → VsRel ρ args cargs.toList → ∃ cv, (e cargs).run P w = .ok cv w ∧ VRel ρ v cv) : XF P f g := by
  intro args S v S' h ρ w cargs hR hv o a next Q hQ
  obtain ⟨rfl, h2⟩ := hg args S v S' h
  obtain ⟨cv, h3, h4⟩ := h2 ρ w cargs hR hv
  rw [run_callFunc_extern hf hname hb hn he, h3, Result.andThen_ok, Oper.upon_value]
  exact hQ cv w ρ hR (Ext.refl _ _ _) h4

/-- A function that the machine runs. -/
theorem xf_call {P : Program} {f : Nat} {g : List Value → AS → Option (Value × AS)}
    (hg : ∀ args S v S', g args S = some (v, S') → ∃ call, CallOK P call ∧ call f args S = some (.ret v S')) : XF P f g := by
  intro args S v S' h ρ w cargs hR hv o a next Q hQ
  obtain ⟨call, hc, h2⟩ := hg args S v S' h
  obtain ⟨h3, h4⟩ := hc f args S _ h2 ρ w cargs hR hv
  rw [h3, Oper.upon_enter]
  refine Calls.mono h4 fun e' w' he' => ?_
  obtain ⟨cv, ρ', rfl, g1, g2, g3⟩ := he'
  exact hQ cv w' ρ' g1 g2 g3

theorem cmpB_eq : ∀ (a b : List UInt8), cmpB a b = .int .i64 (Lib.compareBytes a b) := by
  intro a
  induction a with
  | nil => intro b; cases b <;> rfl
  | cons x a ih =>
    intro b
    cases b with
    | nil => rfl
    | cons y b =>
      have e : cmpB (x :: a) (y :: b) = match Nat.beq x.toNat y.toNat with
        | true => cmpB a b
        | false => match Nat.ble (Nat.succ x.toNat) y.toNat with
          | true => .int .i64 (.negSucc 0)
          | false => .int .i64 (.ofNat 1) := rfl
      rw [e]
      unfold Lib.compareBytes
      cases h : Nat.beq x.toNat y.toNat with
      | true =>
        have hxy : x = y := UInt8.toNat_inj.1 (Nat.eq_of_beq_eq_true h)
        subst hxy
        have hlt : ¬ x < x := UInt8.lt_irrefl x
        simp only [hlt, if_false]
        exact ih b
      | false =>
        have hne : x.toNat ≠ y.toNat := Nat.ne_of_beq_eq_false h
        simp only
        cases h2 : Nat.ble (Nat.succ x.toNat) y.toNat with
        | true =>
          have := Nat.le_of_ble_eq_true h2
          have hlt : x < y := UInt8.lt_iff_toNat_lt.2 this
          simp only [hlt, if_true]
          rfl
        | false =>
          have : ¬ (Nat.succ x.toNat ≤ y.toNat) := fun hc => by rw [Nat.ble_eq_true_of_le hc] at h2; cases h2
          have hlt : ¬ x < y := fun hc => this (UInt8.lt_iff_toNat_lt.1 hc)
          have hgt : y < x := UInt8.lt_iff_toNat_lt.2 (by omega)
          simp only [hlt, if_false, hgt, if_true]
          rfl

theorem bytes_rel_const : ∀ {ρ : Rho} (ns : List Nat) {l' : List Value}, VsRel ρ (ns.map fun n => Value.int .u8 (Int.ofNat n)) l' → l' = ns.map fun n => Value.int .u8 (Int.ofNat n) := by
  intro ρ ns
  induction ns with
  | nil => intro l' h; exact h.nil_inv
  | cons n ns ih =>
    intro l' h
    obtain ⟨a', l2, rfl, h1, h2⟩ := h.cons_inv
    rw [h1.int_inv, ih h2]
    rfl

/-- The bytes of a slice. -/
theorem bytesOf_rel {P : Program} {ρ : Rho} {S : AS} {w : World} (hR : Rel ρ S w) {x x' : Value} {s : List UInt8} (hx : VRel ρ x x') (h : bytesOfV S x = some s) :
    (Extern.Bytes.bytesOf x').run P w = .ok ⟨⟨s⟩⟩ w := by
  unfold bytesOfV at h
  split at h
  · rename_i a n c
    split at h
    · rename_i cs hcs
      unfold srcCells at hcs
      cases hx with
      | same hc =>
        have : a = none := by unfold constOK at hc; split at hc <;> simp_all
        subst this
        cases hcs
        cases h
        rfl
      | slice0 hb he =>
        simp only at hcs
        cases hcs
        cases h
        rfl
      | @slice b o _ _ c' r hb hn he hc hcap =>
        cases n with
        | zero =>
          simp only at hcs
          cases hcs
          cases h
          rfl
        | succ n =>
          simp only at hcs
          obtain ⟨l', g1, g2, g3, _, g5⟩ := loadN_run hR hb hcs
          obtain ⟨ns, rfl, rfl⟩ := toBytes_spec h
          have hl := bytes_rel_const ns g1
          subst hl
          have hlen : ns.length = n + 1 := by simpa using g3
          have hl := Lib.run_loadBytesX (P := P) w (ns.map Int.ofNat) (r.at o) .empty (fun j x hj => by
            rw [List.getElem?_map] at hj
            cases hnj : ns[j]? with
            | none => rw [hnj] at hj; cases hj
            | some m =>
              rw [hnj] at hj
              cases hj
              exact g5 j _ (by rw [List.getElem?_map, hnj]; rfl))
          rw [List.length_map, hlen] at hl
          show (Extern.Bytes.loadBytes (r.at o) (n + 1) .empty).run P w = _
          rw [hl]
          congr 1
          apply ByteArray.ext
          apply Array.ext'
          have : ∀ m : List Nat, (Lib.bytesOf (m.map Int.ofNat)) = m.map UInt8.ofNat := by
            intro m
            induction m with
            | nil => rfl
            | cons a m ih => simp [Lib.bytesOf]
          simp [this]
    · cases h
  · cases h

theorem two_inv {ρ : Rho} {x y : Value} {cargs : Array Value} (h : VsRel ρ [x, y] cargs.toList) : ∃ x' y', cargs = #[x', y'] ∧ VRel ρ x x' ∧ VRel ρ y y' := by
  obtain ⟨x', l1, h1, h2, h3⟩ := h.cons_inv
  obtain ⟨y', l2, rfl, h4, h5⟩ := h3.cons_inv
  have := h5.nil_inv
  subst this
  exact ⟨x', y', Array.ext' h1, h2, h4⟩

section
variable {P : Program} {f : Nat} {fn : Func} (hf : P.funcs[f]? = some fn) (hname : (fn.name == "runtime.NumGoroutine") = false)
    (hb : fn.body.isNone = true) (hn : Extern.findNext fn = none)
include hf hname hb hn

theorem xf_compare (he : Extern.find fn = some Extern.BytealgCompare.compare) : XF P f extCompare := by
  refine xf_extern hf hname hb hn he fun args S v S' h => ?_
  unfold extCompare at h
  split at h
  · rename_i x y
    split at h
    · rename_i a b ha hb2
      cases h
      refine ⟨rfl, fun ρ w cargs hR hv => ?_⟩
      obtain ⟨x', y', rfl, h1, h2⟩ := two_inv hv
      refine ⟨.int .i64 (Lib.compareBytes a b), ?_, by rw [cmpB_eq]; exact .int⟩
      change Sem.run P (do pure (goInt (Extern.BytealgCompare.cmp (← Extern.Bytes.bytesOf x') (← Extern.Bytes.bytesOf y')))) w = _
      simp only [Sem.run_bind, bytesOf_rel hR h1 ha, bytesOf_rel hR h2 hb2, Result.andThen_ok, Sem.run_pure]
      rw [Lib.cmp_eq]
      rfl
    · cases h
  · cases h

theorem xf_cmpStr (he : Extern.find fn = some Extern.BytealgCompare.compare) : XF P f extCmpStr := by
  refine xf_extern hf hname hb hn he fun args S v S' h => ?_
  unfold extCmpStr at h
  split at h
  · rename_i a b
    cases h
    refine ⟨rfl, fun ρ w cargs hR hv => ?_⟩
    obtain ⟨x', y', rfl, h1, h2⟩ := two_inv hv
    rw [h1.string_inv, h2.string_inv]
    refine ⟨_, Lib.run_compareString a b w, ?_⟩
    rw [cmpB_eq]
    exact .int
  · cases h

theorem xf_bits (he : Extern.find fn = some Extern.MathFloatBits.float64bits) : XF P f extBits := by
  refine xf_extern hf hname hb hn he fun args S v S' h => ?_
  unfold extBits at h
  split at h
  · rename_i b
    cases h
    refine ⟨rfl, fun ρ w cargs hR hv => ?_⟩
    obtain ⟨x', l1, h1, h2, h3⟩ := hv.cons_inv
    have := h3.nil_inv
    subst this
    have hc : cargs = #[x'] := Array.ext' h1
    subst hc
    rw [h2.float_inv]
    exact ⟨_, rfl, .int⟩
  · cases h
end
end Go.AM
