/- The abstract machine: the types of keys that are aggregates: arrays of scalars. -/
import Derived.Test.YtbfodilaobkjlaaGreatDoorAm35
namespace Go.AM

noncomputable def flatChk (T : Tr TI) (_ : Nat) (ti : TI) : Bool :=
  !ti.flat || match ti.u with
    | .arr n e => (match T.get e with
      | some te => (match te.u with | .str => true | .int _ => true | .bool => true | _ => false) && Nat.beq te.size 1
      | none => false) && Nat.beq ti.size n
    | _ => false

theorem run_range {P : Program} {f : Nat → PUnit → Sem (ForInStep PUnit)} {w : World} : ∀ (l : List Nat), (∀ i ∈ l, (f i ⟨⟩).run P w = .ok (.yield ⟨⟩) w) → (forIn l PUnit.unit f).run P w = .ok ⟨⟩ w := by
  intro l
  induction l with
  | nil => intro _; rfl
  | cons i l ih =>
    intro h
    rw [List.forIn_cons, Sem.run_bind, h i (by simp)]
    exact ih fun j hj => h j (by simp [hj])

section
variable {P : Program} {T : Tr TI} (hT : ∀ t ti, T.get t = some ti → TypeOK P t ti)
include hT

theorem keysOK_of (h : Tr.all (flatChk T) id T = true) : KeysOK P T := by
  intro kt ti hti hfl em a w hsz
  have hto := hT kt ti hti
  have hc := Tr.all_get T id kt ti h hti
  unfold flatChk at hc
  rw [hfl] at hc
  simp only [Bool.not_true, Bool.false_or] at hc
  split at hc
  · rename_i n e hu
    simp only [Bool.and_eq_true] at hc
    obtain ⟨hc1, hc2⟩ := hc
    have hn := Nat.eq_of_beq_eq_true hc2
    split at hc1
    · rename_i te hte
      simp only [Bool.and_eq_true] at hc1
      obtain ⟨hk, hs1⟩ := hc1
      have hs1 := Nat.eq_of_beq_eq_true hs1
      have hteo := hT e te hte
      have hd : ∃ d, P.underlying e = some d ∧ (∀ ms, d ≠ .interface ms) ∧ (∀ n e, d ≠ .array n e) ∧ (∀ fs, d ≠ .struct fs) := by
        split at hk
        · rename_i hx; exact ⟨_, hteo.str hx, by simp, by simp, by simp⟩
        · rename_i hx; exact ⟨_, hteo.int hx, by simp, by simp, by simp⟩
        · rename_i hx; exact ⟨_, hteo.bool hx, by simp, by simp, by simp⟩
        · cases hk
      obtain ⟨d, hd, n1, n2, n3⟩ := hd
      have hag : (isAgg e).run P w = .ok false w := by
        simp only [isAgg, Sem.run_bind, run_underlying hd, Result.andThen_ok]
        cases d <;> first | rfl | (exact absurd rfl (n2 _ _)) | (exact absurd rfl (n3 _))
      have hsize : (sizeOf e).run P w = .ok 1 w := by
        rw [hteo.run_size w, hs1]
      show (Instr.checkKey em (9999 + 1) kt (.agg a)).run P w = _
      unfold Instr.checkKey
      simp only [Sem.run_bind, run_underlying (hto.arr hu), Result.andThen_ok]
      simp only [Std.Legacy.Range.forIn_eq_forIn_range', Std.Legacy.Range.size, Nat.sub_zero, Nat.add_sub_cancel, Nat.div_one]
      rw [run_range]
      · rfl
      · intro i hi
        have hi2 : i < n := by simp [List.mem_range'] at hi; omega
        have hx : a[i * 1]? = some a[i] := by
          rw [Nat.mul_one]; exact Array.getElem?_eq_getElem (by omega)
        have hp : (part e a (i * 1)).run P w = .ok a[i] w := by
          simp only [part, Sem.run_bind, hag, Result.andThen_ok, hx]
          rfl
        have hck : (Instr.checkKey em 9999 e a[i]).run P w = .ok () w := by
          show (Instr.checkKey em (9998 + 1) e a[i]).run P w = _
          unfold Instr.checkKey
          simp only [Sem.run_bind, run_underlying hd, Result.andThen_ok]
          cases d <;> first | rfl | (exact absurd rfl (n1 _)) | (exact absurd rfl (n2 _ _)) | (exact absurd rfl (n3 _))
        simp only [Sem.run_bind, hsize, Result.andThen_ok, hp, hck]
        rfl
    · cases hc1
  · cases hc
end
end Go.AM
