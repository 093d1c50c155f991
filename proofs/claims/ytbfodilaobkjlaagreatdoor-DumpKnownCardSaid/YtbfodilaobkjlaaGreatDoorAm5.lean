/- The abstract machine: an append, wherever it lands. -/
import Derived.Test.YtbfodilaobkjlaaGreatDoorAm4
import Derived.RowKit
namespace Go.AM

section
variable {P : Program} {t u e ty : TypeId} {i : TypeInfo} {z : Value}

theorem run_append_in (ht : P.underlying t = some (.slice e)) (hu : (∃ d, P.underlying u = some (.slice d)) ∨ P.underlying u = some .string) (hi : P.info? e = some i)
    {w w' : World} {x' : Value} {k n c' : Nat} {a : Addr} {vs' : List Value} (hlen : (Builtin.lenOf x').run P w = .ok k w) (hsrc : (Builtin.firstCells i.size k x').run P w = .ok vs'.toArray w)
    (hle : n + k ≤ c') (hst : (storeCells (a.add (n * i.size)) vs').run P w = .ok () w') :
    (Builtin.append_ #[t, u] ty #[.slice (some a) n c', x']).run P w = .ok (.slice (some a) (n + k) c') w' := by
  rcases hu with ⟨d, hu⟩ | hu
  · simp [Builtin.append_, run_underlying ht, run_underlying hu, sizeOf, typeInfo, hi, hlen, hsrc, hle, hst]
  · simp [Builtin.append_, run_underlying ht, run_underlying hu, sizeOf, typeInfo, hi, hlen, hsrc, hle, hst]

theorem run_append_nothing (ht : P.underlying t = some (.slice e)) (hu : (∃ d, P.underlying u = some (.slice d)) ∨ P.underlying u = some .string) (hi : P.info? e = some i)
    {w : World} {x' : Value} {n c' : Nat} {a : Option Addr} (hlen : (Builtin.lenOf x').run P w = .ok 0 w) (hsrc : (Builtin.firstCells i.size 0 x').run P w = .ok #[] w)
    (hle : n ≤ c') : (Builtin.append_ #[t, u] ty #[.slice a n c', x']).run P w = .ok (.slice a n c') w := by
  cases a with
  | none =>
    rcases hu with ⟨d, hu⟩ | hu
    · simp [Builtin.append_, run_underlying ht, run_underlying hu, sizeOf, typeInfo, hi, hlen, hsrc, hle]
    · simp [Builtin.append_, run_underlying ht, run_underlying hu, sizeOf, typeInfo, hi, hlen, hsrc, hle]
  | some a =>
    rcases hu with ⟨d, hu⟩ | hu
    · simp [Builtin.append_, run_underlying ht, run_underlying hu, sizeOf, typeInfo, hi, hlen, hsrc, hle, storeCells]
    · simp [Builtin.append_, run_underlying ht, run_underlying hu, sizeOf, typeInfo, hi, hlen, hsrc, hle, storeCells]

theorem run_append_out (ht : P.underlying t = some (.slice e)) (hu : (∃ d, P.underlying u = some (.slice d)) ∨ P.underlying u = some .string) (hi : P.info? e = some i) (hz : i.zero = some z)
    {w : World} {x' : Value} {k n c' : Nat} {a : Option Addr} {olds vs' : List Value} (hlen : (Builtin.lenOf x').run P w = .ok k w)
    (hsrc : (Builtin.firstCells i.size k x').run P w.drew = .ok vs'.toArray w.drew)
    (hold : (Builtin.firstCells i.size n (.slice a n c')).run P w.drew = .ok olds.toArray w.drew)
    (hgt : c' < n + k) (h63 : n + k ≤ 4294967296) (h48 : (n + k) * i.bytes ≤ 4294967296) :
    (Builtin.append_ #[t, u] ty #[.slice a n c', x']).run P w = .ok (.slice (some ⟨w.heap.size, 0, none⟩) (n + k) (grownCap w (n + k) c' e))
      (w.drew.alloc (.cells (olds.toArray ++ vs'.toArray ++ Builtin.zeroCells z.cells (grownCap w (n + k) c' e - (n + k))) e)) := by
  have hn : ¬ (n + k ≤ c') := by omega
  have h63' : ¬ (9223372036854775807 < ((n : Int) + (k : Int))) := by omega
  have hcap := nextslicecap_le (need := n + k) (old := c') hgt
  have h48' : ¬ (281474976710656 < Builtin.nextslicecap (n + k) c' * i.bytes) := by
    have := Nat.mul_le_mul_right i.bytes hcap
    rw [Nat.mul_assoc] at this
    omega
  rcases hu with ⟨d, hu⟩ | hu
  · simp [Builtin.append_, run_underlying ht, run_underlying hu, sizeOf, typeInfo, zeroValue, hi, hz, hlen, hn, h63', h48', Question.forced, hsrc, hold, newRow, grownCap]
    congr 2
    apply Array.ext'
    simp [List.append_assoc]
  · simp [Builtin.append_, run_underlying ht, run_underlying hu, sizeOf, typeInfo, zeroValue, hi, hz, hlen, hn, h63', h48', Question.forced, hsrc, hold, newRow, grownCap]
    congr 2
    apply Array.ext'
    simp [List.append_assoc]
end
end Go.AM
