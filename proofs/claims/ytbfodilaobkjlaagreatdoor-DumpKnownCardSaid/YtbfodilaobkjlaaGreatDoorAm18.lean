/- The abstract machine's light operations are the model's: all of them. -/
import Derived.Test.YtbfodilaobkjlaaGreatDoorAm17
namespace Go.AM

theorem times_arr {z : Array Value} {s n : Nat} (hz : z.size = s) (hs : 0 < s) : (Array.range (n * s)).map (fun j => z[j % z.size]!) = ⟨times z.toList n⟩ := by
  apply Array.ext_getElem?
  intro j
  rw [times_eq]
  have : (⟨(List.replicate n z.toList).flatten⟩ : Array Value)[j]? = ((List.replicate n z.toList).flatten)[j]? := by simp
  rw [this, rep_get hz hs]
  by_cases hj : j < n * s
  · rw [if_pos hj, Array.getElem?_eq_getElem (by simpa using hj)]
    simp only [Array.getElem_map, Array.getElem_range, hz]
    have hjm : j % s < z.size := by rw [hz]; exact Nat.mod_lt _ hs
    rw [getElem!_pos z _ hjm, List.getD_eq_getElem?_getD, List.getElem?_eq_getElem (by simpa using hjm)]
    simp
  · rw [if_neg hj, Array.getElem?_eq_none (by simp; omega)]

section
variable {P : Program} {T : Tr TI} {tm : Tr Value} {S S' : AS} {o : Oper} {v : Value}
variable (hT : ∀ t ti, T.get t = some ti → TypeOK P t ti)
include hT

theorem lBuildSlice_ok {t n : Nat} {parts : Array (Nat × Operand)} (ho : o.op = .buildSlice t n parts) (h : lBuildSlice T tm S t n parts = some (v, S')) : LightOK P T tm o S S' v := by
  unfold lBuildSlice at h
  split at h
  · rename_i ti ps hti hps
    have hto := hT t ti hti
    split at h
    · rename_i e hu
      split at h
      · rename_i te hte
        have hteo := hT e te hte
        split at h
        · rename_i cs h1 h2 hf
          have h1 := Nat.le_of_ble_eq_true h1
          have h2 := Nat.le_of_ble_eq_true h2
          simp only [Nat.mul_eq] at h1
          rw [newBlk_eq] at h
          cases h
          refine .inr ⟨_, rfl, rfl, fun ρ S2 w E hR _ hget hnone hop => ?_⟩
          have hpr := evParts_rel (E := E) hps fun x hx => hop x (by rw [ho]; simp only [Op.operands]; simpa using hx)
          obtain ⟨i, z, k1, k2, k3, k4, k5, _⟩ := hteo.info
          have hzs : z.cells.size = te.size := by rw [← Array.length_toList, k5, hteo.zlen]
          have htc : ∀ u ∈ times te.zero n, constOK u = true ∧ isOne u = true := by
            intro u hu2
            rw [times_eq] at hu2
            obtain ⟨l, hl, hul⟩ := List.mem_flatten.1 hu2
            rw [List.eq_of_mem_replicate hl] at hul
            exact hteo.zok u hul
          obtain ⟨r', q1, q2, q3, q4⟩ := fill_rel (place' := fun i => some (i * te.size, te.size)) (fun i x hx => hx) hpr (const_rel fun u hu => (htc u hu).1) (fun u hu => (htc u hu).2) hf
          have hlen : cs.length = n * te.size := by
            rw [q4, times_eq, List.length_flatten, List.map_replicate, List.sum_replicate_nat, hteo.zlen]
          have hmp : (parts.map fun (i, x) => (i, E x)).toList = parts.toList.map fun (i, x) => (i, E x) := by simp
          have hbase : (Array.range (n * te.size)).map (fun j => z.cells[j % z.cells.size]!) = ⟨times te.zero n⟩ := by rw [times_arr hzs h2, k5]
          have hrun : (Instr.buildSlice t n (parts.map fun (i, x) => (i, E x))).run P w = .ok (.slice (some ⟨w.heap.size, 0, none⟩) n n) (w.alloc (.cells ⟨r'⟩ e)) := by
            unfold Instr.buildSlice
            have hsz := hteo.run_size w
            have hz : (zeroValue e).run P w = .ok z w := by simp [zeroValue, typeInfo, k1, k4]
            have hnot : ¬ (n * te.size > 2 ^ 24) := by omega
            by_cases hn0 : n * te.size = 0
            · have hn : n = 0 := by
                rcases Nat.mul_eq_zero.1 hn0 with h3 | h3
                · exact h3
                · omega
              subst hn
              have ht0 : times te.zero 0 = [] := rfl
              rw [ht0] at q1
              simp only [Sem.run_bind, run_underlying (hto.slice hu), Result.andThen_ok, hsz, Nat.zero_mul, hmp]
              rw [if_neg (by decide)]
              simp only [Sem.run_bind, Sem.run_pure, if_true, Result.andThen_ok]
              have harr : (Array.range 0).map (fun x => (#[] : Array Value)[x % (#[] : Array Value).size]!) = ⟨[]⟩ := by apply Array.ext'; simp
              rw [harr, q1]
              simp [newRow]
            · simp only [Sem.run_bind, run_underlying (hto.slice hu), Result.andThen_ok, hsz, if_neg hnot, if_neg hn0, hz, Sem.run_pure, hmp, hbase, q1]
              simp [newRow]
          refine ⟨.cells ⟨r'⟩ e, { cb := w.heap.size, base := 0, ext := len cs, esz := te.size, csz := len cs, fam := S.next, opn := false }, w, .slice (some ⟨w.heap.size, 0, none⟩) n n, rfl, rfl, rfl, rfl, ?_, rfl, rfl, ?_, ?_⟩
          · simp only [execOp, ho]
            rw [Sem.run_bind, hrun]
            rfl
          · exact orel_closed hnone rfl q2 q3
          · exact .slice (r := { cb := w.heap.size, base := 0, ext := len cs, esz := te.size, csz := len cs, fam := S.next, opn := false }) (Rho.put_same _ _ _) (Nat.le_refl _) (by simp only; omega) (by simp only; rw [len_eq, hlen]; omega) (.inl rfl)
        · cases h
      · cases h
    · cases h
  · cases h

theorem light_ok (hK : KeysOK P T) (h : light T tm S o.op = some (v, S')) : LightOK P T tm o S S' v := by
  unfold light lightD at h
  cases ho : o.op <;> rw [ho] at h <;> simp only at h
  case move x => exact lMove_ok (.inl ho) h
  case assign x => exact lMove_ok (.inr ho) h
  case pick c a b => exact lPick_ok ho h
  case alloc t => exact lAlloc_ok hT ho h
  case box t x => exact lBox_ok ho h
  case build t ps => exact lBuild_ok hT ho h
  case buildSlice t n ps => exact lBuildSlice_ok hT ho h
  case load t x => exact lLoad_ok hT ho h
  case nilCheck x => exact lNilCheck_ok ho h
  case binOp op t x y y2 => exact lBinOp_ok hT ho h
  case unOp op t x => exact lUnOp_ok ho h
  case convert s d x => exact lConvert_ok hT ho h
  case makeInterface t x => exact lMakeInterface_ok hT ho h
  case makeFunc fn a b => exact lMakeFunc_ok ho h
  case makeMap t r =>
    cases r with
    | none => exact lMakeMap_ok ho h
    | some r => cases h
  case makeSlice t l c => exact lMakeSlice_ok hT ho h
  case slice t x lo hi mx => exact lSlice_ok hT ho h
  case fieldAddr t x f => exact lFieldAddr_ok hT ho h
  case field t x f => exact lField_ok hT ho h
  case indexAddr t x i => exact lIndexAddr_ok hT ho h
  case index t x i => exact lIndex_ok hT ho h
  case lookup t x k ok => exact lLookup_ok hT hK ho h
  case typeAssert x xt t ok => exact lTypeAssert_ok hT ho h
  case extract x i => exact lExtract_ok ho h
  case call c =>
    unfold lCall at h
    obtain ⟨cal, args, ats⟩ := c
    cases cal with
    | builtin b => exact lCallB_ok hT ho rfl h
    | value f => cases h
    | invoke r m => cases h
  all_goals cases h
end
end Go.AM
