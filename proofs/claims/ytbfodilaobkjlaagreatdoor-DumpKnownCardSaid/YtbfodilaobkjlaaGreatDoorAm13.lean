/- The abstract machine's light operations are the model's: places and pieces. -/
import Derived.Test.YtbfodilaobkjlaaGreatDoorAm12
import Derived.Laws.MakeOwn
namespace Go.AM

theorem chkFs_get {P : Program} : ∀ {fs : List (Nat × Nat × Bool)} {gs : List Field} {i d n : Nat} {g : Bool}, chkFs P fs gs = true → fs[i]? = some (d, n, g) →
    ∃ f inf, gs[i]? = some f ∧ f.offset = d ∧ P.info? f.type = some inf ∧ inf.size = n ∧ g = aggOf P f.type ∧ (P.underlying f.type).isSome = true := by
  intro fs
  induction fs with
  | nil => intro gs i d n g _ h; simp at h
  | cons a fs ih =>
    intro gs i d n g h hi
    obtain ⟨a1, a2, a3⟩ := a
    cases gs with
    | nil => simp [chkFs] at h
    | cons f gs =>
      simp only [chkFs, Bool.and_eq_true, beq_iff_eq] at h
      obtain ⟨⟨⟨⟨h1, h2⟩, h3⟩, h5⟩, h4⟩ := h
      cases i with
      | zero =>
        simp at hi
        obtain ⟨rfl, rfl, rfl⟩ := hi
        split at h2
        · rename_i inf hinf
          exact ⟨f, inf, rfl, (Nat.eq_of_beq_eq_true h1).symm, hinf, (Nat.eq_of_beq_eq_true h2).symm, h3, h5⟩
        · cases h2
      | succ i =>
        simp at hi
        obtain ⟨f', inf, g1, g2⟩ := ih h4 hi
        exact ⟨f', inf, by simpa using g1, g2⟩

theorem TypeOK.strct {P : Program} {t : TypeId} {ti : TI} (h : TypeOK P t ti) {fs : List (Nat × Nat × Bool)} (hu : ti.u = .strct fs) : ∃ fields : Array Field, P.underlying t = some (.struct fields) ∧ chkFs P fs fields.toList = true := by
  have := h.u; rw [hu] at this; unfold chkU at this; simp only at this
  split at this
  · rename_i fields he; exact ⟨fields, he, this⟩
  · cases this

section
variable {P : Program} {T : Tr TI} {tm : Tr Value} {S S' : AS} {o : Oper} {v : Value}
variable (hT : ∀ t ti, T.get t = some ti → TypeOK P t ti)
include hT

theorem lFieldAddr_ok {t : Nat} {x : Operand} {f : Nat} (ho : o.op = .fieldAddr t x f) (h : lFieldAddr T tm S t x f = some (v, S')) : LightOK P T tm o S S' v := by
  unfold lFieldAddr at h
  split at h
  · rename_i b oo ti hx hti
    have hto := hT t ti hti
    split at h
    · rename_i fs hu
      split at h
      · rename_i d n g hf
        rw [nth_eq] at hf
        obtain ⟨fields, hd, hck⟩ := hto.strct hu
        obtain ⟨fl, inf, g1, g2, g3, g4, g5⟩ := chkFs_get hck hf
        split at h
        · cases h
        · rename_i k
          cases h
          refine .inl ⟨rfl, fun ρ S2 w E _ _ hop => ?_⟩
          obtain ⟨cx, hcx, hp⟩ := hop.at (x := x) (by rw [ho]; simp [Op.operands]) hx
          cases hp with
          | same hc => simp [constOK] at hc
          | @ptr _ _ r hb =>
            refine ⟨.pointer (some (r.at (oo + d))), ?_, .ptr hb⟩
            have hff : fields[f]? = some fl := by simpa using g1
            have hadd := add_at r oo d
            simp only [RI.at] at hadd ⊢
            simp [execOp, ho, hcx, Instr.fieldAt, run_underlying hd, hff, Instr.sureAddr, fieldPlace, sizeOf, typeInfo, g3, g4, g2, hadd]
      · cases h
    · cases h
  · cases h

theorem lIndexAddr_ok {t : Nat} {x i : Operand} (ho : o.op = .indexAddr t x i) (h : lIndexAddr T tm S t x i = some (v, S')) : LightOK P T tm o S S' v := by
  unfold lIndexAddr at h
  split at h
  · rename_i b oo n c k iv ti hx hi hti
    have hto := hT t ti hti
    split at h
    · rename_i e hu
      split at h
      · rename_i te hte hle
        cases h
        have hle : iv < n := Nat.le_of_ble_eq_true hle
        have hteo := hT e te hte
        refine .inl ⟨rfl, fun ρ S2 w E _ _ hop => ?_⟩
        obtain ⟨cx, hcx, hp⟩ := hop.at (x := x) (by rw [ho]; simp [Op.operands]) hx
        obtain ⟨ci, hci, hq⟩ := hop.at (x := i) (by rw [ho]; simp [Op.operands]) hi
        obtain rfl := hq.int_inv
        cases hp with
        | same hc => simp [constOK] at hc
        | slice0 hb he => omega
        | @slice _ _ _ _ c' r hb hn he hc hcap =>
          refine ⟨.pointer (some (r.at (oo + iv * te.size))), ?_, .ptr hb⟩
          have hadd := add_at r oo (iv * te.size)
          have hsz := hteo.run_size w
          have hcond : (0 ≤ (Int.ofNat iv)) ∧ (Int.ofNat iv) < (n : Int) := by simp; omega
          simp only [RI.at] at hadd ⊢
          simp [execOp, ho, hcx, hci, Instr.indexAt, asIntOf, run_underlying (hto.slice hu), hsz, hadd, hle]
      · cases h
    · cases h
  · rename_i b oo k iv ti hx hi hti
    have hto := hT t ti hti
    split at h
    · rename_i n e hu
      split at h
      · rename_i te hte hle
        cases h
        have hle : iv < n := Nat.le_of_ble_eq_true hle
        have hteo := hT e te hte
        refine .inl ⟨rfl, fun ρ S2 w E _ _ hop => ?_⟩
        obtain ⟨cx, hcx, hp⟩ := hop.at (x := x) (by rw [ho]; simp [Op.operands]) hx
        obtain ⟨ci, hci, hq⟩ := hop.at (x := i) (by rw [ho]; simp [Op.operands]) hi
        obtain rfl := hq.int_inv
        cases hp with
        | same hc => simp [constOK] at hc
        | @ptr _ _ r hb =>
          refine ⟨.pointer (some (r.at (oo + iv * te.size))), ?_, .ptr hb⟩
          have hadd := add_at r oo (iv * te.size)
          have hsz := hteo.run_size w
          simp only [RI.at] at hadd ⊢
          simp [execOp, ho, hcx, hci, Instr.indexAt, asIntOf, run_underlying (hto.arr hu), Instr.sureAddr, hsz, hadd, hle]
      · cases h
    · cases h
  · cases h

theorem lMakeSlice_ok {t : Nat} {l c : Operand} (ho : o.op = .makeSlice t l c) (h : lMakeSlice T tm S t l c = some (v, S')) : LightOK P T tm o S S' v := by
  unfold lMakeSlice at h
  split at h
  · rename_i n m ti hl hc hti
    have hto := hT t ti hti
    split at h
    · rename_i e hu
      split at h
      · rename_i te hte
        have hteo := hT e te hte
        split at h
        · rename_i h1 h2 h3 h4
          have h4 := Nat.le_of_ble_eq_true h4
          have h1 := Nat.le_of_ble_eq_true h1
          have h2 := Nat.le_of_ble_eq_true h2
          have h3 := Nat.le_of_ble_eq_true h3
          rw [newBlk_eq] at h
          cases h
          refine .inr ⟨_, rfl, rfl, fun ρ S2 w E hR _ hget hnone hop => ?_⟩
          obtain ⟨cx, hcx, hp⟩ := hop.at (x := l) (by rw [ho]; simp [Op.operands]) hl
          obtain ⟨cy, hcy, hq⟩ := hop.at (x := c) (by rw [ho]; simp [Op.operands]) hc
          obtain rfl := hp.int_inv
          obtain rfl := hq.int_inv
          obtain ⟨i, z, k1, k2, k3, k4, k5, _⟩ := hteo.info
          have hrun := run_make (P := P) w t e i z (hto.slice hu) k1 k4 .i64 .i64 (Int.ofNat n) (Int.ofNat m) (by simp) (by simp; omega) (by simp only [Int.ofNat_eq_natCast, k3]; simp only [Nat.mul_eq] at h2; omega) (by simp; omega)
          simp only [Int.ofNat_eq_natCast, Int.toNat_natCast] at hrun
          refine ⟨.cells (madeCells z.cells (m * i.size)) e, { cb := w.heap.size, base := 0, ext := m * te.size, esz := te.size, csz := m * te.size, fam := S.next, opn := false }, w, .slice (some ⟨w.heap.size, 0, none⟩) n m, rfl, rfl, rfl, rfl, ?_, rfl, rfl, ?_, ?_⟩
          · simp only [execOp, ho, hcx, hcy, Int.ofNat_eq_natCast]
            rw [Sem.run_bind, hrun]
            rfl
          · have hzl := hteo.zlen
            refine ⟨rfl, rfl, rfl, rfl, by simp only; omega, madeCells z.cells (m * i.size), e, 0, 0, alloc_get_new _ _, by simp only [size_madeCells, k2], .inl (Nat.le_refl _), fun _ j hj => ?_⟩
            simp only [Nat.mul_eq] at hj
            have hjm : j % te.size < te.zero.length := by rw [hzl]; exact Nat.mod_lt _ (by omega)
            refine ⟨te.zero[j % te.size], te.zero[j % te.size], ?_, ?_, .same (hteo.zok _ (List.getElem_mem hjm)).1, (hteo.zok _ (List.getElem_mem hjm)).2⟩
            · unfold ABlk.cell
              simp only [Tr.get_leaf, nth_eq]
              rw [show Nat.mod j te.size = j % te.size from rfl, List.getElem?_eq_getElem hjm]
            · simp only [Nat.zero_add]
              unfold madeCells
              have hzs : z.cells.size = te.size := by rw [← Array.length_toList, k5, hzl]
              have hjj : j < m * i.size := by rw [k2]; exact hj
              rw [Array.getElem?_eq_getElem (by simpa using hjj)]
              simp only [Array.getElem_map, Array.getElem_range, hzs]
              congr 1
              have hj2 : j % te.size < z.cells.size := by rw [hzs]; rw [hzl] at hjm; exact hjm
              rw [getElem!_pos z.cells _ hj2]
              have : z.cells.toList[j % te.size]? = te.zero[j % te.size]? := by rw [k5]
              rw [List.getElem?_eq_getElem hjm] at this
              simp only [Array.getElem?_toList, Array.getElem?_eq_getElem hj2] at this
              exact Option.some.inj this
          · exact .slice (r := { cb := w.heap.size, base := 0, ext := m * te.size, esz := te.size, csz := m * te.size, fam := S.next, opn := false }) (Rho.put_same _ _ _) h1 (by simp only; omega) (by simp only; omega) (.inl rfl)
        · cases h
      · cases h
    · cases h
  · cases h
end
end Go.AM
