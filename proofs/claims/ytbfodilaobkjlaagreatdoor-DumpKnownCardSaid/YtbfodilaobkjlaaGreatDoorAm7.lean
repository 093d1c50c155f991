/- The abstract machine: the append is the model's. -/
import Derived.Test.YtbfodilaobkjlaaGreatDoorAm6
namespace Go.AM

theorem isOpen_true {B : ABlk} {o c : Nat} (h : isOpen B o c = true) : B.opn = true ∧ o + c * B.esz = B.ext := by
  unfold isOpen at h
  split at h
  · rename_i ho; exact ⟨ho, Nat.eq_of_beq_eq_true h⟩
  · cases h
theorem isOpen_false {B : ABlk} {o c : Nat} (h : isOpen B o c = false) (ho : B.opn = true) : o + c * B.esz ≠ B.ext := by
  unfold isOpen at h
  rw [ho] at h
  exact Nat.ne_of_beq_eq_false h

theorem zeroCells_size (z : Array Value) (n : Nat) : (Builtin.zeroCells z n).size = n * z.size := by simp [Builtin.zeroCells]

/-- The moved half: the new block of the model. -/
theorem moved_sim {ρ : Rho} {S : AS} {w : World} (hR : Rel ρ S w) {m : Nat} {B : ABlk} (hm : ρ m = none) (hO : S.heap.get m = some (.blk B)) {all all' rest : List Value} (hB : NewCells B all)
    (hv : VsRel ρ all all') (h1 : ∀ v ∈ all, isOne v = true) {e : TypeId} {need cap : Nat} (hext : B.ext = need * B.esz) (hcap : need ≤ cap) (hpos : 0 < B.esz) (hopn : B.opn = true)
    (hrest : rest.length = (cap - need) * B.esz) :
    ∃ r : RI, r.cb = w.heap.size ∧ r.fam = B.fam ∧ Rel (ρ.put m r) S (w.alloc (.cells (all' ++ rest).toArray e)) ∧
      VRel (ρ.put m r) (.slice (some ⟨m, 0, none⟩) need need) (.slice (some ⟨w.heap.size, 0, none⟩) need cap) := by
  have hl : all.length = need * B.esz := by rw [← hB.ext]; exact hext
  have hl' : all'.length = need * B.esz := by rw [← hv.1]; exact hl
  have hmul : need * B.esz ≤ cap * B.esz := Nat.mul_le_mul_right _ hcap
  have hsz : (all' ++ rest).length = cap * B.esz := by
    rw [List.length_append, hl', hrest, Nat.sub_mul]; omega
  refine ⟨{ cb := w.heap.size, base := 0, ext := B.ext, esz := B.esz, csz := cap * B.esz, fam := B.fam, opn := B.opn }, rfl, rfl, ?_, ?_⟩
  · refine rel_real hR hm hO rfl (fun b x hb => by have := hR.cb_lt hb; simp only; omega) ?_
    refine orel_new (all := all) (all' := all') hB (hv.mono (Rho.le_put _ hm)) h1 rfl rfl rfl rfl (by simp only; omega) (lo := 0) (hi := 0) (c := (all' ++ rest).toArray) (e := e) ?_ (by simp only [List.size_toArray]; exact hsz) (.inl (Nat.le_refl _)) ?_
    · exact alloc_get_new _ _
    · intro j v hj
      have hlt : j < all'.length := (List.getElem?_eq_some_iff.1 hj).1
      simp only [Nat.zero_add, List.getElem?_toArray]
      rw [List.getElem?_append_left hlt]; exact hj
  · have := VRel.slice (ρ := ρ.put m { cb := w.heap.size, base := 0, ext := B.ext, esz := B.esz, csz := cap * B.esz, fam := B.fam, opn := B.opn }) (b := m) (o := 0) (n := need) (c := need) (c' := cap)
      (Rho.put_same _ _ _) (Nat.le_refl _) hpos (by simp only; omega) (.inr ⟨hopn, by simp only; omega, hcap, by simp only; omega⟩)
    simpa using this

section
variable {P : Program} {t u e ty : TypeId} {i : TypeInfo} {z : Value}

theorem append_sim (ht : P.underlying t = some (.slice e)) (hu : (∃ d, P.underlying u = some (.slice d)) ∨ P.underlying u = some .string) (hi : P.info? e = some i) (hz : i.zero = some z)
    (hzs : z.cells.size = i.size) (hpos : 0 < i.size) {ρ : Rho} {S S1 : AS} {w : World} (hR : Rel ρ S w) {s s' x' v : Value} (hs : VRel ρ s s') {k : Nat} {vs vs' : List Value} (hv : VsRel ρ vs vs')
    (h1 : ∀ v ∈ vs, isOne v = true) (hlen : vs.length = k * i.size) (hlx : (Builtin.lenOf x').run P w = .ok k w)
    (hsrc : ∀ w2 : World, w2.heap = w.heap → (Builtin.firstCells i.size k x').run P w2 = .ok vs'.toArray w2)
    (hbig : ∀ a n c, s = .slice a n c → 4 * (k + n) * (i.bytes + 1) ≤ 4294967296) (h : appendV S s i.size k vs = some (v, S1)) :
    ∃ w' v' ρ', (Builtin.append_ #[t, u] ty #[s', x']).run P w = .ok v' w' ∧ Rel ρ' S1 w' ∧ Ext ρ S w ρ' S1 w' ∧ VRel ρ' v v' := by
  unfold appendV at h
  simp only [Nat.add_eq, Nat.mul_eq, Nat.succ_eq_add_one] at h
  split at h
  case h_2 => cases h
  rename_i a n c
  have hbg := hbig a n c rfl
  have hb1 : n + k ≤ 4294967296 := by
    have : (k + n) * 1 ≤ 4 * (k + n) * (i.bytes + 1) := Nat.mul_le_mul (by omega) (by omega)
    omega
  have hb2 : (n + k) * i.bytes ≤ 4294967296 := by
    have : (n + k) * i.bytes ≤ 4 * (k + n) * (i.bytes + 1) := Nat.mul_le_mul (by omega) (by omega)
    omega
  have hd : w.drew.heap = w.heap := rfl
  split at h
  · -- within the room
    rename_i hle
    have hle := Nat.le_of_ble_eq_true hle
    split at h
    · -- nothing
      cases h
      have hvs : vs' = [] := by
        have := hv.1; rw [hlen] at this; simp at this; exact List.eq_nil_of_length_eq_zero this.symm
      subst hvs
      have hs0 := hsrc w rfl
      cases hs with
      | same hc =>
        exact ⟨w, _, ρ, run_append_nothing ht hu hi hlx hs0 (by omega), hR, Ext.refl _ _ _, .same hc⟩
      | slice hb hn he hc hcap =>
        exact ⟨w, _, ρ, run_append_nothing ht hu hi hlx hs0 (by omega), hR, Ext.refl _ _ _, .slice hb hn he hc hcap⟩
      | slice0 hb he => exact ⟨w, _, ρ, run_append_nothing ht hu hi hlx hs0 (by omega), hR, Ext.refl _ _ _, .slice0 hb he⟩
    · rename_i k
      split at h
      · cases h
      · rename_i b o
        split at h
        · rename_i S2 hst
          cases h
          cases hs with
          | same hc => simp [constOK] at hc
          | slice0 hb he => omega
          | @slice b o n c c' r hb hn he hc hcap =>
            obtain ⟨b', o', B, heq, hB, htip, hle2, _⟩ := storeN_some hst
            cases heq
            obtain ⟨w', g1, g2, g3⟩ := store_sim hR hb hv h1 hst
            refine ⟨w', _, ρ, run_append_in ht hu hi hlx (hsrc w rfl) (by omega) (?_ : (storeCells ((r.at o).add (n * i.size)) vs').run P w = .ok () w'), g2, g3, ?_⟩
            · rw [add_at]; exact g1 P
            · exact .slice hb hle he hc hcap
        · cases h
      · cases h
  · rename_i hle
    have hgt : c < n + k := by
      rcases Nat.lt_or_ge c (n + k) with h2 | h2
      · exact h2
      · rw [Nat.ble_eq_true_of_le h2] at hle; cases hle
    split at h
    · -- nil
      cases h
      have hnc : n = 0 ∧ c = 0 := by
        cases hs with
        | same hc =>
          unfold constOK at hc
          split at hc <;> simp_all
      obtain ⟨rfl, rfl⟩ := hnc
      have hs' : s' = .slice none 0 0 := by cases hs; rfl
      subst hs'
      have hrun := run_append_out (P := P) (ty := ty) ht hu hi hz (k := k) (n := 0) (c' := 0) (a := none) (olds := []) hlx (hsrc w.drew rfl) (by simp [Builtin.firstCells]) hgt hb1 hb2
      have hR2 := rel_more (drew_rel hR) (O := .blk { ext := k * i.size, esz := i.size, opn := true, fam := S.next, per := Nat.succ (len vs), zeros := vs, cells := .leaf }) rfl
      have hg := grownCap_ge w (0 + k) 0 e
      obtain ⟨r, e1, e2, e3, e4⟩ := moved_sim (e := e) (all := vs) (all' := vs') (need := k) (cap := grownCap w (0 + k) 0 e) (rest := (Builtin.zeroCells z.cells (grownCap w (0 + k) 0 e - (0 + k))).toList)
        hR2 (m := S.next) hR.new_none (Tr.get_set _ _ _) (newCells_list vs i.size S.next (k * i.size) true hlen.symm) hv h1 rfl (by omega) hpos rfl
        (by rw [Array.length_toList, zeroCells_size, hzs, Nat.zero_add])
      have harr : (vs' ++ (Builtin.zeroCells z.cells (grownCap w (0 + k) 0 e - (0 + k))).toList).toArray = ([] : List Value).toArray ++ vs'.toArray ++ Builtin.zeroCells z.cells (grownCap w (0 + k) 0 e - (0 + k)) := by
        apply Array.ext'; simp
      rw [harr] at e3
      refine ⟨_, _, ρ.put S.next r, hrun, e3, ?_, ?_⟩
      · have hx := ext_more (Ext.refl ρ S w) (.blk { ext := k * i.size, esz := i.size, opn := true, fam := S.next, per := Nat.succ (len vs), zeros := vs, cells := .leaf })
        exact ext_real (w := w.drew) (hx.of_heap rfl rfl rfl rfl) (n := S.next) (r := r) _ hR.new_none (Nat.le_refl _) e1 (.inl (by rw [e2]; exact Nat.le_refl _))
      · rw [Nat.zero_add]
        rw [Nat.zero_add] at e4
        exact e4
    · rename_i b o
      split at h
      · cases h
      · rename_i B hB
        obtain ⟨hh, ha⟩ := getBlk_some hB
        split at h
        case h_2 => cases h
        rename_i hesz hfit
        have hesz := Nat.eq_of_beq_eq_true hesz
        have hfit := Nat.le_of_ble_eq_true hfit
        -- the old cells
        have hold : ∀ old, cellsFrom B (n * i.size) o = some old → ∀ w2 : World, w2.heap = w.heap → ∀ a' c', s' = .slice a' n c' →
            ∃ old', VsRel ρ old old' ∧ (∀ v ∈ old, isOne v = true) ∧ old.length = n * i.size ∧ (Builtin.firstCells i.size n (.slice a' n c')).run P w2 = .ok old'.toArray w2 := by
          intro old ho w2 hw2 a' c' he
          subst he
          cases hs with
          | same hc => simp [constOK] at hc
          | slice0 hb he =>
            have : old = [] := by have := (cellsFrom_spec _ _ _ _ ho).1; simpa using this
            subst this
            exact ⟨[], VsRel.nil, by simp, by simp, by simp [Builtin.firstCells, loadCells, loadCellsFrom]⟩
          | slice hb hn he hc hcap =>
            have hld : loadN S ⟨b, o, none⟩ (n * i.size) = some old := by
              unfold loadN
              simp only [hB, Nat.add_eq, Nat.ble_eq_true_of_le hfit]
              exact ho
            obtain ⟨l', g1, g2, g3, g4, _⟩ := loadN_run (hR.of_heap hw2) hb hld
            exact ⟨l', g1, g2, by rw [(cellsFrom_spec _ _ _ _ ho).1], g4 P⟩
        split at h
        · -- closed: it moves
          rename_i hop
          split at h
          · cases h
          · rename_i old ho
            cases h
            obtain ⟨a', c', hs'⟩ : ∃ a' c', s' = .slice a' n c' := by cases hs <;> exact ⟨_, _, rfl⟩
            subst hs'
            obtain ⟨old', q1, q2, q3, q4⟩ := hold old ho w.drew rfl a' c' rfl
            have hcc : c' = c := by
              cases hs with
              | same hc => rfl
              | slice0 hb he => rfl
              | slice hb hn he hc hcap =>
                rcases hcap with hcap | ⟨p1, p2, p3, p4⟩
                · exact hcap
                · obtain ⟨O, hO, hrel⟩ := hR.obj _ _ hb
                  rw [hh] at hO; cases hO
                  obtain ⟨f1, f2, f3, _⟩ := hrel
                  have hne := isOpen_false hop (f3.trans p1)
                  rw [f2, f1] at hne
                  exact absurd p2 hne
            subst hcc
            have hrun := run_append_out (P := P) (ty := ty) ht hu hi hz (olds := old') hlx (hsrc w.drew rfl) q4 hgt hb1 hb2
            have hall : (app old vs).length = (n + k) * i.size := by rw [app_eq, List.length_append, q3, hlen, Nat.add_mul]
            have hR2 := rel_more (drew_rel hR) (O := .blk { ext := (n + k) * i.size, esz := i.size, opn := true, fam := S.next, per := Nat.succ (len (app old vs)), zeros := app old vs, cells := .leaf }) rfl
            have hg := grownCap_ge w (n + k) c' e
            obtain ⟨r, e1, e2, e3, e4⟩ := moved_sim (e := e) (all := app old vs) (all' := old' ++ vs') (need := n + k) (cap := grownCap w (n + k) c' e) (rest := (Builtin.zeroCells z.cells (grownCap w (n + k) c' e - (n + k))).toList)
              hR2 (m := S.next) hR.new_none (Tr.get_set _ _ _) (newCells_list (app old vs) i.size S.next ((n + k) * i.size) true hall.symm) (by rw [app_eq]; exact q1.append hv)
              (by rw [app_eq]; intro x hx; exact (List.mem_append.1 hx).elim (q2 x) (h1 x)) rfl hg hpos rfl
              (by rw [Array.length_toList, zeroCells_size, hzs])
            have harr : (old' ++ vs' ++ (Builtin.zeroCells z.cells (grownCap w (n + k) c' e - (n + k))).toList).toArray = old'.toArray ++ vs'.toArray ++ Builtin.zeroCells z.cells (grownCap w (n + k) c' e - (n + k)) := by
              apply Array.ext'; simp
            rw [harr] at e3
            refine ⟨_, _, ρ.put S.next r, hrun, e3, ?_, e4⟩
            have hx := ext_more (Ext.refl ρ S w) (.blk { ext := (n + k) * i.size, esz := i.size, opn := true, fam := S.next, per := Nat.succ (len (app old vs)), zeros := app old vs, cells := .leaf })
            exact ext_real (w := w.drew) (hx.of_heap rfl rfl rfl rfl) (n := S.next) (r := r) _ hR.new_none (Nat.le_refl _) e1 (.inl (by rw [e2]; exact Nat.le_refl _))
        · -- open: it may move, or not
          rename_i hop
          obtain ⟨ho1, ho2⟩ := isOpen_true hop
          rw [hesz] at ho2
          split at h
          · cases h
          · rename_i htip
            rw [tip_def] at htip
            have htip := Nat.eq_of_beq_eq_true htip
            -- the block is one of the model's
            obtain ⟨r, hb, a', c', hs', hcase⟩ : ∃ r, ρ b = some r ∧ ∃ a' c', s' = .slice (some a') n c' ∧ ((c' = 0 ∧ n = 0) ∨ (a' = r.at o ∧ n ≤ c ∧ (c' = c ∨ (c ≤ c' ∧ r.base + o + c' * r.esz ≤ r.csz)))) := by
              cases hs with
              | same hc => simp [constOK] at hc
              | slice0 hb he => exact ⟨_, hb, _, _, rfl, .inl ⟨rfl, rfl⟩⟩
              | slice hb hn he hc hcap =>
                refine ⟨_, hb, _, _, rfl, .inr ⟨rfl, hn, ?_⟩⟩
                rcases hcap with hcap | ⟨p1, p2, p3, p4⟩
                · exact .inl hcap
                · exact .inr ⟨p3, p4⟩
            obtain ⟨O, hO, hrel⟩ := hR.obj _ _ hb
            rw [hh] at hO; cases hO
            have hrel0 := hrel
            obtain ⟨f1, f2, f3, f4, f5, c0, e0, lo, hi0, hw, hsz, hfz, hC⟩ := hrel
            have hC := hC ha
            obtain ⟨old, hold1⟩ : ∃ old, cellsFrom B (n * i.size) o = some old := by
              have : ∀ (q p : Nat), p + q ≤ B.ext → ∃ l, cellsFrom B q p = some l := by
                intro q
                induction q with
                | zero => intro p _; exact ⟨[], rfl⟩
                | succ q ih =>
                  intro p hp
                  obtain ⟨x, x', g1, _⟩ := hC p (by omega)
                  obtain ⟨l, hl⟩ := ih (p + 1) (by omega)
                  refine ⟨x :: l, ?_⟩
                  have e : cellsFrom B (q + 1) p = match B.cell p with
                    | none => none
                    | some v => match cellsFrom B q (p + 1) with
                      | none => none
                      | some l => some (v :: l) := rfl
                  rw [e, g1, hl]
              exact this _ _ hfit
            obtain ⟨hlo, hgo⟩ := cellsFrom_spec _ _ _ _ hold1
            have hall : (old ++ vs).length = (n + k) * i.size := by rw [List.length_append, hlo, hlen, Nat.add_mul]
            obtain ⟨B', fr, hB', hfam', hesz', hopn', hext', hfr, hv1, hS1⟩ : ∃ (B' : ABlk) (fr : Nat), NewCells B' (old ++ vs) ∧ B'.fam = B.fam ∧ B'.esz = i.size ∧ B'.opn = true ∧ B'.ext = (n + k) * i.size ∧
                (fr = (tipOf S B'.fam).2 ∧ n = c ∨ fr = S.next) ∧ v = .slice (some ⟨S.next, 0, none⟩) (n + k) (n + k) ∧ S1 = S.grow B' fr := by
              have hfr : ∀ F, F = B.fam → ((match n.beq c with | true => (tipOf S B.fam).2 | false => S.next) = (tipOf S F).2 ∧ n = c ∨ (match n.beq c with | true => (tipOf S B.fam).2 | false => S.next) = S.next) := by
                intro F hF
                subst hF
                cases hnc : n.beq c with
                | true => exact .inl ⟨rfl, Nat.eq_of_beq_eq_true hnc⟩
                | false => exact .inr rfl
              cases o with
              | zero =>
                simp only at h
                cases h
                refine ⟨{ ext := (n + k) * i.size, esz := i.size, opn := true, fam := B.fam, per := B.per, zeros := B.zeros, cells := putCells vs (n * i.size) B.cells }, _, ⟨hall.symm, ?_⟩, rfl, rfl, rfl, rfl, hfr _ rfl, rfl, rfl⟩
                intro j hj
                unfold ABlk.cell
                simp only
                rw [get_putCells]
                by_cases hjn : n * i.size ≤ j
                · rw [if_pos (by rw [List.length_append] at hj; omega), List.getElem?_append_right (by omega), hlo]
                  rw [List.getElem?_eq_getElem (by rw [List.length_append] at hj; omega)]
                · rw [if_neg (by omega), List.getElem?_append_left (by omega), ← hgo j (by omega), Nat.zero_add]
                  rfl
              | succ o' =>
                simp only at h
                rw [hold1] at h
                cases h
                have := newCells_list (app old vs) i.size B.fam ((n + k) * i.size) true (by rw [app_eq]; exact hall.symm)
                rw [app_eq] at this
                refine ⟨{ ext := (n + k) * i.size, esz := i.size, opn := true, fam := B.fam, per := Nat.succ (len (app old vs)), zeros := app old vs, cells := .leaf }, _, ?_, rfl, rfl, rfl, rfl, hfr _ rfl, rfl, rfl⟩
                rw [app_eq]
                exact this
            subst hv1 hS1
            have hfr' : fr = (tipOf S B'.fam).2 ∨ fr = S.next := hfr.imp And.left id
            have hF : B'.fam < S.next := by rw [hfam']; have := (hR.fam b B hh).1; have := hR.lt hb; omega
            have hR2 := rel_grow hR (B := B') (fr := fr) hF hfr'
            have hx := ext_grow (w := w) hR (B := B') (fr := fr) hb (hfam'.trans f4)
            have hget : (S.grow B' fr).heap.get S.next = some (.blk B') := Tr.get_set _ _ _
            have hallone : ∀ v ∈ old ++ vs, isOne v = true := by
              intro x hx2
              rcases List.mem_append.1 hx2 with h2 | h2
              · obtain ⟨j, hj⟩ := List.getElem?_of_mem h2
                have hjl : j < n * i.size := by have := (List.getElem?_eq_some_iff.1 hj).1; omega
                obtain ⟨y, y', g1, _, _, g4⟩ := hC (o + j) (by omega)
                rw [hgo j hjl, hj] at g1
                cases g1
                exact g4
              · exact h1 _ h2
            subst hs'
            rcases Nat.lt_or_ge c' (n + k) with hlt | hge
            · -- it moves
              obtain ⟨old', q1, q2, q3, q4⟩ := hold old hold1 w.drew rfl (some a') c' rfl
              have hrun := run_append_out (P := P) (ty := ty) ht hu hi hz (olds := old') hlx (hsrc w.drew rfl) q4 hlt hb1 hb2
              have hg := grownCap_ge w (n + k) c' e
              obtain ⟨r', e1, e2, e3, e4⟩ := moved_sim (e := e) (all := old ++ vs) (all' := old' ++ vs') (need := n + k) (cap := grownCap w (n + k) c' e) (rest := (Builtin.zeroCells z.cells (grownCap w (n + k) c' e - (n + k))).toList)
                (drew_rel hR2) (m := S.next) hR.new_none hget hB' (q1.append hv) hallone (by rw [hext', hesz']) hg (by rw [hesz']; exact hpos) hopn' (by rw [Array.length_toList, zeroCells_size, hzs, hesz'])
              have harr : (old' ++ vs' ++ (Builtin.zeroCells z.cells (grownCap w (n + k) c' e - (n + k))).toList).toArray = old'.toArray ++ vs'.toArray ++ Builtin.zeroCells z.cells (grownCap w (n + k) c' e - (n + k)) := by
                apply Array.ext'; simp
              rw [harr] at e3
              exact ⟨_, _, ρ.put S.next r', hrun, e3, ext_real (w := w.drew) (hx.of_heap rfl rfl rfl rfl) (n := S.next) (r := r') _ hR.new_none (Nat.le_refl _) e1 (.inr ⟨b, r, hb, by rw [e2, hfam', f4]⟩), e4⟩
            · -- in its place
              rcases hcase with ⟨h0, h0'⟩ | ⟨rfl, hnc, hcap⟩
              · omega
              rcases hcap with hcap | ⟨hcc, hroom⟩
              · omega
              have hesz2 : r.esz = i.size := by omega
              rw [hesz2] at hroom
              have hmul : (n + k) * i.size ≤ c' * i.size := Nat.mul_le_mul_right _ hge
              have hmul2 : (n + k) * i.size = n * i.size + k * i.size := Nat.add_mul _ _ _
              have hvl : vs'.length = k * i.size := by rw [← hv.1]; exact hlen
              have h1' : ∀ v ∈ vs', isOne v = true := fun v hvm => by
                obtain ⟨j, hj⟩ := List.getElem?_of_mem hvm
                have hlt : j < vs.length := by have := (List.getElem?_eq_some_iff.1 hj).1; omega
                rw [(hv.2 j vs[j] v (List.getElem?_eq_getElem hlt) hj).one]
                exact h1 _ (List.getElem_mem hlt)
              obtain ⟨c2, g1, g2, g3⟩ := storeCells_run P r.cb (r.base + (o + n * i.size)) e0 lo hi0 vs' 0 w c0 hw (by omega) (by omega) h1'
              have hrun := run_append_in (P := P) (ty := ty) ht hu hi hlx (hsrc w rfl) hge (show (storeCells ((r.at o).add (n * i.size)) vs').run P w = .ok () _ from by rw [add_at]; exact g1)
              have hld : loadN S ⟨b, o, none⟩ (n * i.size) = some old := by
                unfold loadN
                simp only [hB, Nat.add_eq, Nat.ble_eq_true_of_le hfit]
                exact hold1
              obtain ⟨old', q1, q2, q3, q5, q4⟩ := loadN_rel hR hb hld
              have hmulc : n * i.size ≤ c * i.size := Nat.mul_le_mul_right _ hnc
              refine ⟨_, _, ρ.put S.next { cb := r.cb, base := r.base + o, ext := (n + k) * i.size, esz := i.size, csz := r.csz, fam := r.fam, opn := true }, hrun, ?_, ?_, ?_⟩
              · refine rel_inplace (r' := { cb := r.cb, base := r.base + o, ext := (n + k) * i.size, esz := i.size, csz := r.csz, fam := r.fam, opn := true }) hR2 hR.new_none hb rfl rfl ?_ hget hw g2 ?_ ?_
                · rw [grow_tip, if_pos (by omega)]
                · intro b1 r1 B1 hb1 hcb1 hB1 hal
                  have hne : b1 ≠ S.next := by have := hR.lt hb1; omega
                  have hB1' : S.heap.get b1 = some (.blk B1) := by simp only [AS.grow] at hB1; rwa [Tr.get_set_ne _ _ _ _ hne] at hB1
                  obtain ⟨O1, hO1, hrel1⟩ := hR.obj _ _ hb1
                  rw [hB1'] at hO1; cases hO1
                  obtain ⟨k1, k2, k3, k4, k5, _⟩ := hrel1
                  have hfe : B1.fam = B'.fam := by have := hR.apart b1 b r1 r hb1 hb hcb1; omega
                  obtain ⟨hal1, hal2⟩ := grow_alive hR hfr' hB1' hal
                  have hal2 := hal2 hfe
                  have hnc2 : n = c := by
                    rcases hfr with ⟨_, hfr⟩ | hfr
                    · exact hfr
                    · rw [alive_def, hfe, ← hal2, hfr] at hal1
                      have := Nat.le_of_ble_eq_true hal1
                      have := hR.lt hb1
                      omega
                  have htp := hR.tip b1 b r1 r B1 hb1 hb hcb1 hB1' hal1 (by rw [← f4]; exact htip)
                  subst hnc2
                  refine ⟨fun j hj => ?_, by simp only; omega⟩
                  rw [g3, if_neg (by omega)]
                · refine orel_new (all := old ++ vs) (all' := old' ++ vs') hB' ((q1.append hv).mono (Rho.le_put _ hR.new_none)) hallone hext'.symm hesz' hopn' (hfam'.trans f4) (by simp only; omega) (setObj_get_same hw) (by simp only; omega) (by simp only; omega) ?_
                  intro j x hj
                  simp only
                  rw [g3]
                  by_cases hjn : j < n * i.size
                  · rw [if_neg (by omega)]
                    rw [List.getElem?_append_left (by omega)] at hj
                    have := q4 j x hj
                    rw [cell?_at hw] at this
                    rw [show r.base + o + j = r.base + (o + j) from by omega]
                    exact this
                  · have hjl : j < (old' ++ vs').length := (List.getElem?_eq_some_iff.1 hj).1
                    rw [List.length_append] at hjl
                    rw [if_pos (by omega)]
                    rw [List.getElem?_append_right (by omega)] at hj
                    rw [show r.base + o + j - (r.base + (o + n * i.size) + 0) = j - old'.length from by omega]
                    exact hj
              · exact ext_inplace hx (r := { cb := r.cb, base := r.base + o, ext := (n + k) * i.size, esz := i.size, csz := r.csz, fam := r.fam, opn := true }) _ hR.new_none (Nat.le_refl _) hb rfl rfl
              · have := VRel.slice (ρ := ρ.put S.next { cb := r.cb, base := r.base + o, ext := (n + k) * i.size, esz := i.size, csz := r.csz, fam := r.fam, opn := true }) (b := S.next) (o := 0) (n := n + k) (c := n + k) (c' := c')
                  (Rho.put_same _ _ _) (Nat.le_refl _) hpos (by simp only; omega) (.inr ⟨rfl, by simp only; omega, hge, by simp only; omega⟩)
                exact this
    · cases h
end
end Go.AM
