/- The abstract machine's operations that change memory are the model's: append, copy, clear; calls; all of them. -/
import Derived.Test.YtbfodilaobkjlaaGreatDoorAm20
namespace Go.AM

/-- The cells of what is appended or copied. -/
theorem src_rel {ρ : Rho} {S : AS} {w : World} (hR : Rel ρ S w) {x x' : Value} {q k esz : Nat} {cs : List Value} (hx : VRel ρ x x') (hk : lenV x = some k) (hq : q ≤ k) (h : srcCells S x q esz = some cs) :
    ∃ cs', VsRel ρ cs cs' ∧ (∀ v ∈ cs, isOne v = true) ∧ cs.length = q * esz ∧ (∀ (P : Program) (w2 : World), (Builtin.lenOf x').run P w2 = .ok k w2) ∧
      (∀ (P : Program) (w2 : World), w2.heap = w.heap → (Builtin.firstCells esz q x').run P w2 = .ok cs'.toArray w2) := by
  unfold srcCells at h
  split at h
  · rename_i s
    obtain rfl := hx.string_inv
    split at h
    · rename_i he
      have he := Nat.eq_of_beq_eq_true he
      subst he
      cases h
      cases hk
      rw [len_eq] at hq ⊢
      rw [take_eq, strBytes_eq]
      refine ⟨_, const_rel ?_, ?_, ?_, fun P w2 => rfl, fun P w2 _ => ?_⟩
      · intro v hv
        obtain ⟨b, _, rfl⟩ := List.mem_map.1 (List.mem_of_mem_take hv)
        rfl
      · intro v hv
        obtain ⟨b, _, rfl⟩ := List.mem_map.1 (List.mem_of_mem_take hv)
        rfl
      · simp only [List.length_take, List.length_map, Nat.mul_one]; omega
      · show Result.ok _ w2 = _
        congr 1
        apply Array.ext'
        simp only [Array.toList_map]
        have : (s.extract 0 q).data.toList = s.data.toList.take q := by
          rw [Lib.extract_data]; simp
        rw [this, List.map_take]
        rfl
    · cases h
  · rename_i n c
    cases h
    cases hx with
    | same hc =>
      cases hk
      have hn : k = 0 := by unfold constOK at hc; split at hc <;> simp_all
      have hq0 : q = 0 := by omega
      subst hq0
      exact ⟨[], VsRel.nil, by simp, by simp, fun P w2 => rfl, fun P w2 _ => rfl⟩
  · rename_i a n c
    cases hk
    split at h
    · cases h
      refine ⟨[], VsRel.nil, by simp, by simp, ?_, ?_⟩
      · intro P w2; cases hx <;> rfl
      · intro P w2 _
        cases hx with
        | same hc => simp [constOK] at hc
        | slice0 hb he => simp [Builtin.firstCells, loadCells, loadCellsFrom]
        | slice hb hn he hc hcap => simp [Builtin.firstCells, loadCells, loadCellsFrom]
    · rename_i q'
      cases hx with
      | same hc => simp [constOK] at hc
      | slice0 hb he => omega
      | slice hb hn he hc hcap =>
        have hl : cs.length = (q' + 1) * esz := by
          obtain ⟨_, _, B, _, _, _, hcf⟩ := loadN_some h
          exact (cellsFrom_spec _ _ _ _ hcf).1
        obtain ⟨l', g1, g2, g3, _, g5⟩ := loadN_run hR hb h
        refine ⟨l', g1, g2, hl, fun P w2 => rfl, fun P w2 hw2 => ?_⟩
        have hcell : ∀ a, w2.cell? a = w.cell? a := fun a => by unfold World.cell?; rw [hw2]
        have := run_loadCells_list (P := P) w2 _ l' (fun j v hj => (hcell _).trans (g5 j v hj))
        rw [g3] at this
        exact this
  · cases h

/-- What the functions without a body answer, and those that stand by a contract. -/
def XOK (P : Program) (X : Exts) : Prop :=
  ∀ f g, X f = some g → ∀ args S v S', g args S = some (v, S') → ∀ ρ w (cargs : Array Value), Rel ρ S w → VsRel ρ args cargs.toList →
    ∀ (o : Oper) (a : Act) (next : Act → World → Prop) (Q : Exit → Act → World → Prop),
      (∀ cv w' ρ', Rel ρ' S' w' → Ext ρ S w ρ' S' w' → VRel ρ' v cv → next (a.put o.dst cv) w') → o.upon P a next Q ((callFunc f cargs).run P w)

section
variable {P : Program} {T : Tr TI} {tm : Tr Value} {S S' : AS} {o : Oper} {v : Value} {rc : Option Value} {n : ANext}
variable {ρ : Rho} {w : World} {E : Operand → Value}

theorem hCallF_ok {X : Exts} (hX : XOK P X) {f : Operand} {args : Array Operand} {argTypes : Array TypeId} (ho : o.op = .call { callee := .value f, args := args, argTypes := argTypes }) (h : hCallF X tm S f args = some n) (hR : Rel ρ S w) (hop : Hop ρ tm E o.op) : HeavyOK P rc o E ρ S w n := by
  unfold hCallF at h
  split at h
  · rename_i fv as hf has
    split at h
    · rename_i d hd
      obtain ⟨cf, hcf, hpf⟩ := hop.at (x := f) (by rw [ho]; simp [Op.operands, Call.operands]) hf
      have hrel : VsRel ρ as (args.map E).toList := by
        rw [Array.toList_map]
        exact evs_rel has fun x hx => hop x (by rw [ho]; simp only [Op.operands, Call.operands]; simp only [Array.mem_append]; exact .inr (Array.mem_toList_iff.1 hx))
      obtain ⟨cap, dargs, h1, h2⟩ := targetOf_rel (P := P) hd hpf hrel
      have hex : (execOp E o).run P w = (callFunc d.f (dargs ++ cap)).run P w := by
        simp only [execOp, ho, resolve, hcf, Sem.run_bind, h1]
        rfl
      split at h
      · rename_i g hg
        split at h
        · rename_i u S1 hgs
          cases h
          refine .inr fun a next Q hn => ?_
          rw [hex]
          exact hX _ _ hg _ _ _ _ hgs ρ w _ hR h2 o a next Q hn
        · cases h
      · cases h
        exact ⟨_, h2, hex⟩
    · cases h
  · cases h

variable (hT : ∀ t ti, T.get t = some ti → TypeOK P t ti)
include hT

theorem copy_ok {t : Nat} {args : Array Operand} {argTypes : Array TypeId} (ho : o.op = .call { callee := .builtin .copy, args := args, argTypes := argTypes }) (hat0 : argTypes[0]? = some t)
    {a : Option Addr} {nn c : Nat} {x ca cb : Value} {ti te : TI} (hti : T.get t = some ti) {e : Nat} (hu : ti.u = .slice e) (hte : T.get e = some te) {k q : Nat} (hk : lenV x = some k)
    (h : (match srcCells S x q te.size with
            | some cs => match a, q with
              | _, 0 => some (ANext.val (.int .i64 (.ofNat 0)) S)
              | some a, q + 1 => match storeN S a cs with
                | some S => some (.val (.int .i64 (.ofNat (q + 1))) S)
                | none => none
              | none, _ + 1 => none
            | none => none) = some n) (hmin : Nat.min k nn = q) (hcl : args.toList.map E = [ca, cb]) (hpa : VRel ρ (.slice a nn c) ca) (hpb : VRel ρ x cb) (hR : Rel ρ S w) : HeavyOK P rc o E ρ S w n := by
  have hto := hT t ti hti
  have hteo := hT e te hte
  have hex := exec_builtin (P := P) ho E w _ hcl
  split at h
  · rename_i cs hcs
    have hqk : q ≤ k := by rw [← hmin]; exact Nat.min_le_left _ _
    obtain ⟨cs', q1, q2, q3, q4, q5⟩ := src_rel hR hpb hk hqk hcs
    cases q with
    | zero =>
      simp only at h
      cases h
      have hcs0 : cs' = [] := by
        have := q1.1; rw [q3, Nat.zero_mul] at this; exact List.eq_nil_of_length_eq_zero this.symm
      subst hcs0
      refine .inr (UponOK.value (cv := .int .i64 0) ?_ hR (Ext.refl _ _ _) .int)
      rw [hex]
      have hrun : (Builtin.copy_ argTypes o.type #[ca, cb]).run P w = .ok (goInt 0) w := by
        have h5 := q5 P w rfl
        cases hpa <;> (unfold Builtin.copy_; simp only [hat0, List.getElem?_toArray, List.getElem?_cons_zero, List.getElem?_cons_succ, Sem.run_bind, run_underlying (hto.slice hu), Result.andThen_ok, q4 P w, hteo.run_size w, hmin, h5]; first | rfl | (cases a <;> rfl))
      simp only [builtin, Sem.run_bind]
      rw [show (⟨[ca, cb]⟩ : Array Value) = #[ca, cb] from rfl, hrun]; rfl
    | succ q1' =>
      cases a with
      | none => cases h
      | some a1 =>
      simp only at h
      split at h
      · rename_i S1 hst
        cases h
        cases hpa with
        | same hc => simp [constOK] at hc
        | slice0 hb he => simp at hmin
        | @slice b oo _ _ c' r hb hn he hc hcap =>
          obtain ⟨w', g1, g2, g3⟩ := store_sim hR hb q1 q2 hst
          refine .inr (UponOK.value (cv := .int .i64 (q1' + 1 : Nat)) ?_ g2 g3 .int)
          rw [hex]
          have hrun : (Builtin.copy_ argTypes o.type #[.slice (some ⟨r.cb, r.base + oo, none⟩) nn c', cb]).run P w = .ok (goInt (q1' + 1 : Nat)) w' := by
            have h5 := q5 P w rfl
            have h6 := g1 P
            simp only [RI.at] at h6
            unfold Builtin.copy_
            simp only [hat0, List.getElem?_toArray, List.getElem?_cons_zero, List.getElem?_cons_succ, Sem.run_bind, run_underlying (hto.slice hu), Result.andThen_ok, q4 P w, hteo.run_size w, hmin, h5, h6]
            rfl
          simp only [builtin, Sem.run_bind]
          rw [show (⟨[.slice (some ⟨r.cb, r.base + oo, none⟩) nn c', cb]⟩ : Array Value) = #[.slice (some ⟨r.cb, r.base + oo, none⟩) nn c', cb] from rfl, hrun]; rfl
      · cases h
  · cases h

theorem hCallB_ok (hK : KeysOK P T) {b : Builtin} {args : Array Operand} {argTypes : Array TypeId} (ho : o.op = .call { callee := .builtin b, args := args, argTypes := argTypes }) (h : hCallB T rc tm S b args argTypes = some n) (hR : Rel ρ S w) (hop : Hop ρ tm E o.op) : HeavyOK P rc o E ρ S w n := by
  have one : ∀ {l : List Value}, evs tm args.toList = some l → VsRel ρ l (args.toList.map E) :=
    fun hl => evs_rel hl fun x hx => hop x (by rw [ho]; simp only [Op.operands, Call.operands]; simpa using hx)
  unfold hCallB at h
  split at h
  · -- append
    rename_i s x t u hev htl
    have hat : argTypes = #[t, u] := by apply Array.ext'; simpa using htl
    subst hat
    split at h
    · rename_i ti tu hti htu
      have hto := hT t ti hti
      have htuo := hT u tu htu
      split at h
      · rename_i e hu hsrc0
        split at h
        · rename_i te k hte hk
          have hteo := hT e te hte
          split at h
          · rename_i m cs hm hcs hbig
            split at h
            · rename_i v1 S1 happ
              cases h
              obtain ⟨ca, l2, hcl, hpa, hl2⟩ := (one hev).cons_inv
              obtain ⟨cb, l3, rfl, hpb, hl3⟩ := hl2.cons_inv
              obtain rfl := hl3.nil_inv
              have hex := exec_builtin (P := P) ho E w _ hcl
              obtain ⟨i, z, hi, hisz, hib, hz, hzc, _, _⟩ := hteo.info
              have hd : (∃ d, P.underlying u = some (.slice d)) ∨ P.underlying u = some .string := by
                split at hsrc0
                · rename_i e2 hu2; exact .inl ⟨_, htuo.slice hu2⟩
                · rename_i hu2; exact .inr (htuo.str hu2)
                · cases hsrc0
              obtain ⟨cs', q1, q2, q3, q4, q5⟩ := src_rel hR hpb hk (Nat.le_refl _) hcs
              have hszm : i.size = m + 1 := by rw [hisz, hm]
              have hzs : z.cells.size = i.size := by rw [← Array.length_toList, hzc, hteo.zlen, hisz]
              have hbg := Nat.le_of_ble_eq_true hbig
              obtain ⟨w', cv, ρ', k1, k2, k3, k4⟩ := append_sim (ty := o.type) (hto.slice hu) hd hi hz hzs (by omega) hR hpa q1 q2 (by rw [q3, hisz]) (q4 P w) (fun w2 hw2 => by rw [hisz]; exact q5 P w2 hw2)
                (fun a nn c hs => by subst hs; simp only [Nat.mul_eq, Nat.add_eq, Nat.succ_eq_add_one] at hbg; rw [hib]; exact hbg) (by rw [hszm]; exact happ)
              refine .inr (UponOK.value (cv := cv) ?_ k2 k3 k4)
              rw [hex]
              simp only [builtin, Sem.run_bind]
              rw [k1]; rfl
            · cases h
          · cases h
        · cases h
      · cases h
    · cases h
  · -- copy
    rename_i a nn c x t ts hev htl
    have hat0 : argTypes[0]? = some t := by rw [← Array.getElem?_toList, htl]; rfl
    obtain ⟨ca, l2, hcl, hpa, hl2⟩ := (one hev).cons_inv
    obtain ⟨cb, l3, rfl, hpb, hl3⟩ := hl2.cons_inv
    obtain rfl := hl3.nil_inv
    have hex := exec_builtin (P := P) ho E w _ hcl
    split at h
    · rename_i ti hti
      have hto := hT t ti hti
      split at h
      · rename_i e hu
        split at h
        · rename_i te k hte hk
          have hteo := hT e te hte
          cases hle : Nat.ble k nn with
          | true =>
            rw [hle] at h
            dsimp only at h
            exact copy_ok hT ho hat0 hti hu hte hk h (Nat.min_eq_left (Nat.le_of_ble_eq_true hle)) hcl hpa hpb hR
          | false =>
            rw [hle] at h
            dsimp only at h
            refine copy_ok hT ho hat0 hti hu hte hk h (Nat.min_eq_right ?_) hcl hpa hpb hR
            rcases Nat.lt_or_ge nn k with h2 | h2
            · exact Nat.le_of_lt h2
            · rw [Nat.ble_eq_true_of_le h2] at hle; cases hle
        · cases h
      · cases h
    · cases h
  · -- clear
    rename_i a nn c t ts hev htl
    have hat0 : argTypes[0]? = some t := by rw [← Array.getElem?_toList, htl]; rfl
    obtain ⟨ca, l2, hcl, hpa, hl2⟩ := (one hev).cons_inv
    obtain rfl := hl2.nil_inv
    have hex := exec_builtin (P := P) ho E w _ hcl
    have fin : ∀ w', (Builtin.clear_ argTypes o.type #[ca]).run P w = .ok (.tuple #[]) w' → (execOp E o).run P w = .ok (.value undef) w' := by
      intro w' hr
      rw [hex]
      simp only [builtin, Sem.run_bind]
      rw [show (⟨[ca]⟩ : Array Value) = #[ca] from rfl, hr]; rfl
    split at h
    · rename_i ti hti
      have hto := hT t ti hti
      split at h
      · rename_i e hu
        split at h
        · cases h
          refine .inr (UponOK.value (cv := undef) (fin w ?_) hR (Ext.refl _ _ _) .undef)
          cases hpa
          unfold Builtin.clear_
          simp only [hat0, List.getElem?_toArray, List.getElem?_cons_zero, Sem.run_bind, run_underlying (hto.slice hu), Result.andThen_ok]
          rfl
        · cases h
          refine .inr (UponOK.value (cv := undef) (fin w ?_) hR (Ext.refl _ _ _) .undef)
          cases hpa <;> (unfold Builtin.clear_; simp only [hat0, List.getElem?_toArray, List.getElem?_cons_zero, Sem.run_bind, run_underlying (hto.slice hu), Result.andThen_ok]; rfl)
        · rename_i te a1 n1 hte
          have hteo := hT e te hte
          split at h
          · rename_i S1 hst
            cases h
            cases hpa with
            | same hc => simp [constOK] at hc
            | @slice b oo _ _ c' r hb hn he hc hcap =>
              obtain ⟨z, hz, hzc, _, _⟩ := hteo.run_zero w
              have hzall : (Builtin.zeroCells z.cells (n1 + 1)).toList = times te.zero (n1 + 1) := by
                rw [← hzc]
                by_cases h0 : z.cells.size = 0
                · have : z.cells.toList = [] := List.eq_nil_of_length_eq_zero (by rw [Array.length_toList]; exact h0)
                  rw [times_eq, this]
                  have hl : (Builtin.zeroCells z.cells (n1 + 1)).toList = [] := List.eq_nil_of_length_eq_zero (by rw [Array.length_toList, zeroCells_size, h0, Nat.mul_zero])
                  rw [hl]
                  simp
                · have := times_arr (z := z.cells) (n := n1 + 1) rfl (by omega)
                  unfold Builtin.zeroCells
                  rw [this]
              have hrel : VsRel ρ (times te.zero (n1 + 1)) (times te.zero (n1 + 1)) := const_rel fun v hv => by
                rw [times_eq] at hv
                obtain ⟨l, h1, h2⟩ := List.mem_flatten.1 hv
                rw [(List.mem_replicate.1 h1).2] at h2
                exact (hteo.zok v h2).1
              obtain ⟨w', g1, g2, g3⟩ := store_sim hR hb hrel (fun v hv => by
                rw [times_eq] at hv
                obtain ⟨l, h1, h2⟩ := List.mem_flatten.1 hv
                rw [(List.mem_replicate.1 h1).2] at h2
                exact (hteo.zok v h2).2) hst
              refine .inr (UponOK.value (cv := undef) (fin w' ?_) g2 g3 .undef)
              have h6 := g1 P
              simp only [RI.at] at h6
              unfold Builtin.clear_
              simp only [hat0, List.getElem?_toArray, List.getElem?_cons_zero, Sem.run_bind, run_underlying (hto.slice hu), Result.andThen_ok, hz, hzall, h6]
              rfl
          · cases h
        · cases h
      · cases h
    · cases h
  · -- delete
    rename_i r0 k t ts hev htl
    obtain ⟨cm, l2, hcl, hpm, hl2⟩ := (one hev).cons_inv
    obtain ⟨ck, l3, rfl, hpk, hl3⟩ := hl2.cons_inv
    obtain rfl := hl3.nil_inv
    split at h
    · rename_i ti hti
      split at h
      · rename_i kt et hu hkey
        rw [hu] at hkey
        exact delete_ok hT hK ho htl hti hu hkey h hcl hpm hpk hR
      · cases h
    · cases h
  · -- recover
    rename_i hev
    split at h
    · rename_i v1 hrc
      cases h
      left
      have hcl := (one hev).nil_inv
      have hex := exec_builtin (P := P) ho E w _ hcl
      exact ⟨by rw [hex]; rfl, rfl, rfl⟩
    · cases h
  · cases h

theorem heavy_ok (hK : KeysOK P T) {X : Exts} (hX : XOK P X) (h : heavy T X rc tm S o.op = some n) (hR : Rel ρ S w) (hop : Hop ρ tm E o.op) : HeavyOK P rc o E ρ S w n := by
  unfold heavy heavyD at h
  cases ho : o.op <;> rw [ho] at h <;> simp only at h
  case store t x u => exact hStore_ok hT ho h hR hop
  case mapUpdate t m k u => exact hPut_ok hT hK (.inl ho) h hR hop
  case insert t m k u => exact hPut_ok hT hK (.inr ho) h hR hop
  case range t x => exact hRange_ok hT ho h hR hop
  case next x b => exact hNext_ok ho h hR hop
  case defer c => exact hDefer_ok ho h hop
  case panic x => exact hPanic_ok ho h hop
  case call c =>
    unfold hCall at h
    obtain ⟨cal, args, ats⟩ := c
    cases cal with
    | builtin b => exact hCallB_ok hT hK ho h hR hop
    | value f => exact hCallF_ok hX ho h hR hop
    | invoke r m => cases h
  all_goals cases h
end
end Go.AM
