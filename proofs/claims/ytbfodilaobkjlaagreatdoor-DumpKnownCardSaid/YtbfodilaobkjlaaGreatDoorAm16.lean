/- The abstract machine's light operations are the model's: parts, conversions, lengths. -/
import Derived.Test.YtbfodilaobkjlaaGreatDoorAm15
namespace Go.AM

theorem zeroV_rel {P : Program} {t : TypeId} {ti : TI} (h : TypeOK P t ti) {z : Value} (hz : zeroV ti = some z) (ρ : Rho) (w : World) : ∃ cz, (zeroValue t).run P w = .ok cz w ∧ VRel ρ z cz := by
  obtain ⟨cz, h1, h2, h3, h4⟩ := h.run_zero w
  refine ⟨cz, h1, ?_⟩
  unfold zeroV at hz
  split at hz
  · rename_i ha
    cases hz
    rw [h3 ha]
    have hc := const_rel (ρ := ρ) (l := ti.zero) fun u hu => (h.zok u hu).1
    have : cz.cells = ⟨ti.zero⟩ := by rw [← h2]
    rw [this]
    exact .agg hc.1 hc.2 fun u hu => (h.zok u hu).2
  · rename_i ha
    split at hz
    · rename_i u hu
      cases hz
      have := h4 ha
      rw [hu] at this
      cases this
      exact .same (h.zok z (by rw [hu]; simp)).1
    · cases hz

theorem partOf_run {P : Program} {t : TypeId} {inf : TypeInfo} (hi : P.info? t = some inf) (hu : ∃ d, P.underlying t = some d) {ρ : Rho} {a a' : Array Value} (hv : VsRel ρ a.toList a'.toList) (h1 : ∀ v ∈ a.toList, isOne v = true) {o : Nat} {v : Value}
    (h : partOf (aggOf P t) o inf.size a.toList = some v) (w : World) : ∃ cv, (part t a' o).run P w = .ok cv w ∧ VRel ρ v cv := by
  obtain ⟨d, hd⟩ := hu
  have hag : (isAgg t).run P w = .ok (aggOf P t) w := by
    unfold aggOf
    simp only [isAgg, Sem.run_bind, run_underlying hd, Result.andThen_ok]
    cases d <;> rw [hd] <;> rfl
  unfold partOf at h
  split at h
  · rename_i hg
    split at h
    · rename_i hle
      have hle := Nat.le_of_ble_eq_true hle
      rw [len_eq] at hle
      simp only [Nat.add_eq] at hle
      cases h
      rw [take_eq, drop_eq]
      have hx : a'.extract o (o + inf.size) = ⟨(a'.toList.drop o).take inf.size⟩ := by
        apply Array.ext'
        simp
      refine ⟨.agg ⟨(a'.toList.drop o).take inf.size⟩, ?_, ?_⟩
      · rw [hg] at hag
        simp [part, hag, sizeOf, typeInfo, hi, hx]
      · have := (hv.drop o).take inf.size
        exact .agg this.1 this.2 fun u hu => h1 u (List.mem_of_mem_drop (List.mem_of_mem_take hu))
    · cases h
  · rename_i hg
    rw [nth_eq] at h
    obtain ⟨u', q1, q2⟩ := hv.get h
    refine ⟨u', ?_, q2⟩
    rw [hg] at hag
    have : a'[o]? = some u' := by simpa using q1
    simp [part, hag, this]

theorem loadN_len {S : AS} {a : Addr} {n : Nat} {cs : List Value} (h : loadN S a n = some cs) : cs.length = n := by
  obtain ⟨b, o, B, _, _, _, hc⟩ := loadN_some h
  exact (cellsFrom_spec _ _ _ _ hc).1

theorem toBytes_cons (v : Value) (l : List Value) : toBytes (v :: l) = match v with
      | .int .u8 (.ofNat n) => match toBytes l with | some s => some (UInt8.ofNat n :: s) | none => none
      | _ => none := rfl
theorem maxI_cons (x y : Value) (l : List Value) : maxI x (y :: l) = match x, y with
      | .int j a, .int k b => match kEq j k with
        | true => match ltI a b with | true => maxI (.int j b) l | false => maxI (.int j a) l
        | false => none
      | _, _ => none := rfl
theorem minI_cons (x y : Value) (l : List Value) : minI x (y :: l) = match x, y with
      | .int j a, .int k b => match kEq j k with
        | true => match ltI b a with | true => minI (.int j b) l | false => minI (.int j a) l
        | false => none
      | _, _ => none := rfl

theorem toBytes_spec : ∀ {l : List Value} {s : List UInt8}, toBytes l = some s → ∃ ns : List Nat, l = ns.map (fun n => Value.int .u8 (Int.ofNat n)) ∧ s = ns.map UInt8.ofNat := by
  intro l
  induction l with
  | nil => intro s h; cases h; exact ⟨[], rfl, rfl⟩
  | cons v l ih =>
    intro s h
    rw [toBytes_cons] at h
    split at h
    · rename_i n
      split at h
      · rename_i s' hs
        cases h
        obtain ⟨ns, rfl, rfl⟩ := ih hs
        exact ⟨n :: ns, rfl, rfl⟩
      · cases h
    · cases h

theorem foldl_push : ∀ (ns : List Int) (b : ByteArray), (ns.foldl (fun r n => r.push (UInt8.ofNat n.toNat)) b).data.toList = b.data.toList ++ ns.map fun n => UInt8.ofNat n.toNat := by
  intro ns
  induction ns with
  | nil => intro b; simp
  | cons n ns ih => intro b; rw [List.foldl_cons, ih]; simp [ByteArray.push]

theorem strBytes_eq (s : List UInt8) : strBytes s = s.map fun b => Value.int .u8 (Int.ofNat b.toNat) := by
  induction s with
  | nil => rfl
  | cons b s ih => show _ :: strBytes s = _; rw [ih]; rfl

section
variable {P : Program} {T : Tr TI} {tm : Tr Value} {S S' : AS} {o : Oper} {v : Value}

theorem maxI_run : ∀ {l : List Value} {x v : Value}, maxI x l = some v → ∀ w : World, (l.foldlM Builtin.max2 x).run P w = .ok v w ∧ (constOK x = true → constOK v = true) := by
  intro l
  induction l with
  | nil => intro x v h w; cases h; exact ⟨rfl, id⟩
  | cons y l ih =>
    intro x v h w
    rw [maxI_cons] at h
    split at h
    · rename_i j a k b
      split at h
      · rename_i hk
        have hk := kEq_true hk
        rw [List.foldlM_cons, Sem.run_bind]
        have hm : (Builtin.max2 (.int j a) (.int k b)).run P w = .ok (.int j (if b > a then b else a)) w := rfl
        rw [hm, Result.andThen_ok]
        cases hlt : ltI a b with
        | true =>
          rw [hlt] at h
          rw [ltI_eq] at hlt
          rw [if_pos (by simpa using hlt)]
          obtain ⟨k1, k2⟩ := ih h w
          exact ⟨k1, fun _ => k2 rfl⟩
        | false =>
          rw [hlt] at h
          rw [ltI_eq] at hlt
          rw [if_neg (by simpa using hlt)]
          obtain ⟨k1, k2⟩ := ih h w
          exact ⟨k1, fun _ => k2 rfl⟩
      · cases h
    · cases h

theorem minI_run : ∀ {l : List Value} {x v : Value}, minI x l = some v → ∀ w : World, (l.foldlM Builtin.min2 x).run P w = .ok v w ∧ (constOK x = true → constOK v = true) := by
  intro l
  induction l with
  | nil => intro x v h w; cases h; exact ⟨rfl, id⟩
  | cons y l ih =>
    intro x v h w
    rw [minI_cons] at h
    split at h
    · rename_i j a k b
      split at h
      · rename_i hk
        have hk := kEq_true hk
        rw [List.foldlM_cons, Sem.run_bind]
        have hm : (Builtin.min2 (.int j a) (.int k b)).run P w = .ok (.int j (if b < a then b else a)) w := rfl
        rw [hm, Result.andThen_ok]
        cases hlt : ltI b a with
        | true =>
          rw [hlt] at h
          rw [ltI_eq] at hlt
          rw [if_pos (by simpa using hlt)]
          obtain ⟨k1, k2⟩ := ih h w
          exact ⟨k1, fun _ => k2 rfl⟩
        | false =>
          rw [hlt] at h
          rw [ltI_eq] at hlt
          rw [if_neg (by simpa using hlt)]
          obtain ⟨k1, k2⟩ := ih h w
          exact ⟨k1, fun _ => k2 rfl⟩
      · cases h
    · cases h

theorem freeze_alloc (w : World) (c : Array Value) (e : TypeId) (n : Nat) : (w.alloc (.cells c e)).freeze ⟨w.heap.size, n, none⟩ 1 = w.alloc (.cells c e (n, n + 1)) := by
  simp only [World.freeze, Nat.one_ne_zero, if_false]
  show ({ w with heap := _ } : World) = { w with heap := _ }
  congr 1
  apply Array.ext_getElem?
  intro i
  show ((w.heap.push (.cells c e)).modify w.heap.size _)[i]? = (w.heap.push (.cells c e (n, n + 1)))[i]?
  rw [Array.getElem?_modify, Array.getElem?_push, Array.getElem?_push]
  by_cases hi : w.heap.size = i
  · subst hi; simp
  · rw [if_neg hi, if_neg (fun h => hi h.symm), if_neg (fun h => hi h.symm)]

theorem string_bytes_run (w : World) (e : TypeId) (s : ByteArray) : (Conv.stringToBytes e s).run P w = .ok (.slice (some ⟨w.heap.size, 0, none⟩) s.size (grownCap w s.size 0 e))
    (w.drew.alloc (.cells (s.data.map (fun b => Value.int .u8 b.toNat) ++ Array.replicate (grownCap w s.size 0 e - s.size) (.int .u8 0)) e (grownCap w s.size 0 e, grownCap w s.size 0 e + 1))) := by
  have hg := grownCap_ge w s.size 0 e
  have hsz : (s.data.map (fun b => Value.int .u8 (b.toNat : Int)) ++ Array.replicate (grownCap w s.size 0 e - s.size) (Value.int .u8 0)).size = grownCap w s.size 0 e := by
    simp only [Array.size_append, Array.size_map, Array.size_replicate]
    have : s.data.size = s.size := rfl
    omega
  unfold Conv.stringToBytes
  have hc : (choose (.appendCap s.size 0 e)).run P w = .ok (grownCap w s.size 0 e) w.drew := by
    rw [run_choose]; rfl
  have hsh : (w.drew.alloc (.cells (s.data.map (fun b => Value.int .u8 (b.toNat : Int)) ++ Array.replicate (grownCap w s.size 0 e - s.size) (Value.int .u8 0)) e)).shape? w.heap.size = some (e, grownCap w s.size 0 e) := by
    unfold World.shape?
    have := alloc_get_new w.drew (.cells (s.data.map (fun b => Value.int .u8 (b.toNat : Int)) ++ Array.replicate (grownCap w s.size 0 e - s.size) (Value.int .u8 0)) e)
    rw [show w.drew.heap.size = w.heap.size from rfl] at this
    rw [this]
    simp only [hsz]
  have hfr := freeze_alloc w.drew (s.data.map (fun b => Value.int .u8 (b.toNat : Int)) ++ Array.replicate (grownCap w s.size 0 e - s.size) (Value.int .u8 0)) e (grownCap w s.size 0 e)
  simp only [Sem.run_bind, hc, Result.andThen_ok, newRow, run_newObj, Sem.run_pure, markStringish, run_shape, World.alloc_eq]
  rw [show w.drew.heap.size = w.heap.size from rfl] at hfr ⊢
  rw [hsh]
  simp only [run_freeze, Result.andThen_ok, hfr]

variable (hT : ∀ t ti, T.get t = some ti → TypeOK P t ti)
include hT

theorem isBytes_ok {t : Nat} (h : isBytes T t = true) : ∃ e, P.underlying t = some (.slice e) ∧ P.underlying e = some (.int .u8) := by
  unfold isBytes at h
  split at h
  · rename_i ti hti
    split at h
    · rename_i e hu
      split at h
      · rename_i te hte
        split at h
        · rename_i hu2
          exact ⟨e, (hT _ _ hti).slice hu, (hT _ _ hte).int hu2⟩
        · cases h
      · cases h
    · cases h
  · cases h

theorem lField_ok {t : Nat} {x : Operand} {f : Nat} (ho : o.op = .field t x f) (h : lField T tm S t x f = some (v, S')) : LightOK P T tm o S S' v := by
  unfold lField at h
  split at h
  · rename_i a ti hx hti
    have hto := hT t ti hti
    split at h
    · rename_i fs hu
      split at h
      · rename_i d n g hf
        rw [nth_eq] at hf
        obtain ⟨fields, hd, hck⟩ := hto.strct hu
        obtain ⟨fl, inf, g1, g2, g3, g4, g5, g6⟩ := chkFs_get hck hf
        unfold retV at h
        cases hp : partOf g d n a.toList with
        | none => rw [hp] at h; cases h
        | some u =>
          rw [hp] at h
          cases h
          refine .inl ⟨rfl, fun ρ S2 w E _ _ hop => ?_⟩
          obtain ⟨cx, hcx, hq⟩ := hop.at (x := x) (by rw [ho]; simp [Op.operands]) hx
          cases hq with
          | same hc => simp [constOK] at hc
          | @agg l l' hl hh h1 =>
            have hun : ∃ d, P.underlying fl.type = some d := Option.isSome_iff_exists.1 g6
            rw [g5, ← g4] at hp
            obtain ⟨cv, k1, k2⟩ := partOf_run g3 hun (a := ⟨l⟩) (a' := ⟨l'⟩) ⟨hl, hh⟩ h1 hp w
            refine ⟨cv, ?_, k2⟩
            have hff : fields[f]? = some fl := by simpa using g1
            simp [execOp, ho, hcx, Instr.field, run_underlying hd, hff, asAgg, g2, k1]
      · cases h
    · cases h
  · cases h

theorem lIndex_ok {t : Nat} {x i : Operand} (ho : o.op = .index t x i) (h : lIndex T tm S t x i = some (v, S')) : LightOK P T tm o S S' v := by
  unfold lIndex at h
  split at h
  · rename_i xv k iv ti hx hi hti
    have hto := hT t ti hti
    unfold retV at h
    cases hr : lIndexV T ti.u xv iv with
    | none => rw [hr] at h; cases h
    | some u =>
      rw [hr] at h
      cases h
      refine .inl ⟨rfl, fun ρ S2 w E _ _ hop => ?_⟩
      obtain ⟨cx, hcx, hp⟩ := hop.at (x := x) (by rw [ho]; simp [Op.operands]) hx
      obtain ⟨ci, hci, hq⟩ := hop.at (x := i) (by rw [ho]; simp [Op.operands]) hi
      obtain rfl := hq.int_inv
      unfold lIndexV at hr
      split at hr
      · rename_i s hu
        obtain rfl := hp.string_inv
        split at hr
        · rename_i b hb
          cases hr
          rw [nth_eq] at hb
          have hb2 : s.data[iv]? = some b := by simpa using hb
          have hb3 : s[iv]? = some b := by
            have hlt : iv < s.data.size := (Array.getElem?_eq_some_iff.1 hb2).1
            rw [getElem?_pos s iv hlt]
            rw [Array.getElem?_eq_getElem hlt] at hb2
            exact hb2
          refine ⟨.int .u8 b.toNat, ?_, .int⟩
          simp [execOp, ho, hcx, hci, Instr.index, asIntOf, run_underlying (hto.str hu), hb3]
        · cases hr
      · rename_i n e a hu
        split at hr
        · rename_i te hte hle
          have hle : iv < n := Nat.le_of_ble_eq_true hle
          have hteo := hT e te hte
          obtain ⟨inf, q1, q2, q3⟩ := hteo.size
          cases hp with
          | same hc => simp [constOK] at hc
          | @agg l l' hl hh h1 =>
            rw [hteo.agg, ← q2] at hr
            obtain ⟨cv, k1, k2⟩ := partOf_run q1 hteo.has (a := ⟨l⟩) (a' := ⟨l'⟩) ⟨hl, hh⟩ h1 hr w
            refine ⟨cv, ?_, k2⟩
            have hsz := hteo.run_size w
            rw [← q2] at hsz
            simp only [Nat.mul_eq] at k1
            simp [execOp, ho, hcx, hci, Instr.index, asIntOf, run_underlying (hto.arr hu), hsz, hle, k1]
        · cases hr
      · cases hr
  · cases h

theorem lTypeAssert_ok {x : Operand} {xt t : Nat} {ok : Bool} (ho : o.op = .typeAssert x xt t ok) (h : lTypeAssert T tm S x t ok = some (v, S')) : LightOK P T tm o S S' v := by
  unfold lTypeAssert at h
  split at h
  · rename_i xv ti hx hti
    have hto := hT t ti hti
    split at h
    · rename_i hni
      have hne : ti.u ≠ .iface := by intro hc; rw [hc] at hni; cases hni
      obtain ⟨d, hd, hnd⟩ := hto.noIface hne
      unfold retV at h
      cases hr : lTypeAssertV ti t ok xv with
      | none => rw [hr] at h; cases h
      | some u =>
        rw [hr] at h
        cases h
        refine .inl ⟨rfl, fun ρ S2 w E _ _ hop => ?_⟩
        obtain ⟨cx, hcx, hp⟩ := hop.at (x := x) (by rw [ho]; simp [Op.operands]) hx
        have two : ∀ {a a' : Value} (b : Bool), VRel ρ a a' → VRel ρ (.tuple (Array.mk [a, .bool b])) (.tuple #[a', .bool b]) := fun b ha =>
          have hh := VsRel.cons ha (VsRel.cons (VRel.bool (b := b)) VsRel.nil)
          .tuple hh.1 hh.2
        unfold lTypeAssertV at hr
        split at hr
        · rename_i ut uv
          cases hp with
          | same hc => simp [constOK] at hc
          | @iface _ _ v' hv =>
            have hexec : ∀ r : Value, (Instr.typeAssert (.iface ut v') xt t ok).run P w = .ok r w → (execOp E o).run P w = .ok (.value r) w := by
              intro r hr
              simp only [execOp, ho, hcx, Sem.run_bind, hr, Result.andThen_ok]
              rfl
            split at hr
            · rename_i hb
              have hb := Nat.eq_of_beq_eq_true hb
              cases hr
              refine ⟨_, hexec _ ?_, two true hv⟩
              subst hb
              simp only [Instr.typeAssert, Sem.run_bind, run_underlying hd, Result.andThen_ok]
              cases d <;> first | (exact absurd rfl (hnd _)) | (simp)
            · rename_i hb
              have hb := Nat.eq_of_beq_eq_true hb
              cases hr
              refine ⟨_, hexec _ ?_, hv⟩
              subst hb
              simp only [Instr.typeAssert, Sem.run_bind, run_underlying hd, Result.andThen_ok]
              cases d <;> first | (exact absurd rfl (hnd _)) | (simp)
            · rename_i z hb hz
              have hb := Nat.ne_of_beq_eq_false hb
              cases hr
              obtain ⟨cz, z1, z2⟩ := zeroV_rel hto hz ρ w
              refine ⟨_, hexec _ ?_, two false z2⟩
              simp only [Instr.typeAssert, Sem.run_bind, run_underlying hd, Result.andThen_ok]
              cases d <;> first | (exact absurd rfl (hnd _)) | (simp [hb, z1])
            · cases hr
        · cases hp with
          | same hc =>
            split at hr
            · rename_i z hz
              cases hr
              obtain ⟨cz, z1, z2⟩ := zeroV_rel hto hz ρ w
              refine ⟨_, ?_, two false z2⟩
              simp only [execOp, ho, hcx, Instr.typeAssert, Sem.run_bind, run_underlying hd, Result.andThen_ok]
              cases d <;> first | (exact absurd rfl (hnd _)) | (simp [z1])
            · cases hr
        · cases hr
    · cases h
  · cases h

theorem lConvert_ok {s d : Nat} {x : Operand} (ho : o.op = .convert s d x) (h : lConvert T tm S s d x = some (v, S')) : LightOK P T tm o S S' v := by
  unfold lConvert at h
  split at h
  · rename_i xv ts td hx hts htd
    have htd' := hT d td htd
    obtain ⟨ud, hus⟩ := (hT s ts hts).has
    have conv : ∀ (E : Operand → Value) (cx r : Value) (w w' : World), E x = cx → (convert s d cx).run P w = .ok r w' → (execOp E o).run P w = .ok (.value r) w' := by
      intro E cx r w w' hcx hr
      simp only [execOp, ho, hcx, Sem.run_bind, hr, Result.andThen_ok]
      rfl
    split at h
    · rename_i k j n hu
      cases h
      refine .inl ⟨rfl, fun ρ S2 w E _ _ hop => ?_⟩
      obtain ⟨cx, hcx, hp⟩ := hop.at (x := x) (by rw [ho]; simp [Op.operands]) hx
      obtain rfl := hp.int_inv
      refine ⟨_, conv E _ _ w _ hcx ?_, .int⟩
      simp only [convert, Sem.run_bind, run_underlying hus, run_underlying (htd'.int hu), Result.andThen_ok, wrapF_eq]
      rfl
    · rename_i k b hu
      unfold retV at h
      cases hr : pureS (Conv.floatToInt .f64 b k) with
      | none => rw [hr] at h; cases h
      | some u =>
        rw [hr] at h
        cases h
        refine .inl ⟨rfl, fun ρ S2 w E _ _ hop => ?_⟩
        obtain ⟨cx, hcx, hp⟩ := hop.at (x := x) (by rw [ho]; simp [Op.operands]) hx
        obtain rfl := hp.float_inv
        refine ⟨v, conv E _ _ w _ hcx ?_, .same ?_⟩
        · simp only [convert, Sem.run_bind, run_underlying hus, run_underlying (htd'.int hu), Result.andThen_ok]
          exact pureS_run hr P w
        · unfold Conv.floatToInt at hr
          split at hr
          · split at hr
            · cases hr; rfl
            · cases hr
          · cases hr
    · rename_i j n hu
      cases h
      refine .inl ⟨rfl, fun ρ S2 w E _ _ hop => ?_⟩
      obtain ⟨cx, hcx, hp⟩ := hop.at (x := x) (by rw [ho]; simp [Op.operands]) hx
      obtain rfl := hp.int_inv
      refine ⟨_, conv E _ _ w _ hcx ?_, .float⟩
      simp only [convert, Sem.run_bind, run_underlying hus, run_underlying (htd'.float hu), Result.andThen_ok]
      rfl
    · rename_i sb hu
      cases h
      refine .inl ⟨rfl, fun ρ S2 w E _ _ hop => ?_⟩
      obtain ⟨cx, hcx, hp⟩ := hop.at (x := x) (by rw [ho]; simp [Op.operands]) hx
      obtain rfl := hp.string_inv
      refine ⟨_, conv E _ _ w _ hcx ?_, .string⟩
      simp only [convert, Sem.run_bind, run_underlying hus, run_underlying (htd'.str hu), Result.andThen_ok]
      rfl
    · rename_i e0 sb hu
      split at h
      · rename_i hb
        obtain ⟨e, k1, k2⟩ := isBytes_ok hT hb
        rw [newBlk_eq] at h
        cases h
        refine .inr ⟨_, rfl, rfl, fun ρ S2 w E hR _ hget hnone hop => ?_⟩
        obtain ⟨cx, hcx, hp⟩ := hop.at (x := x) (by rw [ho]; simp [Op.operands]) hx
        obtain rfl := hp.string_inv
        have hlen : len (strBytes sb.data.toList) = sb.size := by rw [len_eq, strBytes_eq, List.length_map]; rfl
        have hg := grownCap_ge w sb.size 0 e
        have hst := string_bytes_run (P := P) w e sb
        have hexec := conv E _ _ w _ hcx (show (convert s d (.string sb)).run P w = _ from by
          simp only [convert, Sem.run_bind, run_underlying hus, run_underlying k1, run_underlying k2, Result.andThen_ok]
          exact hst)
        refine ⟨_, { cb := w.heap.size, base := 0, ext := len (strBytes sb.data.toList), esz := 1, csz := grownCap w sb.size 0 e, fam := S.next, opn := true }, w.drew, _, rfl, rfl, rfl, rfl, hexec, rfl, rfl, ?_, ?_⟩
        · refine orel_new (all := strBytes sb.data.toList) (all' := strBytes sb.data.toList) (newCells_list _ 1 S.next (len (strBytes sb.data.toList)) true (len_eq _)) (const_rel ?_) ?_ rfl rfl rfl rfl (by simp only; omega) (alloc_get_new _ _) ?_ (.inr (by simp only; exact Nat.le_refl _)) ?_
          · intro u hu2; rw [strBytes_eq] at hu2; obtain ⟨b, _, rfl⟩ := List.mem_map.1 hu2; rfl
          · intro u hu2; rw [strBytes_eq] at hu2; obtain ⟨b, _, rfl⟩ := List.mem_map.1 hu2; rfl
          · simp only [Array.size_append, Array.size_map, Array.size_replicate]
            have : sb.data.size = sb.size := rfl
            omega
          · intro j u hj
            simp only [Nat.zero_add]
            have hj2 : j < (strBytes sb.data.toList).length := (List.getElem?_eq_some_iff.1 hj).1
            rw [strBytes_eq] at hj hj2
            rw [List.length_map] at hj2
            rw [Array.getElem?_append_left (by simpa using hj2)]
            rw [List.getElem?_map] at hj
            rw [Array.getElem?_map]
            simpa using hj
        · rw [hlen]
          have := VRel.slice (ρ := ρ.put S.next { cb := w.heap.size, base := 0, ext := sb.size, esz := 1, csz := grownCap w sb.size 0 e, fam := S.next, opn := true }) (b := S.next) (o := 0) (n := sb.size) (c := sb.size) (c' := grownCap w sb.size 0 e)
            (Rho.put_same _ _ _) (Nat.le_refl _) (by simp) (by simp) (.inr ⟨rfl, by simp, hg, by simp⟩)
          exact this
      · cases h
    · rename_i a n c hu
      split at h
      · rename_i hb
        obtain ⟨e, k1, k2⟩ := isBytes_ok hT hb
        cases h
        refine .inl ⟨rfl, fun ρ S2 w E _ _ hop => ?_⟩
        obtain ⟨cx, hcx, hp⟩ := hop.at (x := x) (by rw [ho]; simp [Op.operands]) hx
        cases hp with
        | same hc =>
          refine ⟨_, conv E _ (.string .empty) w _ hcx ?_, .string⟩
          simp only [convert, Sem.run_bind, run_underlying k1, run_underlying k2, run_underlying (htd'.str hu), Result.andThen_ok]
          rfl
      · rename_i a hb
        obtain ⟨e, k1, k2⟩ := isBytes_ok hT hb
        split at h
        · rename_i cs hl
          unfold retV bytesStr at h
          cases hbs : toBytes cs with
          | none => rw [hbs] at h; cases h
          | some sb =>
            rw [hbs] at h
            cases h
            obtain ⟨ns, rfl, rfl⟩ := toBytes_spec hbs
            refine .inl ⟨rfl, fun ρ S2 w E hR hcond hop => ?_⟩
            have hfoot : footOf T tm o.op = some (a, n) := by rw [ho]; unfold footOf; simp only [hx]
            have hl2 := hcond.foot hfoot hl
            obtain ⟨cx, hcx, hp⟩ := hop.at (x := x) (by rw [ho]; simp [Op.operands]) hx
            have fin : ∀ (a' : Addr) (c' : Nat), (loadCells a' n).run P w = .ok ((ns.map Int.ofNat).map (Value.int .u8)).toArray w → cx = .slice (some a') n c' →
                ∃ cv, (execOp E o).run P w = .ok (.value cv) w ∧ VRel ρ (.string ⟨⟨ns.map UInt8.ofNat⟩⟩) cv := by
              intro a' c' hrun hc
              subst hc
              have hbr := run_bytesToString (P := P) w a' n c' (ns.map Int.ofNat) hrun
              refine ⟨_, conv E _ _ w _ hcx ?_, .string⟩
              simp only [convert, Sem.run_bind, run_underlying k1, run_underlying k2, run_underlying (htd'.str hu), Result.andThen_ok, hbr]
              congr 2
              apply bytes_ext
              rw [foldl_push]
              simp
            cases hp with
            | same hc => simp [constOK] at hc
            | @slice b oo _ _ c' r hbb hn he hc hcap =>
              obtain ⟨l', q1, q2, q3, q4, _⟩ := loadN_run hR hbb hl2
              have hle : l' = (ns.map Int.ofNat).map (Value.int .u8) := by
                apply List.ext_getElem?
                intro j
                cases hj : (ns.map fun n => Value.int .u8 (Int.ofNat n))[j]? with
                | none =>
                  have : (ns.map fun n => Value.int .u8 (Int.ofNat n)).length ≤ j := List.getElem?_eq_none_iff.1 hj
                  have q5 := q1.1
                  rw [List.getElem?_eq_none (by omega), List.getElem?_eq_none (by simp at this ⊢; omega)]
                | some u =>
                  obtain ⟨u', hu1, hu2⟩ := q1.get hj
                  rw [hu1]
                  rw [List.getElem?_map] at hj
                  cases hns : ns[j]? with
                  | none => rw [hns] at hj; cases hj
                  | some q =>
                    rw [hns] at hj
                    cases hj
                    rw [hu2.int_inv]
                    simp [hns]
              refine fin (r.at oo) c' ?_ rfl
              rw [← hle]
              exact q4 P
            | slice0 hbb he =>
              have := loadN_len hl2
              have hns : ns = [] := by simpa using this
              subst hns
              exact fin _ _ (by simp [loadCells, loadCellsFrom]) rfl
        · cases h
      · cases h
    · cases h
  · cases h
end
end Go.AM
