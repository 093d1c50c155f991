/- The abstract machine's light operations are the model's: maps, slices' literals, lengths; and all of them together. -/
import Derived.Test.YtbfodilaobkjlaaGreatDoorAm16
namespace Go.AM

/-- The types of keys that are aggregates and that the check of keys lets pass. -/
def KeysOK (P : Program) (T : Tr TI) : Prop :=
  ∀ kt ti, T.get kt = some ti → ti.flat = true → ∀ (em : Bool) (a : Array Value) (w : World), a.size = ti.size → (Instr.checkKey em 10000 kt (.agg a)).run P w = .ok () w

inductive ScalarKey (d : TypeDesc) : Value → Prop
  | int {k : IntKind} {j : IntKind} {n : Int} (h : d = .int k) : ScalarKey d (.int j n)
  | str {s : ByteArray} (h : d = .string) : ScalarKey d (.string s)
  | bool {b : Bool} (h : d = .bool) : ScalarKey d (.bool b)

theorem byteArray_beq (a b : ByteArray) : (a == b) = true ↔ a = b := by
  obtain ⟨a⟩ := a; obtain ⟨b⟩ := b
  show (a == b) = true ↔ _
  simp

theorem sameNow_eq {d : TypeDesc} {k x : Value} (hk : ScalarKey d k) {b : Bool} (h : eqScalar k x = some b) : Instr.sameNow d k x = some b ∧ (b = true → x = k) := by
  unfold eqScalar at h
  cases hk with
  | int hd =>
    subst hd
    split at h <;> first | (cases h; done) | skip
    · rename_i heq
      cases heq
      split at h
      · rename_i hj
        have hj := kEq_true hj
        subst hj
        cases h
        refine ⟨?_, fun hb => by rw [eqI_true hb]⟩
        simp [Instr.sameNow, eqI_eq]
      · cases h
    all_goals (rename_i heq; cases heq)
  | str hd =>
    subst hd
    split at h <;> first | (cases h; done) | skip
    · rename_i heq; cases heq
    · rename_i heq
      cases heq
      cases h
      refine ⟨?_, fun hb => by rw [bytes_ext ((bytesEq_iff _ _).1 hb)]⟩
      rename_i a b
      simp only [Instr.sameNow, Option.some.injEq]
      rw [Bool.eq_iff_iff, bytesEq_iff, byteArray_beq]
      exact ⟨fun h => by rw [h], fun h => bytes_ext h⟩
    · rename_i heq; cases heq
  | @bool b0 hd =>
    subst hd
    split at h <;> first | (cases h; done) | skip
    · rename_i heq; cases heq
    · rename_i heq; cases heq
    · rename_i b1 heq
      cases heq
      cases h
      cases b0 <;> cases b1 <;> simp [Instr.sameNow]

theorem EsRel.cons_inv {ρ : Rho} {p : Value × Value} {es : List (Value × Value)} {es' : List MapEntry} (h : EsRel ρ (p :: es) es') : ∃ e es2, es' = e :: es2 ∧ VRel ρ p.1 e.key ∧ VRel ρ p.2 e.val ∧ EsRel ρ es es2 := by
  obtain ⟨h1, h2⟩ := h
  cases es' with
  | nil => simp at h1
  | cons e es2 =>
    obtain ⟨a, b⟩ := h2 0 p e rfl rfl
    exact ⟨e, es2, rfl, a, b, by simpa using h1, fun i p e x y => h2 (i + 1) p e (by simpa using x) (by simpa using y)⟩

theorem eqScalar_rel {ρ : Rho} {k x x' : Value} {b : Bool} (h : eqScalar k x = some b) (hx : VRel ρ x x') : x' = x := by
  unfold eqScalar at h
  split at h
  · exact hx.int_inv
  · exact hx.string_inv
  · exact hx.bool_inv
  · cases h

theorem findE_cons (k : Value) (p : Value × Value) (es : List (Value × Value)) : findE k (p :: es) = match eqScalar k p.1 with
    | some true => some (some p.2)
    | some false => findE k es
    | none => none := by obtain ⟨a, b⟩ := p; rfl

theorem findNow_none {ρ : Rho} {d : TypeDesc} {k : Value} : ∀ {es : List (Value × Value)} {es' : List MapEntry}, (es = [] ∨ ScalarKey d k) → EsRel ρ es es' → ∀ i, findE k es = some none → Instr.findNow d k es' i = some none := by
  intro es
  induction es with
  | nil =>
    intro es' _ he i _
    have : es' = [] := List.eq_nil_of_length_eq_zero he.1.symm
    subst this; rfl
  | cons p es ih =>
    intro es' hk he i h
    have hk : ScalarKey d k := hk.resolve_left (by simp)
    obtain ⟨e, es2, rfl, h1, h2, h3⟩ := he.cons_inv
    rw [findE_cons] at h
    cases hq : eqScalar k p.1 with
    | none => rw [hq] at h; cases h
    | some b =>
      rw [hq] at h
      have hkey := eqScalar_rel hq h1
      cases b with
      | true => cases h
      | false =>
        unfold Instr.findNow
        rw [hkey, (sameNow_eq hk hq).1]
        exact ih (.inr hk) h3 (i + 1) h

theorem findNow_some {ρ : Rho} {d : TypeDesc} {k v : Value} (hk : ScalarKey d k) : ∀ {es : List (Value × Value)} {es' : List MapEntry}, EsRel ρ es es' → ∀ i, findE k es = some (some v) →
    ∃ idx e, idx < es.length ∧ es[idx]? = some (k, v) ∧ es'[idx]? = some e ∧ e.key = k ∧ VRel ρ v e.val ∧ Instr.findNow d k es' i = some (some (i + idx, e.val)) := by
  intro es
  induction es with
  | nil => intro es' _ i h; cases h
  | cons p es ih =>
    intro es' he i h
    obtain ⟨e, es2, rfl, h1, h2, h3⟩ := he.cons_inv
    rw [findE_cons] at h
    cases hq : eqScalar k p.1 with
    | none => rw [hq] at h; cases h
    | some b =>
      rw [hq] at h
      have hkey := eqScalar_rel hq h1
      obtain ⟨s1, s2⟩ := sameNow_eq hk hq
      cases b with
      | true =>
        cases h
        have hpk := s2 rfl
        refine ⟨0, e, by simp, ?_, rfl, by rw [hkey, hpk], h2, ?_⟩
        · obtain ⟨a, b⟩ := p; simp only at hpk; simp [hpk]
        · unfold Instr.findNow; rw [hkey, s1]; rfl
      | false =>
        obtain ⟨idx, e2, q1, q2, q3, q4, q5, q6⟩ := ih h3 (i + 1) h
        refine ⟨idx + 1, e2, by simp; omega, by simpa using q2, by simpa using q3, q4, q5, ?_⟩
        unfold Instr.findNow
        rw [hkey, s1]
        simp only
        rw [q6]
        congr 3; omega

theorem maxI_rel {P : Program} {ρ : Rho} : ∀ {l l' : List Value} {x x' v : Value}, VRel ρ x x' → VsRel ρ l l' → maxI x l = some v → ∀ w : World, ∃ v', (l'.foldlM Builtin.max2 x').run P w = .ok v' w ∧ VRel ρ v v' := by
  intro l
  induction l with
  | nil =>
    intro l' x x' v hx hl h w
    obtain rfl := hl.nil_inv
    cases h
    exact ⟨x', rfl, hx⟩
  | cons y l ih =>
    intro l' x x' v hx hl h w
    obtain ⟨y', l2, rfl, hy, hl2⟩ := hl.cons_inv
    rw [maxI_cons] at h
    split at h
    · rename_i j a k b
      obtain rfl := hx.int_inv
      obtain rfl := hy.int_inv
      split at h
      · rename_i hk
        rw [List.foldlM_cons, Sem.run_bind]
        have hm : (Builtin.max2 (.int j a) (.int k b)).run P w = .ok (.int j (if b > a then b else a)) w := rfl
        rw [hm, Result.andThen_ok]
        cases hlt : ltI a b with
        | true =>
          rw [hlt] at h
          rw [ltI_eq] at hlt
          rw [if_pos (by simpa using hlt)]
          exact ih .int hl2 h w
        | false =>
          rw [hlt] at h
          rw [ltI_eq] at hlt
          rw [if_neg (by simpa using hlt)]
          exact ih .int hl2 h w
      · cases h
    · cases h

theorem minI_rel {P : Program} {ρ : Rho} : ∀ {l l' : List Value} {x x' v : Value}, VRel ρ x x' → VsRel ρ l l' → minI x l = some v → ∀ w : World, ∃ v', (l'.foldlM Builtin.min2 x').run P w = .ok v' w ∧ VRel ρ v v' := by
  intro l
  induction l with
  | nil =>
    intro l' x x' v hx hl h w
    obtain rfl := hl.nil_inv
    cases h
    exact ⟨x', rfl, hx⟩
  | cons y l ih =>
    intro l' x x' v hx hl h w
    obtain ⟨y', l2, rfl, hy, hl2⟩ := hl.cons_inv
    rw [minI_cons] at h
    split at h
    · rename_i j a k b
      obtain rfl := hx.int_inv
      obtain rfl := hy.int_inv
      split at h
      · rename_i hk
        rw [List.foldlM_cons, Sem.run_bind]
        have hm : (Builtin.min2 (.int j a) (.int k b)).run P w = .ok (.int j (if b < a then b else a)) w := rfl
        rw [hm, Result.andThen_ok]
        cases hlt : ltI b a with
        | true =>
          rw [hlt] at h
          rw [ltI_eq] at hlt
          rw [if_pos (by simpa using hlt)]
          exact ih .int hl2 h w
        | false =>
          rw [hlt] at h
          rw [ltI_eq] at hlt
          rw [if_neg (by simpa using hlt)]
          exact ih .int hl2 h w
      · cases h
    · cases h

section
variable {P : Program} {T : Tr TI} {tm : Tr Value} {S S' : AS} {o : Oper} {v : Value}
variable (hT : ∀ t ti, T.get t = some ti → TypeOK P t ti)
include hT

/-- A key that the machine takes: the check lets it pass; it is scalar, or the map must be empty. -/
theorem keyOK_spec (hK : KeysOK P T) {kt : Nat} {k : Value} (h : keyOK T kt k = true) {ρ : Rho} {k' : Value} (hv : VRel ρ k k') (em : Bool) (w : World) :
    ∃ d, P.underlying kt = some d ∧ (Instr.checkKey em 10000 kt k').run P w = .ok () w ∧ ((ScalarKey d k ∧ k' = k) ∨ ∃ a, k = .agg a) := by
  unfold keyOK at h
  split at h
  · cases h
  · rename_i ti hti
    have hto := hT kt ti hti
    have scal : ∀ (d : TypeDesc) (x : Value), P.underlying kt = some d → (∀ ms, d ≠ .interface ms) → (∀ n e, d ≠ .array n e) → (∀ fs, d ≠ .struct fs) → (Instr.checkKey em 10000 kt x).run P w = .ok () w := by
      intro d x hd h1 h2 h3
      show (Instr.checkKey em (9999 + 1) kt x).run P w = _
      unfold Instr.checkKey
      simp only [Sem.run_bind, run_underlying hd, Result.andThen_ok]
      cases d <;> first | rfl | (exact absurd rfl (h1 _)) | (exact absurd rfl (h2 _ _)) | (exact absurd rfl (h3 _))
    split at h
    · rename_i kk j n hu
      refine ⟨_, hto.int hu, scal _ _ (hto.int hu) (by simp) (by simp) (by simp), .inl ⟨.int rfl, hv.int_inv⟩⟩
    · rename_i s hu
      exact ⟨_, hto.str hu, scal _ _ (hto.str hu) (by simp) (by simp) (by simp), .inl ⟨.str rfl, hv.string_inv⟩⟩
    · rename_i b hu
      exact ⟨_, hto.bool hu, scal _ _ (hto.bool hu) (by simp) (by simp) (by simp), .inl ⟨.bool rfl, hv.bool_inv⟩⟩
    · rename_i a _ _ _
      split at h
      · rename_i hfl
        have hsz := Nat.eq_of_beq_eq_true h
        rw [len_eq] at hsz
        obtain ⟨d, hd⟩ := hto.has
        cases hv with
        | same hc => simp [constOK] at hc
        | @agg l l' hl hh h1 =>
          refine ⟨d, hd, hK kt ti hti hfl em ⟨l'⟩ w (by simp at hsz ⊢; omega), .inr ⟨_, rfl⟩⟩
      · cases h
    · cases h

def resV (res : Option (Nat × Value)) (z : Value) : Value := match res with | some (_, u) => u | none => z

omit hT in
theorem findE_agg {a : Array Value} {es : List (Value × Value)} {r : Option Value} (h : findE (.agg a) es = some r) : es = [] := by
  cases es with
  | nil => rfl
  | cons p es => rw [findE_cons] at h; simp [eqScalar] at h

theorem lLookup_ok (hK : KeysOK P T) {t : Nat} {x k : Operand} {ok : Bool} (ho : o.op = .lookup t x k ok) (h : lLookup T tm S t x k ok = some (v, S')) : LightOK P T tm o S S' v := by
  unfold lLookup at h
  split at h
  · rename_i r kv ti hx hk hti
    have hto := hT t ti hti
    split at h
    · rename_i kt et hu
      unfold retV at h
      cases hr : lLookupV T S kt et r kv ok with
      | none => rw [hr] at h; cases h
      | some u =>
        rw [hr] at h
        cases h
        refine .inl ⟨rfl, fun ρ S2 w E hR hc hop => ?_⟩
        have hall := hc.strict (by rw [ho]; rfl)
        obtain ⟨cx, hcx, hp⟩ := hop.at (x := x) (by rw [ho]; simp [Op.operands]) hx
        obtain ⟨ck, hck, hq⟩ := hop.at (x := k) (by rw [ho]; simp [Op.operands]) hk
        unfold lLookupV at hr
        split at hr
        · rename_i te es hte hkey hes
          have hteo := hT et te hte
          -- the entries
          have hent : ∃ es' : Array MapEntry, EsRel ρ es es'.toList ∧ ((cx = .map none ∧ es' = #[]) ∨ ∃ q clock, cx = .map (some q) ∧ (getObj q).run P w = .ok (.map es' clock) w) := by
            cases r with
            | none =>
              cases hes
              cases hp
              exact ⟨#[], ⟨rfl, fun i p e h => by simp at h⟩, .inl ⟨rfl, rfl⟩⟩
            | some r =>
              simp only at hes
              unfold getMap at hes
              split at hes
              · rename_i es2 hg
                cases hes
                cases hp with
                | same hc => simp [constOK] at hc
                | @map _ ri hb =>
                  obtain ⟨O, hO, hrel⟩ := hR.obj _ _ hb
                  rw [hall.1 _ _ hg] at hO
                  cases hO
                  obtain ⟨_, es', clock, hw, her⟩ := hrel
                  exact ⟨es', her, .inr ⟨ri.cb, clock, rfl, by simp [getObj, Sem.run, hw]⟩⟩
              · cases hes
          obtain ⟨es', her, hcase⟩ := hent
          obtain ⟨d, hd, hchk, hsc⟩ := keyOK_spec hT hK hkey hq es'.isEmpty w
          have hexec : ∀ (res : Option (Nat × Value)) (z : Value), Instr.findNow d ck es'.toList 0 = some res → (res = none → (zeroValue et).run P w = .ok z w) →
              (execOp E o).run P w = .ok (.value (okV ok (resV res z) res.isSome)) w := by
            intro res z hf hz
            have hlk : (Instr.lookup t cx ck ok).run P w = .ok (okV ok (resV res z) res.isSome) w := by
              unfold Instr.lookup
              simp only [Sem.run_bind, run_underlying (hto.map hu), Result.andThen_ok]
              have hfk : (Instr.findKey kt ck es'.toList).run P w = .ok res w := by
                unfold Instr.findKey
                simp only [Sem.run_bind, run_underlying hd, Result.andThen_ok, hf]
                rfl
              rcases hcase with ⟨rfl, rfl⟩ | ⟨q, clock, rfl, hg⟩
              · simp only [Sem.run_bind, Sem.run_pure, Result.andThen_ok, hchk, hfk]
                cases res with
                | none => simp only [Sem.run_bind, hz rfl, Result.andThen_ok]; cases ok <;> rfl
                | some p => obtain ⟨i, u⟩ := p; cases ok <;> rfl
              · simp only [Sem.run_bind, hg, Sem.run_pure, Result.andThen_ok, hchk, hfk]
                cases res with
                | none => simp only [Sem.run_bind, hz rfl, Result.andThen_ok]; cases ok <;> rfl
                | some p => obtain ⟨i, u⟩ := p; cases ok <;> rfl
            simp only [execOp, ho, hcx, hck, Sem.run_bind, hlk, Result.andThen_ok]
            rfl
          have hokV : ∀ {a a' : Value} (b : Bool), VRel ρ a a' → VRel ρ (okV ok a b) (okV ok a' b) := by
            intro a a' b ha
            cases ok with
            | false => exact ha
            | true => have hh := VsRel.cons ha (VsRel.cons (VRel.bool (b := b)) VsRel.nil); exact .tuple hh.1 hh.2
          split at hr
          · rename_i u _ hf
            cases hr
            rcases hsc with ⟨hs, rfl⟩ | ⟨a, rfl⟩
            · obtain ⟨idx, e, _, _, _, _, q5, q6⟩ := findNow_some hs her 0 hf
              exact ⟨_, hexec _ undef q6 (by simp), hokV true q5⟩
            · have := findE_agg hf; subst this; cases hf
          · rename_i z hf hz
            cases hr
            have hz' : zeroV te = some z := hz
            obtain ⟨cz, z1, z2⟩ := zeroV_rel hteo hz' ρ w
            have hfn : Instr.findNow d ck es'.toList 0 = some none := by
              rcases hsc with ⟨hs, rfl⟩ | ⟨a, rfl⟩
              · exact findNow_none (.inr hs) her 0 hf
              · have he := findE_agg hf
                subst he
                have : es'.toList = [] := List.eq_nil_of_length_eq_zero her.1.symm
                rw [this]; rfl
            exact ⟨_, hexec none cz hfn (fun _ => z1), hokV false z2⟩
          · cases hr
        · cases hr
    · cases h
  · cases h
theorem lCallB_ok {b : Builtin} {args : Array Operand} {argTypes : Array TypeId} {c : Call} (ho : o.op = .call c) (hc0 : c = { callee := .builtin b, args := args, argTypes := argTypes }) (h : lCallB T tm S b args argTypes = some (v, S')) : LightOK P T tm o S S' v := by
  subst hc0
  have hmem : ∀ x ∈ args.toList, x ∈ o.op.operands := by
    intro x hx
    rw [ho]
    simp only [Op.operands, Call.operands]
    simpa using hx
  have hexec : ∀ (E : Operand → Value) (w : World) (vs : List Value) (r : Value), args.toList.map E = vs → (builtin b argTypes o.type (args.map fun | .const _ => true | _ => false) ⟨vs⟩).run P w = .ok (.value r) w → (execOp E o).run P w = .ok (.value r) w := by
    intro E w vs r hvs hr
    have hm : args.map E = ⟨vs⟩ := by apply Array.ext'; simp [hvs]
    simp only [execOp, ho, resolve, hm, Sem.run_bind, Sem.run_pure, Result.andThen_ok, invoke]
    exact hr
  have one : ∀ {l : List Value} {ρ : Rho} {E : Operand → Value}, evs tm args.toList = some l → Hop ρ tm E o.op → VsRel ρ l (args.toList.map E) :=
    fun hl hop => evs_rel hl fun x hx => hop x (hmem x hx)
  unfold lCallB at h
  split at h
  · rename_i x t hev htl
    unfold retV at h
    cases hr : lLen T S t x with
    | none => rw [hr] at h; cases h
    | some u =>
      rw [hr] at h
      cases h
      refine .inl ⟨rfl, fun ρ S2 w E hR hcond hop => ?_⟩
      obtain ⟨cx, l2, hcl, hp, hl2⟩ := (one hev hop).cons_inv
      obtain rfl := hl2.nil_inv
      have hat : argTypes = #[t] := by apply Array.ext'; simpa using htl
      subst hat
      have fin : ∀ (n : Int), (Builtin.len_ #[t] o.type #[cx]).run P w = .ok (goInt n) w → v = .int .i64 n → ∃ cv, (execOp E o).run P w = .ok (.value cv) w ∧ VRel ρ v cv := by
        intro n hn hv
        subst hv
        refine ⟨_, hexec E w [cx] _ hcl ?_, .int⟩
        simp only [builtin, Sem.run_bind]
        rw [hn]; rfl
      unfold lLen at hr
      split at hr
      · rename_i ti hti
        have hto := hT t ti hti
        split at hr
        · rename_i s hu
          cases hr
          obtain rfl := hp.string_inv
          refine fin (Int.ofNat (len s.data.toList)) ?_ rfl
          rw [len_eq]
          simp only [Builtin.len_, Sem.run_bind, run_underlying (hto.str hu), Result.andThen_ok, List.getElem?_toArray, List.getElem?_cons_zero]
          rfl
        · rename_i e a n c hu
          cases hr
          refine fin (Int.ofNat n) ?_ rfl
          cases hp <;> (simp only [Builtin.len_, Sem.run_bind, run_underlying (hto.slice hu), Result.andThen_ok, List.getElem?_toArray, List.getElem?_cons_zero]; rfl)
        · rename_i k e hu
          cases hr
          refine fin (Int.ofNat 0) ?_ rfl
          cases hp
          simp only [Builtin.len_, Sem.run_bind, run_underlying (hto.map hu), Result.andThen_ok, List.getElem?_toArray, List.getElem?_cons_zero]
          rfl
        · rename_i k e q hu
          split at hr
          · rename_i es hg
            cases hr
            unfold getMap at hg
            split at hg
            · rename_i es2 hg2
              cases hg
              cases hp with
              | same hc => simp [constOK] at hc
              | @map _ ri hb =>
                have hall := hcond.strict (by
                  rw [ho]
                  unfold strictOp
                  simp only [hev])
                obtain ⟨O, hO, hrel⟩ := hR.obj _ _ hb
                rw [hall.1 _ _ hg2] at hO
                cases hO
                obtain ⟨_, es', clock, hw, her⟩ := hrel
                refine fin (Int.ofNat (len es)) ?_ rfl
                have hlen : len es = es'.size := by rw [len_eq, her.1]; simp
                have hgo : (getObj ri.cb).run P w = .ok (.map es' clock) w := by simp [getObj, Sem.run, hw]
                rw [hlen]
                simp only [Builtin.len_, Sem.run_bind, run_underlying (hto.map hu), Result.andThen_ok, List.getElem?_toArray, List.getElem?_cons_zero, hgo]
                rfl
            · cases hg
          · cases hr
        · rename_i n e hu
          cases hr
          refine fin (Int.ofNat n) ?_ rfl
          simp only [Builtin.len_, Sem.run_bind, run_underlying (hto.arr hu), Result.andThen_ok, List.getElem?_toArray, List.getElem?_cons_zero]
          cases cx <;> rfl
        · cases hr
      · cases hr
  · rename_i x t hev htl
    unfold retV at h
    cases hr : lCap T S t x with
    | none => rw [hr] at h; cases h
    | some u =>
      rw [hr] at h
      cases h
      refine .inl ⟨rfl, fun ρ S2 w E hR hcond hop => ?_⟩
      obtain ⟨cx, l2, hcl, hp, hl2⟩ := (one hev hop).cons_inv
      obtain rfl := hl2.nil_inv
      have hat : argTypes = #[t] := by apply Array.ext'; simpa using htl
      subst hat
      have fin : ∀ (n : Int), (Builtin.cap_ #[t] o.type #[cx]).run P w = .ok (goInt n) w → v = .int .i64 n → ∃ cv, (execOp E o).run P w = .ok (.value cv) w ∧ VRel ρ v cv := by
        intro n hn hv
        subst hv
        refine ⟨_, hexec E w [cx] _ hcl ?_, .int⟩
        simp only [builtin, Sem.run_bind]
        rw [hn]; rfl
      unfold lCap at hr
      split at hr
      · rename_i ti a n c hti
        have hto := hT t ti hti
        split at hr
        · rename_i e hu
          cases hr
          refine fin (Int.ofNat c) ?_ rfl
          cases hp
          simp only [Builtin.cap_, Sem.run_bind, run_underlying (hto.slice hu), Result.andThen_ok, List.getElem?_toArray, List.getElem?_cons_zero]
          rfl
        · rename_i e b oo hu
          split at hr
          · rename_i B hB
            split at hr
            · rename_i hop2
              cases hr
              refine fin (Int.ofNat c) ?_ rfl
              have hcc : ∀ c', (∃ a', cx = .slice a' n c') → c' = c → (Builtin.cap_ #[t] o.type #[cx]).run P w = .ok (goInt (Int.ofNat c)) w := by
                rintro c' ⟨a', rfl⟩ rfl
                simp only [Builtin.cap_, Sem.run_bind, run_underlying (hto.slice hu), Result.andThen_ok, List.getElem?_toArray, List.getElem?_cons_zero]
                rfl
              cases hp with
              | same hc => simp [constOK] at hc
              | slice0 hb he => exact hcc 0 ⟨_, rfl⟩ rfl
              | @slice _ _ _ _ c' r hb hn he hc hcap =>
                refine hcc c' ⟨_, rfl⟩ ?_
                obtain ⟨e1, e2, e3⟩ := statBlk_rel hR hcond.stat hb hB
                rcases hcap with hcap | ⟨p1, p2, _, _⟩
                · exact hcap
                · have := isOpen_false hop2 (e3.trans p1)
                  rw [e1, e2] at this
                  exact absurd p2 this
            · cases hr
          · cases hr
        · cases hr
      · cases hr
  · rename_i _ _ x l hev
    unfold retV at h
    cases hr : maxI x l with
    | none => rw [hr] at h; cases h
    | some u =>
      rw [hr] at h
      cases h
      refine .inl ⟨rfl, fun ρ S2 w E hR hcond hop => ?_⟩
      obtain ⟨cx, l2, hcl, hp, hl2⟩ := (one hev hop).cons_inv
      obtain ⟨cv, k1, k2⟩ := maxI_rel (P := P) hp hl2 hr w
      refine ⟨cv, hexec E w (cx :: l2) _ hcl ?_, k2⟩
      simp only [builtin, Sem.run_bind, Builtin.max_]
      rw [k1]; rfl
  · rename_i _ _ x l hev
    unfold retV at h
    cases hr : minI x l with
    | none => rw [hr] at h; cases h
    | some u =>
      rw [hr] at h
      cases h
      refine .inl ⟨rfl, fun ρ S2 w E hR hcond hop => ?_⟩
      obtain ⟨cx, l2, hcl, hp, hl2⟩ := (one hev hop).cons_inv
      obtain ⟨cv, k1, k2⟩ := minI_rel (P := P) hp hl2 hr w
      refine ⟨cv, hexec E w (cx :: l2) _ hcl ?_, k2⟩
      simp only [builtin, Sem.run_bind, Builtin.min_]
      rw [k1]; rfl
  · cases h
end
end Go.AM
