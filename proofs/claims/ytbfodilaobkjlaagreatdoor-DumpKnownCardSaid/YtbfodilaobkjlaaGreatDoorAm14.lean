/- The abstract machine's light operations are the model's: what is built. -/
import Derived.Test.YtbfodilaobkjlaaGreatDoorAm13
namespace Go.AM

theorem over_get {o : Nat} {vs l : List Value} (h : o + vs.length ≤ l.length) (j : Nat) : (over o vs l)[j]? = if o ≤ j ∧ j < o + vs.length then vs[j - o]? else l[j]? := by
  rw [over_eq]
  have ht : (l.take o).length = o := by rw [List.length_take]; omega
  by_cases h1 : j < o
  · rw [if_neg (by omega), List.getElem?_append_left (by omega), List.getElem?_take, if_pos h1]
  · rw [List.getElem?_append_right (by omega), ht]
    by_cases h2 : j < o + vs.length
    · rw [if_pos ⟨by omega, h2⟩, List.getElem?_append_left (by omega)]
    · rw [if_neg (by omega), List.getElem?_append_right (by omega), List.getElem?_drop]
      congr 1; omega

theorem over_length {o : Nat} {vs l : List Value} (h : o + vs.length ≤ l.length) : (over o vs l).length = l.length := by
  rw [over_eq]; simp; omega

theorem foldl_set (off : Nat) : ∀ (vs : List Value) (k : Nat) (cs : Array Value), off + k + vs.length ≤ cs.size →
    ((vs.zipIdx k).foldl (fun (cs : Array Value) p => cs.setIfInBounds (off + p.2) p.1) cs).size = cs.size ∧
    ∀ j, ((vs.zipIdx k).foldl (fun (cs : Array Value) p => cs.setIfInBounds (off + p.2) p.1) cs)[j]? = if off + k ≤ j ∧ j < off + k + vs.length then vs[j - (off + k)]? else cs[j]? := by
  intro vs
  induction vs with
  | nil => intro k cs _; exact ⟨rfl, fun j => by rw [if_neg (fun ⟨a, b⟩ => by simp at b; omega)]; rfl⟩
  | cons v vs ih =>
    intro k cs h
    rw [List.length_cons] at h
    obtain ⟨h1, h2⟩ := ih (k + 1) (cs.setIfInBounds (off + k) v) (by simp; omega)
    simp only [List.zipIdx_cons, List.foldl_cons]
    refine ⟨by rw [h1]; simp, fun j => ?_⟩
    rw [h2 j, List.length_cons]
    by_cases hj : off + k = j
    · subst hj
      rw [if_neg (by omega), if_pos (by omega)]
      have hlt : off + k < cs.size := by omega
      simp [hlt]
    · by_cases h3 : off + (k + 1) ≤ j ∧ j < off + (k + 1) + vs.length
      · rw [if_pos h3, if_pos (by omega), show j - (off + k) = (j - (off + (k + 1))) + 1 from by omega, List.getElem?_cons_succ]
      · rw [if_neg h3, if_neg (by omega), Array.getElem?_setIfInBounds_ne hj]

theorem foldl_over {off : Nat} {a : Array Value} {l : List Value} (h : off + a.size ≤ l.length) :
    (a.zipIdx.foldl (fun (cs : Array Value) (x : Value × Nat) => match x with | (c, j) => cs.setIfInBounds (off + j) c) ⟨l⟩) = ⟨over off a.toList l⟩ := by
  rw [← Array.foldl_toList, Array.toList_zipIdx]
  have hs : a.toList.length = a.size := Array.length_toList
  obtain ⟨h1, h2⟩ := foldl_set off a.toList 0 ⟨l⟩ (by simpa using h)
  apply Array.ext_getElem?
  intro j
  have e : ∀ (cs : Array Value) , (a.toList.zipIdx 0).foldl (fun (cs : Array Value) (x : Value × Nat) => match x with | (c, j) => cs.setIfInBounds (off + j) c) cs = (a.toList.zipIdx 0).foldl (fun (cs : Array Value) p => cs.setIfInBounds (off + p.2) p.1) cs := fun cs => rfl
  rw [e, h2 j]
  have : (⟨over off a.toList l⟩ : Array Value)[j]? = (over off a.toList l)[j]? := by simp
  rw [this, over_get (by omega)]
  simp

def PsRel (ρ : Rho) (ps : List (Nat × Value)) (ps' : List (Nat × Value)) : Prop :=
  ps.length = ps'.length ∧ ∀ (k : Nat) p p', ps[k]? = some p → ps'[k]? = some p' → p.1 = p'.1 ∧ VRel ρ p.2 p'.2

theorem fill_rel {ρ : Rho} {place place' : Nat → Option (Nat × Nat)} (hp : ∀ i x, place i = some x → place' i = some x) : ∀ {ps ps' : List (Nat × Value)} {l l' r : List Value}, PsRel ρ ps ps' → VsRel ρ l l' → (∀ v ∈ l, isOne v = true) →
    fillL place ps l = some r → ∃ r', Instr.fill place' ⟨l'⟩ ps' = some ⟨r'⟩ ∧ VsRel ρ r r' ∧ (∀ v ∈ r, isOne v = true) ∧ r.length = l.length := by
  intro ps
  induction ps with
  | nil =>
    intro ps' l l' r hps hl h1 h
    cases h
    have : ps' = [] := List.eq_nil_of_length_eq_zero hps.1.symm
    subst this
    exact ⟨l', rfl, hl, h1, rfl⟩
  | cons p ps ih =>
    intro ps' l l' r hps hl h1 h
    obtain ⟨i, v⟩ := p
    cases ps' with
    | nil => simp [PsRel] at hps
    | cons p' ps' =>
      obtain ⟨i', v'⟩ := p'
      have hps2 : PsRel ρ ps ps' := ⟨by simpa using hps.1, fun k p p' a b => hps.2 (k + 1) p p' (by simpa using a) (by simpa using b)⟩
      obtain ⟨hi, hv⟩ := hps.2 0 (i, v) (i', v') rfl rfl
      simp only at hi hv
      subst hi
      have e : fillL place ((i, v) :: ps) l = match place i with
        | some (o, n) => match Nat.beq (len (cellsOf v)) n, Nat.ble (Nat.add o n) (len l), noTuple v with
          | true, true, true => fillL place ps (over o (cellsOf v) l)
          | _, _, _ => none
        | none => none := rfl
      rw [e] at h
      cases hpl : place i with
      | none => rw [hpl] at h; cases h
      | some x =>
        obtain ⟨o, n⟩ := x
        rw [hpl] at h
        simp only at h
        split at h
        · rename_i g1 g2 g3
          have g1 := Nat.eq_of_beq_eq_true g1
          have g2 := Nat.le_of_ble_eq_true g2
          rw [len_eq] at g1 g2
          simp only [Nat.add_eq] at g2
          obtain ⟨k1, k2⟩ := cells_rel hv g3
          have k3 : v'.cells.size = n := by rw [← Array.length_toList, ← k1.1, g1]
          have k4 := hl.1
          have hov : VsRel ρ (over o (cellsOf v) l) (over o v'.cells.toList l') := by
            refine ⟨by rw [over_length (by omega), over_length (by rw [Array.length_toList]; omega), k4], fun j u u' a b => ?_⟩
            rw [over_get (by omega)] at a
            rw [over_get (by rw [Array.length_toList]; omega)] at b
            rw [Array.length_toList, k3] at b
            rw [g1] at a
            by_cases hj : o ≤ j ∧ j < o + n
            · rw [if_pos hj] at a b; exact k1.2 _ _ _ a b
            · rw [if_neg hj] at a b; exact hl.2 _ _ _ a b
          have hon : ∀ u ∈ over o (cellsOf v) l, isOne u = true := by
            intro u hu
            obtain ⟨j, hj⟩ := List.getElem?_of_mem hu
            rw [over_get (by omega)] at hj
            split at hj
            · exact k2 u (List.mem_of_getElem? hj)
            · exact h1 u (List.mem_of_getElem? hj)
          obtain ⟨r', q1, q2, q3, q4⟩ := ih hps2 hov hon h
          refine ⟨r', ?_, q2, q3, by rw [q4, over_length (by omega)]⟩
          unfold Instr.fill
          rw [hp _ _ hpl]
          simp only
          rw [if_neg (by rw [k3]; simp; omega), foldl_over (by rw [k3]; omega)]
          exact q1
        · cases h

theorem times_eq (l : List Value) : ∀ n, times l n = (List.replicate n l).flatten := by
  intro n
  induction n with
  | zero => rfl
  | succ n ih => show app l (times l n) = _; rw [app_eq, ih, List.replicate_succ, List.flatten_cons]

section
variable {P : Program} {T : Tr TI} {tm : Tr Value} {S S' : AS} {o : Oper} {v : Value}

theorem evParts_rel {ρ : Rho} {E : Operand → Value} : ∀ {l : List (Nat × Operand)} {ps : List (Nat × Value)}, evParts tm l = some ps → (∀ x ∈ l.map (·.2), ∀ v, ev tm x = some v → VRel ρ v (E x)) →
    PsRel ρ ps (l.map fun (i, x) => (i, E x)) := by
  intro l
  induction l with
  | nil => intro ps h _; cases h; exact ⟨rfl, fun k p p' a => by simp at a⟩
  | cons x l ih =>
    intro ps h hop
    obtain ⟨i, x⟩ := x
    have e : evParts tm ((i, x) :: l) = match ev tm x with
      | some v => match evParts tm l with | some vs => some ((i, v) :: vs) | none => none
      | none => none := rfl
    rw [e] at h
    cases hx : ev tm x with
    | none => rw [hx] at h; cases h
    | some u =>
      rw [hx] at h
      cases hl : evParts tm l with
      | none => rw [hl] at h; cases h
      | some us =>
        rw [hl] at h
        cases h
        obtain ⟨h1, h2⟩ := ih hl fun y hy => hop y (by simp at hy ⊢; exact .inr hy)
        refine ⟨by simpa using h1, fun k p p' a b => ?_⟩
        cases k with
        | zero =>
          simp at a b
          subst a b
          exact ⟨rfl, hop x (by simp) u hx⟩
        | succ k => exact h2 k p p' (by simpa using a) (by simpa using b)

theorem run_mapM_list {α β : Type} (f : α → Sem β) (g : α → β) (w : World) : ∀ (l : List α), (∀ x ∈ l, (f x).run P w = .ok (g x) w) → (l.mapM f).run P w = .ok (l.map g) w := by
  intro l
  induction l with
  | nil => intro _; rfl
  | cons a l ih =>
    intro h
    rw [List.mapM_cons, Sem.run_bind, h a (by simp), Result.andThen_ok, Sem.run_bind, ih fun x hx => h x (by simp [hx])]
    rfl

theorem chkFs_length : ∀ {fs : List (Nat × Nat × Bool)} {gs : List Field}, chkFs P fs gs = true → fs.length = gs.length := by
  intro fs
  induction fs with
  | nil => intro gs h; cases gs <;> simp [chkFs] at h ⊢
  | cons a fs ih =>
    intro gs h
    obtain ⟨a1, a2, a3⟩ := a
    cases gs with
    | nil => simp [chkFs] at h
    | cons g gs => simp only [chkFs, Bool.and_eq_true] at h; simp [ih h.2]

variable (hT : ∀ t ti, T.get t = some ti → TypeOK P t ti)
include hT

theorem lBuild_ok {t : Nat} {parts : Array (Nat × Operand)} (ho : o.op = .build t parts) (h : lBuild T tm S t parts = some (v, S')) : LightOK P T tm o S S' v := by
  unfold lBuild at h
  split at h
  · rename_i ti ps hti hps
    have hto := hT t ti hti
    have fin : ∀ (place place' : Nat → Option (Nat × Nat)) (cs : List Value), (∀ i x, place i = some x → place' i = some x) → fillL place ps ti.zero = some cs → v = mkAgg cs → S' = S →
        (∀ (w : World) (q : Array (Nat × Value)) (z : Value) (r : Array Value), (zeroValue t).run P w = .ok z w → Instr.fill place' z.cells q.toList = some r → (Instr.build t q).run P w = .ok (.agg r) w) → LightOK P T tm o S S' v := by
      intro place place' cs hpp hf hv hS hb
      subst hv hS
      refine .inl ⟨rfl, fun ρ S2 w E hR _ hop => ?_⟩
      have hpr := evParts_rel (E := E) hps fun x hx => hop x (by rw [ho]; simp only [Op.operands]; simpa using hx)
      obtain ⟨z, hz, hzc, _, _⟩ := hto.run_zero w
      obtain ⟨r', q1, q2, q3, _⟩ := fill_rel hpp hpr (const_rel fun u hu => (hto.zok u hu).1) (fun u hu => (hto.zok u hu).2) hf
      refine ⟨.agg ⟨r'⟩, ?_, .agg q2.1 q2.2 q3⟩
      have hzz : z.cells = ⟨ti.zero⟩ := by rw [← hzc]
      have hmp : (parts.map fun (i, x) => (i, E x)).toList = parts.toList.map fun (i, x) => (i, E x) := by simp
      have := hb w (parts.map fun (i, x) => (i, E x)) z ⟨r'⟩ hz (by rw [hzz, hmp]; exact q1)
      simp only [execOp, ho, Sem.run_bind, this, Result.andThen_ok]
      rfl
    split at h
    · rename_i fs hu
      obtain ⟨fields, hd, hck⟩ := hto.strct hu
      split at h
      · rename_i cs hf
        cases h
        have hplaces : ∀ w : World, (fields.mapM fun f => do pure (f.offset, ← sizeOf f.type) : Sem (Array (Nat × Nat))).run P w = .ok (fields.map fun f => (f.offset, ((P.info? f.type).map (·.size)).getD 0)) w := by
          intro w
          have hl : fields = fields.toList.toArray := by simp
          rw [hl, List.mapM_toArray, Sem.run_map, run_mapM_list _ (fun f => (f.offset, ((P.info? f.type).map (·.size)).getD 0))]
          · simp only [Result.andThen_ok]
            congr 1
            apply Array.ext'
            simp
          · intro f hfm
            obtain ⟨k, hk⟩ := List.getElem?_of_mem hfm
            have hlen := chkFs_length hck
            have hkl : k < fs.length := by have := (List.getElem?_eq_some_iff.1 hk).1; omega
            obtain ⟨f2, inf, g1, g2, g3, g4, _⟩ := chkFs_get (i := k) (d := fs[k].1) (n := fs[k].2.1) (g := fs[k].2.2) hck (List.getElem?_eq_getElem hkl)
            rw [hk] at g1
            cases g1
            simp [sizeOf, typeInfo, g3]
        refine fin _ (fun i => (fields.map fun f => (f.offset, ((P.info? f.type).map (·.size)).getD 0))[i]?) cs ?_ hf rfl rfl ?_
        · intro i x hx
          rw [nth_eq] at hx
          split at hx
          · rename_i d n g hfs
            cases hx
            obtain ⟨f2, inf, g1, g2, g3, g4, _⟩ := chkFs_get hck hfs
            have : fields[i]? = some f2 := by simpa using g1
            simp [this, g2, g3, g4]
          · cases hx
        · intro w q z r hz hfl
          unfold Instr.build
          simp only [Sem.run_bind, hz, Result.andThen_ok, run_underlying hd, hplaces w]
          simp only [hfl]
          rfl
      · cases h
    · rename_i n e hu
      split at h
      · rename_i te hte
        have hteo := hT e te hte
        split at h
        · rename_i cs hf
          cases h
          refine fin _ (fun i => some (i * te.size, te.size)) cs (fun i x hx => hx) hf rfl rfl ?_
          intro w q z r hz hfl
          unfold Instr.build
          simp only [Sem.run_bind, hz, Result.andThen_ok, run_underlying (hto.arr hu), hteo.run_size w, hfl]
          rfl
        · cases h
      · cases h
    · cases h
  · cases h

end
end Go.AM
