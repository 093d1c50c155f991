/- The abstract machine: what a plan of a region that draws must be; what follows for every order. -/
import Derived.Test.YtbfodilaobkjlaaGreatDoorAm23
namespace Go.AM

noncomputable section
/-- The temporaries that an operation and its guard look at. -/
def readsOf (ops : List Oper) (o : Oper) : List Nat :=
  o.op.operands.toList.filterMap tmpOf ++ (match o.guard with
    | some g => (match ops[g.1]? with
      | some p => (match p.dst with | some d => [d] | none => [])
      | none => [])
    | none => [])

def predsOf (o : Oper) : List Nat := o.after.toList.filterMap fun e => if Region.binds .any e then some e.on else none

def natIn (i : Nat) (l : List Nat) : Bool := l.any fun j => Nat.beq i j

theorem natIn_iff {i : Nat} {l : List Nat} : natIn i l = true ↔ i ∈ l := by
  unfold natIn
  rw [List.any_eq_true]
  constructor
  · rintro ⟨j, h1, h2⟩; rw [Nat.eq_of_beq_eq_true h2]; exact h1
  · intro h; exact ⟨i, h, Nat.beq_refl i⟩

/-- What must come after 'k'. -/
def descOf (ops : List Oper) (k : Nat) (rest : List Nat) (acc : List Nat) : List Nat :=
  match rest with
  | [] => acc
  | i :: rest => descOf ops k rest (match ops[i]? with
    | some o => if (predsOf o).any (fun j => natIn j (k :: acc)) then i :: acc else acc
    | none => acc)

def mayRead (op : Op) : Bool := match op with | .load _ _ | .convert _ _ _ | .lookup _ _ _ _ | .call _ => true | _ => false

def noDst (d : Option Nat) (l : List Nat) : Bool := match d with | none => true | some d => !natIn d l

def dstNe (d e : Option Nat) : Bool := match d, e with | some d, some e => !Nat.beq d e | _, _ => true

def pairChk (ops : List Oper) (k : Nat) (ko : Oper) (D : List Nat) (q : Nat × List Nat) : Bool :=
  match ops[q.1]? with
  | none => false
  | some o =>
    !Nat.beq q.1 k && dstNe ko.dst o.dst && !natIn q.1 (predsOf ko) &&
    (natIn q.1 D || (noDst ko.dst (readsOf ops o) && noDst o.dst (readsOf ops ko) && !isHeavy ko.op && (!mayRead ko.op || !isHeavy o.op || natIn k q.2)))

def planChk (ops : List Oper) : Plan → Bool
  | [] => true
  | (k, _) :: rest => (match ops[k]? with
    | none => false
    | some ko => noDst ko.dst (readsOf ops ko) && !natIn k (predsOf ko) && (predsOf ko).all (fun j => Nat.ble (j + 1) ops.length) &&
      (match descOf ops k (rest.map Prod.fst) [] with | D => rest.all (pairChk ops k ko D))) && planChk ops rest

def planOK (ops : List Oper) (l : Plan) : Bool := planChk ops l && Nat.ble l.length ops.length && (List.range ops.length).all fun i => natIn i (l.map Prod.fst)
end

section
variable (cops : Array Oper)

def Closed (listed : Array Bool) : Prop := ∀ j o, cops[j]? = some o → listed.getD j false = true → ∀ p ∈ predsOf o, listed.getD p false = true

/-- In every order 'k' comes before 'i'. -/
def Dep (k i : Nat) : Prop := ∀ listed : Array Bool, Closed cops listed → (listed.getD i false = true ∨ i ∈ Region.ready .any cops listed) → listed.getD k false = true

structure PairOK (k : Nat) (ko : Oper) (q : Nat × List Nat) (o : Oper) : Prop where
  ne : q.1 ≠ k
  dst : ∀ d, ko.dst = some d → o.dst ≠ some d
  edge : q.1 ∉ predsOf ko
  dep : Dep cops k q.1 ∨ ((∀ d, ko.dst = some d → d ∉ readsOf cops.toList o) ∧ (∀ d, o.dst = some d → d ∉ readsOf cops.toList ko) ∧ isHeavy ko.op = false ∧ (mayRead ko.op = false ∨ isHeavy o.op = false ∨ k ∈ q.2))
end

section
variable {cops : Array Oper}

theorem preds_listed {i : Nat} {o : Oper} {listed : Array Bool} (hi : cops[i]? = some o) (hc : Closed cops listed) (h : listed.getD i false = true ∨ i ∈ Region.ready .any cops listed) : ∀ p ∈ predsOf o, listed.getD p false = true := by
  rcases h with h | h
  · exact hc i o hi h
  · obtain ⟨_, o', ho', he⟩ := mem_ready.1 h
    rw [hi] at ho'; cases ho'
    intro p hp
    obtain ⟨e, he1, he2⟩ := List.mem_filterMap.1 hp
    split at he2
    · rename_i hb; cases he2; exact he e (Array.mem_toList_iff.1 he1) hb
    · cases he2

theorem desc_dep {k : Nat} : ∀ (rest acc : List Nat), (∀ i ∈ acc, Dep cops k i) → ∀ i ∈ descOf cops.toList k rest acc, Dep cops k i := by
  intro rest
  induction rest with
  | nil => intro acc h i hi; exact h i hi
  | cons j rest ih =>
    intro acc h i hi
    refine ih _ ?_ i hi
    intro x hx
    split at hx
    · rename_i o ho
      split at hx
      · rename_i hp
        rcases List.mem_cons.1 hx with rfl | hx
        · obtain ⟨p, hp1, hp2⟩ := List.any_eq_true.1 hp
          have ho' : cops[x]? = some o := by rw [← Array.getElem?_toList]; exact ho
          intro listed hc hl
          have hpl := preds_listed ho' hc hl p hp1
          rcases List.mem_cons.1 (natIn_iff.1 hp2) with rfl | hp3
          · exact hpl
          · exact h p hp3 listed hc (.inl hpl)
        · exact h x hx
      · exact h x hx
    · exact h x hx

theorem noDst_iff {d : Option Nat} {l : List Nat} (h : noDst d l = true) : ∀ x, d = some x → x ∉ l := by
  intro x hx hm
  subst hx
  simp only [noDst, Bool.not_eq_true'] at h
  rw [natIn_iff.2 hm] at h
  cases h

theorem pairChk_ok {k : Nat} {ko : Oper} {rest : List Nat} {q : Nat × List Nat} (h : pairChk cops.toList k ko (descOf cops.toList k rest []) q = true) : ∃ o, cops[q.1]? = some o ∧ PairOK cops k ko q o := by
  unfold pairChk at h
  split at h
  · cases h
  · rename_i o ho
    simp only [Bool.and_eq_true, Bool.not_eq_true', Bool.or_eq_true] at h
    obtain ⟨⟨⟨h1, h2⟩, h3⟩, h4⟩ := h
    refine ⟨o, by rw [← Array.getElem?_toList]; exact ho, ?_, ?_, ?_, ?_⟩
    · intro he; rw [he, Nat.beq_refl] at h1; cases h1
    · intro d hd he
      rw [hd, he] at h2
      simp [dstNe] at h2
    · intro hm; rw [natIn_iff.2 hm] at h3; cases h3
    · rcases h4 with h4 | ⟨⟨⟨h5, h6⟩, h7⟩, h8⟩
      · exact .inl (desc_dep _ _ (by simp) _ (natIn_iff.1 h4))
      · refine .inr ⟨noDst_iff h5, noDst_iff h6, h7, ?_⟩
        rcases h8 with (h8 | h8) | h8
        · exact .inl h8
        · exact .inr (.inl h8)
        · exact .inr (.inr (natIn_iff.1 h8))

/-- What a plan tells of one of its operations, and of that and the later ones. -/
structure HeadOK (k : Nat) (rest : Plan) (ko : Oper) : Prop where
  self : ∀ d, ko.dst = some d → d ∉ readsOf cops.toList ko
  noSelf : k ∉ predsOf ko
  inR : ∀ p ∈ predsOf ko, p < cops.size
  pair : ∀ q ∈ rest, ∃ o, cops[q.1]? = some o ∧ PairOK cops k ko q o

theorem planChk_cons {k : Nat} {js : List Nat} {rest : Plan} (h : planChk cops.toList ((k, js) :: rest) = true) : (∃ ko, cops[k]? = some ko ∧ HeadOK (cops := cops) k rest ko) ∧ planChk cops.toList rest = true := by
  unfold planChk at h
  rw [Bool.and_eq_true] at h
  refine ⟨?_, h.2⟩
  have h := h.1
  split at h
  · cases h
  · rename_i ko hko
    simp only [Bool.and_eq_true, Bool.not_eq_true'] at h
    obtain ⟨⟨⟨h1, h2⟩, h3⟩, h4⟩ := h
    refine ⟨ko, by rw [← Array.getElem?_toList]; exact hko, noDst_iff h1, ?_, ?_, ?_⟩
    · intro hm; rw [natIn_iff.2 hm] at h2; cases h2
    · intro p hp
      have := Nat.le_of_ble_eq_true (List.all_eq_true.1 h3 p hp)
      have h2 : cops.toList.length = cops.size := by simp
      omega
    · intro q hq
      exact pairChk_ok (List.all_eq_true.1 h4 q hq)

theorem planChk_append {past rest : Plan} (h : planChk cops.toList (past ++ rest) = true) : planChk cops.toList rest = true ∧ ∀ k ∈ past, ∃ ko, cops[k.1]? = some ko ∧ (∀ d, ko.dst = some d → d ∉ readsOf cops.toList ko) ∧ ∀ q ∈ rest, ∃ o, cops[q.1]? = some o ∧ PairOK cops k.1 ko q o := by
  induction past with
  | nil => exact ⟨h, by simp⟩
  | cons k past ih =>
    obtain ⟨kk, js⟩ := k
    obtain ⟨⟨ko, h1, h2⟩, h3⟩ := planChk_cons h
    obtain ⟨i1, i2⟩ := ih h3
    refine ⟨i1, fun x hx => ?_⟩
    rcases List.mem_cons.1 hx with rfl | hx
    · exact ⟨ko, h1, h2.self, fun q hq => h2.pair q (List.mem_append.2 (.inr hq))⟩
    · exact i2 x hx

theorem planOK_all {l : Plan} (h : planOK cops.toList l = true) : planChk cops.toList l = true ∧ ∀ i, i < cops.size → ∃ js, (i, js) ∈ l := by
  unfold planOK at h
  rw [Bool.and_eq_true, Bool.and_eq_true] at h
  refine ⟨h.1.1, fun i hi => ?_⟩
  have := List.all_eq_true.1 h.2 i (by simpa using hi)
  obtain ⟨⟨a, b⟩, h1, h2⟩ := List.mem_map.1 (natIn_iff.1 this)
  simp only at h2
  subst h2
  exact ⟨b, h1⟩

theorem planOK_len {l : Plan} (h : planOK cops.toList l = true) : l.length ≤ cops.size := by
  unfold planOK at h
  rw [Bool.and_eq_true, Bool.and_eq_true] at h
  have := Nat.le_of_ble_eq_true h.1.2
  simpa using this

/-- If nothing is ready then everything is listed. -/
theorem all_listed {listed : Array Bool} (hr : Region.ready .any cops listed = []) (hs : listed.size = cops.size) : ∀ (rest past : Plan), planChk cops.toList (past ++ rest) = true → (∀ i, i < cops.size → ∃ js, (i, js) ∈ past ++ rest) →
    (∀ q ∈ past, listed.getD q.1 false = true) → ∀ q ∈ past ++ rest, listed.getD q.1 false = true := by
  intro rest
  induction rest with
  | nil => intro past _ _ hp q hq; rw [List.append_nil] at hq; exact hp q hq
  | cons k rest ih =>
    intro past hc ha hp q hq
    have he : past ++ k :: rest = (past ++ [k]) ++ rest := by simp
    rw [he] at hc ha hq
    refine ih (past ++ [k]) hc ha ?_ q hq
    intro x hx
    rcases List.mem_append.1 hx with hx | hx
    · exact hp x hx
    · rw [List.mem_singleton] at hx
      subst hx
      have hc2 := (planChk_append (past := past) (rest := x :: rest) (by simpa using hc)).1
      obtain ⟨kk, js⟩ := x
      obtain ⟨⟨ko, h1, h2⟩, _⟩ := planChk_cons hc2
      have hk : kk < cops.size := (Array.getElem?_eq_some_iff.1 h1).1
      cases hl : listed.getD kk false with
      | true => rfl
      | false =>
        exfalso
        have : kk ∈ Region.ready .any cops listed := by
          refine mem_ready.2 ⟨?_, ko, h1, fun e hee hb => ?_⟩
          · rw [Array.getD_eq_getD_getElem?, Array.getElem?_eq_getElem (by omega)] at hl ⊢; exact hl
          · have hpe : e.on ∈ predsOf ko := List.mem_filterMap.2 ⟨e, Array.mem_toList_iff.2 hee, by rw [if_pos hb]⟩
            obtain ⟨js2, hm⟩ := ha e.on (h2.inR _ hpe)
            rw [← he, List.mem_append] at hm
            rcases hm with hm | hm
            · exact hp _ hm
            · rcases List.mem_cons.1 hm with hm | hm
              · cases hm; exact absurd hpe h2.noSelf
              · obtain ⟨o, _, h4⟩ := h2.pair _ hm
                exact absurd hpe h4.edge
        rw [hr] at this
        simp at this
end
end Go.AM
