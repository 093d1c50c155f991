/- The abstract machine's memory against the model's: the trie, values related, worlds related. -/
import Derived.Test.YtbfodilaobkjlaaGreatDoorAm0
namespace Go.AM

/-! The trie -/
theorem Tr.get_leaf {α : Type} (n : Nat) : (Tr.leaf : Tr α).get n = none := rfl
theorem Tr.get_zero {α : Type} (l r : Tr α) (v : Option α) : (Tr.node l v r).get 0 = v := rfl
theorem Tr.get_even {α : Type} (l r : Tr α) (v : Option α) (m : Nat) (h : m % 2 = 0) : (Tr.node l v r).get (m + 1) = l.get (m / 2) := by
  have : (Tr.node l v r).get (m + 1) = Nat.rec (motive := fun _ => Option α) (l.get (m / 2)) (fun _ _ => r.get (m / 2)) (m % 2) := rfl
  rw [this, h]; rfl
theorem Tr.get_odd {α : Type} (l r : Tr α) (v : Option α) (m : Nat) (h : m % 2 = 1) : (Tr.node l v r).get (m + 1) = r.get (m / 2) := by
  have : (Tr.node l v r).get (m + 1) = Nat.rec (motive := fun _ => Option α) (l.get (m / 2)) (fun _ _ => r.get (m / 2)) (m % 2) := rfl
  rw [this, h]; rfl

section
variable {α : Type} (v : α) (f : Nat)
theorem Tr.setF_leaf_zero : Tr.setF v (f + 1) 0 .leaf = .node .leaf (some v) .leaf := rfl
theorem Tr.setF_node_zero (l r : Tr α) (x : Option α) : Tr.setF v (f + 1) 0 (.node l x r) = .node l (some v) r := rfl
theorem Tr.setF_leaf_even (m : Nat) (h : m % 2 = 0) : Tr.setF v (f + 1) (m + 1) .leaf = .node (Tr.setF v f (m / 2) .leaf) none .leaf := by
  have : Tr.setF v (f + 1) (m + 1) .leaf = Nat.rec (motive := fun _ => Tr α) (.node (Tr.setF v f (m / 2) .leaf) none .leaf) (fun _ _ => .node .leaf none (Tr.setF v f (m / 2) .leaf)) (m % 2) := rfl
  rw [this, h]; rfl
theorem Tr.setF_leaf_odd (m : Nat) (h : m % 2 = 1) : Tr.setF v (f + 1) (m + 1) .leaf = .node .leaf none (Tr.setF v f (m / 2) .leaf) := by
  have : Tr.setF v (f + 1) (m + 1) .leaf = Nat.rec (motive := fun _ => Tr α) (.node (Tr.setF v f (m / 2) .leaf) none .leaf) (fun _ _ => .node .leaf none (Tr.setF v f (m / 2) .leaf)) (m % 2) := rfl
  rw [this, h]; rfl
theorem Tr.setF_node_even (l r : Tr α) (x : Option α) (m : Nat) (h : m % 2 = 0) : Tr.setF v (f + 1) (m + 1) (.node l x r) = .node (Tr.setF v f (m / 2) l) x r := by
  have : Tr.setF v (f + 1) (m + 1) (.node l x r) = Nat.rec (motive := fun _ => Tr α) (.node (Tr.setF v f (m / 2) l) x r) (fun _ _ => .node l x (Tr.setF v f (m / 2) r)) (m % 2) := rfl
  rw [this, h]; rfl
theorem Tr.setF_node_odd (l r : Tr α) (x : Option α) (m : Nat) (h : m % 2 = 1) : Tr.setF v (f + 1) (m + 1) (.node l x r) = .node l x (Tr.setF v f (m / 2) r) := by
  have : Tr.setF v (f + 1) (m + 1) (.node l x r) = Nat.rec (motive := fun _ => Tr α) (.node (Tr.setF v f (m / 2) l) x r) (fun _ _ => .node l x (Tr.setF v f (m / 2) r)) (m % 2) := rfl
  rw [this, h]; rfl
end

theorem Tr.get_setF {α : Type} (v : α) : ∀ (f n : Nat) (t : Tr α), n < f → (Tr.setF v f n t).get n = some v := by
  intro f
  induction f with
  | zero => intro n t h; omega
  | succ f ih =>
    intro n t h
    cases n with
    | zero => cases t <;> rfl
    | succ m =>
      rcases Nat.mod_two_eq_zero_or_one m with h2 | h2
      · cases t with
        | leaf => rw [Tr.setF_leaf_even _ _ _ h2, Tr.get_even _ _ _ _ h2]; exact ih _ _ (by omega)
        | node l x r => rw [Tr.setF_node_even _ _ _ _ _ _ h2, Tr.get_even _ _ _ _ h2]; exact ih _ _ (by omega)
      · cases t with
        | leaf => rw [Tr.setF_leaf_odd _ _ _ h2, Tr.get_odd _ _ _ _ h2]; exact ih _ _ (by omega)
        | node l x r => rw [Tr.setF_node_odd _ _ _ _ _ _ h2, Tr.get_odd _ _ _ _ h2]; exact ih _ _ (by omega)

theorem Tr.get_setF_ne {α : Type} (v : α) : ∀ (f n k : Nat) (t : Tr α), n < f → k ≠ n → (Tr.setF v f n t).get k = t.get k := by
  intro f
  induction f with
  | zero => intro n k t h; omega
  | succ f ih =>
    intro n k t h hk
    cases n with
    | zero =>
      cases k with
      | zero => exact absurd rfl hk
      | succ k =>
        rcases Nat.mod_two_eq_zero_or_one k with h2 | h2
        · cases t with
          | leaf => rw [Tr.setF_leaf_zero, Tr.get_even _ _ _ _ h2]; rfl
          | node l x r => rw [Tr.setF_node_zero, Tr.get_even _ _ _ _ h2, Tr.get_even _ _ _ _ h2]
        · cases t with
          | leaf => rw [Tr.setF_leaf_zero, Tr.get_odd _ _ _ _ h2]; rfl
          | node l x r => rw [Tr.setF_node_zero, Tr.get_odd _ _ _ _ h2, Tr.get_odd _ _ _ _ h2]
    | succ m =>
      rcases Nat.mod_two_eq_zero_or_one m with h2 | h2
      · cases t with
        | leaf =>
          rw [Tr.setF_leaf_even _ _ _ h2]
          cases k with
          | zero => rfl
          | succ k =>
            rcases Nat.mod_two_eq_zero_or_one k with h3 | h3
            · rw [Tr.get_even _ _ _ _ h3, ih _ _ _ (by omega) (by omega)]; rfl
            · rw [Tr.get_odd _ _ _ _ h3]; rfl
        | node l x r =>
          rw [Tr.setF_node_even _ _ _ _ _ _ h2]
          cases k with
          | zero => rfl
          | succ k =>
            rcases Nat.mod_two_eq_zero_or_one k with h3 | h3
            · rw [Tr.get_even _ _ _ _ h3, ih _ _ _ (by omega) (by omega), Tr.get_even _ _ _ _ h3]
            · rw [Tr.get_odd _ _ _ _ h3, Tr.get_odd _ _ _ _ h3]
      · cases t with
        | leaf =>
          rw [Tr.setF_leaf_odd _ _ _ h2]
          cases k with
          | zero => rfl
          | succ k =>
            rcases Nat.mod_two_eq_zero_or_one k with h3 | h3
            · rw [Tr.get_even _ _ _ _ h3]; rfl
            · rw [Tr.get_odd _ _ _ _ h3, ih _ _ _ (by omega) (by omega)]; rfl
        | node l x r =>
          rw [Tr.setF_node_odd _ _ _ _ _ _ h2]
          cases k with
          | zero => rfl
          | succ k =>
            rcases Nat.mod_two_eq_zero_or_one k with h3 | h3
            · rw [Tr.get_even _ _ _ _ h3, Tr.get_even _ _ _ _ h3]
            · rw [Tr.get_odd _ _ _ _ h3, ih _ _ _ (by omega) (by omega), Tr.get_odd _ _ _ _ h3]

theorem Tr.get_set {α : Type} (t : Tr α) (n : Nat) (v : α) : (t.set n v).get n = some v := Tr.get_setF v (n + 1) n t (Nat.lt_succ_self n)
theorem Tr.get_set_ne {α : Type} (t : Tr α) (n k : Nat) (v : α) (h : k ≠ n) : (t.set n v).get k = t.get k := Tr.get_setF_ne v (n + 1) n k t (Nat.lt_succ_self n) h
theorem Tr.get_set_if {α : Type} (t : Tr α) (n k : Nat) (v : α) : (t.set n v).get k = if k = n then some v else t.get k := by
  by_cases h : k = n
  · rw [if_pos h, h, Tr.get_set]
  · rw [if_neg h, Tr.get_set_ne _ _ _ _ h]

/-! The lists -/
theorem nth_eq {α : Type} (l : List α) : ∀ n, nth l n = l[n]? := by
  induction l with
  | nil => intro n; rfl
  | cons a l ih =>
    intro n
    cases n with
    | zero => rfl
    | succ m => exact ih m
theorem len_eq {α : Type} (l : List α) : len l = l.length := by
  induction l with
  | nil => rfl
  | cons a l ih => show Nat.succ (len l) = _; rw [ih]; rfl
theorem drop_eq {α : Type} : ∀ (n : Nat) (l : List α), AM.drop n l = l.drop n := by
  intro n
  induction n with
  | zero => intro l; cases l <;> rfl
  | succ n ih => intro l; cases l with | nil => rfl | cons a l => exact ih l
theorem take_eq {α : Type} : ∀ (n : Nat) (l : List α), AM.take n l = l.take n := by
  intro n
  induction n with
  | zero => intro l; cases l <;> rfl
  | succ n ih => intro l; cases l with | nil => rfl | cons a l => show a :: AM.take n l = _; rw [ih]; rfl
theorem app_eq {α : Type} (a b : List α) : app a b = a ++ b := by
  induction a with
  | nil => rfl
  | cons x a ih => show x :: app a b = _; rw [ih]; rfl
theorem over_eq (o : Nat) (vs l : List Value) : over o vs l = l.take o ++ (vs ++ l.drop (o + vs.length)) := by
  unfold over
  rw [app_eq, app_eq, take_eq, drop_eq, len_eq]
  rfl

/-! Values related -/
def isOne (v : Value) : Bool := match v with | .agg _ | .tuple _ => false | _ => true

structure RI where
  cb : Nat
  base : Nat
  ext : Nat
  esz : Nat
  csz : Nat
  fam : Nat
  opn : Bool

abbrev Rho := Nat → Option RI

inductive VRel (ρ : Rho) : Value → Value → Prop
  | same {v : Value} (h : constOK v = true) : VRel ρ v v
  | ptr {b o : Nat} {r : RI} (h : ρ b = some r) : VRel ρ (.pointer (some ⟨b, o, none⟩)) (.pointer (some ⟨r.cb, r.base + o, none⟩))
  | slice {b o n c c' : Nat} {r : RI} (h : ρ b = some r) (hn : n ≤ c) (he : 0 < r.esz) (hc : o + c * r.esz ≤ r.ext)
      (hcap : c' = c ∨ (r.opn = true ∧ o + c * r.esz = r.ext ∧ c ≤ c' ∧ r.base + o + c' * r.esz ≤ r.csz)) :
      VRel ρ (.slice (some ⟨b, o, none⟩) n c) (.slice (some ⟨r.cb, r.base + o, none⟩) n c')
  | slice0 {b o : Nat} {a' : Addr} {r : RI} (h : ρ b = some r) (he : 0 < r.esz) : VRel ρ (.slice (some ⟨b, o, none⟩) 0 0) (.slice (some a') 0 0)
  | map {b : Nat} {r : RI} (h : ρ b = some r) : VRel ρ (.map (some b)) (.map (some r.cb))
  | func {fn : Fn} {f f' c c' : List Value} (hf : f.length = f'.length) (hc : c.length = c'.length)
      (h : ∀ (i : Nat) v v', f[i]? = some v → f'[i]? = some v' → VRel ρ v v') (k : ∀ (i : Nat) v v', c[i]? = some v → c'[i]? = some v' → VRel ρ v v') :
      VRel ρ (.func fn ⟨f⟩ ⟨c⟩) (.func fn ⟨f'⟩ ⟨c'⟩)
  | iface {t : TypeId} {v v' : Value} (h : VRel ρ v v') : VRel ρ (.iface t v) (.iface t v')
  | agg {l l' : List Value} (hl : l.length = l'.length) (h : ∀ (i : Nat) v v', l[i]? = some v → l'[i]? = some v' → VRel ρ v v')
      (ho : ∀ v ∈ l, isOne v = true) : VRel ρ (.agg ⟨l⟩) (.agg ⟨l'⟩)
  | tuple {l l' : List Value} (hl : l.length = l'.length) (h : ∀ (i : Nat) v v', l[i]? = some v → l'[i]? = some v' → VRel ρ v v') :
      VRel ρ (.tuple ⟨l⟩) (.tuple ⟨l'⟩)

def VsRel (ρ : Rho) (l l' : List Value) : Prop := l.length = l'.length ∧ ∀ (i : Nat) v v', l[i]? = some v → l'[i]? = some v' → VRel ρ v v'

def Rho.le (ρ ρ' : Rho) : Prop := ∀ b r, ρ b = some r → ρ' b = some r

theorem VRel.mono {ρ ρ' : Rho} (hl : ρ.le ρ') {v v' : Value} (h : VRel ρ v v') : VRel ρ' v v' := by
  induction h with
  | same h => exact .same h
  | ptr h => exact .ptr (hl _ _ h)
  | slice h hn he hc hcap => exact .slice (hl _ _ h) hn he hc hcap
  | slice0 h he => exact .slice0 (hl _ _ h) he
  | map h => exact .map (hl _ _ h)
  | func hf hc _ _ ih1 ih2 => exact .func hf hc ih1 ih2
  | iface _ ih => exact .iface ih
  | agg hl _ ho ih => exact .agg hl ih ho
  | tuple hl _ ih => exact .tuple hl ih

theorem VsRel.mono {ρ ρ' : Rho} (hl : ρ.le ρ') {l l' : List Value} (h : VsRel ρ l l') : VsRel ρ' l l' := ⟨h.1, fun i v v' a b => (h.2 i v v' a b).mono hl⟩

theorem VsRel.nil {ρ : Rho} : VsRel ρ [] [] := ⟨rfl, fun i v v' h => by simp at h⟩
theorem VsRel.cons {ρ : Rho} {a a' : Value} {l l' : List Value} (h : VRel ρ a a') (hs : VsRel ρ l l') : VsRel ρ (a :: l) (a' :: l') := by
  refine ⟨by simp [hs.1], fun i v v' h1 h2 => ?_⟩
  cases i with
  | zero => simp at h1 h2; subst h1 h2; exact h
  | succ i => simp at h1 h2; exact hs.2 i v v' h1 h2
theorem VsRel.cons_inv {ρ : Rho} {a : Value} {l m : List Value} (h : VsRel ρ (a :: l) m) : ∃ a' l', m = a' :: l' ∧ VRel ρ a a' ∧ VsRel ρ l l' := by
  obtain ⟨h1, h2⟩ := h
  cases m with
  | nil => simp at h1
  | cons a' l' => exact ⟨a', l', rfl, h2 0 a a' rfl rfl, by simpa using h1, fun i v v' x y => h2 (i + 1) v v' (by simpa using x) (by simpa using y)⟩
theorem VsRel.nil_inv {ρ : Rho} {m : List Value} (h : VsRel ρ [] m) : m = [] := by
  have := h.1; cases m with | nil => rfl | cons a l => simp at this
theorem VsRel.append {ρ : Rho} {l l' m m' : List Value} (h : VsRel ρ l l') (k : VsRel ρ m m') : VsRel ρ (l ++ m) (l' ++ m') := by
  refine ⟨by simp [h.1, k.1], fun i v v' h1 h2 => ?_⟩
  have hl := h.1
  by_cases hi : i < l.length
  · rw [List.getElem?_append_left hi] at h1
    rw [List.getElem?_append_left (by omega)] at h2
    exact h.2 i v v' h1 h2
  · rw [List.getElem?_append_right (by omega)] at h1
    rw [List.getElem?_append_right (by omega), ← hl] at h2
    exact k.2 _ v v' h1 h2
theorem VsRel.take {ρ : Rho} {l l' : List Value} (h : VsRel ρ l l') (n : Nat) : VsRel ρ (l.take n) (l'.take n) := by
  refine ⟨by simp [h.1], fun i v v' h1 h2 => ?_⟩
  rw [List.getElem?_take] at h1 h2
  split at h1
  · rename_i hi; rw [if_pos hi] at h2; exact h.2 i v v' h1 h2
  · cases h1
theorem VsRel.drop {ρ : Rho} {l l' : List Value} (h : VsRel ρ l l') (n : Nat) : VsRel ρ (l.drop n) (l'.drop n) := by
  refine ⟨by simp [h.1], fun i v v' h1 h2 => ?_⟩
  rw [List.getElem?_drop] at h1 h2
  exact h.2 _ v v' h1 h2
theorem VsRel.get {ρ : Rho} {l l' : List Value} (h : VsRel ρ l l') {i : Nat} {v : Value} (hv : l[i]? = some v) : ∃ v', l'[i]? = some v' ∧ VRel ρ v v' := by
  have hi : i < l.length := (List.getElem?_eq_some_iff.1 hv).1
  have hi' : i < l'.length := by have := h.1; omega
  exact ⟨l'[i], List.getElem?_eq_getElem hi', h.2 i v _ hv (List.getElem?_eq_getElem hi')⟩

theorem VRel.one {ρ : Rho} {v v' : Value} (h : VRel ρ v v') : isOne v' = isOne v := by
  cases h <;> rfl

end Go.AM
