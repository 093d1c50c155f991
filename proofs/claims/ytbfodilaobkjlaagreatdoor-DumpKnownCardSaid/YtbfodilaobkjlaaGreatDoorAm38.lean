/- The abstract machine without its fuel: what code comes to, rule by rule. -/
import Derived.Test.YtbfodilaobkjlaaGreatDoorAm37
namespace Go.AM

/-- A part of code, by the way to it. -/
def cAt : List Nat → Code → Code
  | [], c => c
  | k :: p, .seq x y => match k with | 0 => cAt p x | _ => cAt p y
  | k :: p, .cond _ x y => match k with | 0 => cAt p x | _ => cAt p y
  | _ :: p, .block _ x => cAt p x
  | _ :: p, .loop x => cAt p x
  | _, c => c

def bodyOf (f : Func) : Code := match f.body with | some c => c | none => .skip

section
variable (T : Tr TI) (X : Exts) (F : Tr FT)

/-- With fuel enough. -/
def Runs (pl : Nat → Option Plan) (c : Code) (a : AAct) (S : AS) (e : AExit) (a' : AAct) (S' : AS) : Prop :=
  ∃ k, ∀ m, k ≤ m → ∀ fuel, k ≤ fuel → ∀ n, k ≤ n → code T X (callA T X F fuel n false) pl m c a S = some (.mk e a' S')

def RegRuns (ops l : List Oper) (a : AAct) (S : AS) (r : AReg) : Prop :=
  ∃ k, ∀ fuel, k ≤ fuel → ∀ n, k ≤ n → seqOps T X none (callA T X F fuel n false) ops l a S = some r

def CallRuns (f : Nat) (args : List Value) (S : AS) (e : AEnd) : Prop :=
  ∃ k, ∀ fuel, k ≤ fuel → ∀ n, k ≤ n → callA T X F fuel n false f args S = some e
end

section
variable {T : Tr TI} {X : Exts} {F : Tr FT} {pl : Nat → Option Plan} {c x y z : Code} {a a1 a2 : AAct} {S S1 S2 : AS} {e : AExit}

theorem Runs.skip : Runs T X F pl .skip a S .normal a S :=
  ⟨1, fun m hm _ _ _ _ => by cases m with | zero => omega | succ m => rfl⟩
theorem Runs.ret : Runs T X F pl .ret a S .ret a S :=
  ⟨1, fun m hm _ _ _ _ => by cases m with | zero => omega | succ m => rfl⟩
theorem Runs.exit {id : Nat} : Runs T X F pl (.exit id) a S (.exit id) a S :=
  ⟨1, fun m hm _ _ _ _ => by cases m with | zero => omega | succ m => rfl⟩

theorem Runs.seq (h : Runs T X F pl x a S .normal a1 S1) (k : Runs T X F pl y a1 S1 e a2 S2) : Runs T X F pl (.seq x y) a S e a2 S2 := by
  obtain ⟨i, h⟩ := h
  obtain ⟨j, k⟩ := k
  refine ⟨max i j + 1, fun m hm fuel hf n hn => ?_⟩
  cases m with
  | zero => omega
  | succ m =>
    have e0 : code T X (callA T X F fuel n false) pl (m + 1) (.seq x y) a S = match code T X (callA T X F fuel n false) pl m x a S with
        | some (.mk .normal a S) => code T X (callA T X F fuel n false) pl m y a S
        | r => r := rfl
    rw [e0, h m (by omega) fuel (by omega) n (by omega)]
    exact k m (by omega) fuel (by omega) n (by omega)

theorem Runs.seqOut (h : Runs T X F pl x a S e a1 S1) (hne : e ≠ .normal) : Runs T X F pl (.seq x y) a S e a1 S1 := by
  obtain ⟨i, h⟩ := h
  refine ⟨i + 1, fun m hm fuel hf n hn => ?_⟩
  cases m with
  | zero => omega
  | succ m =>
    have e0 : code T X (callA T X F fuel n false) pl (m + 1) (.seq x y) a S = match code T X (callA T X F fuel n false) pl m x a S with
        | some (.mk .normal a S) => code T X (callA T X F fuel n false) pl m y a S
        | r => r := rfl
    rw [e0, h m (by omega) fuel (by omega) n (by omega)]
    cases e <;> first | rfl | exact absurd rfl hne

theorem Runs.condT {v : Operand} (hv : ev a.tmps v = some (.bool true)) (h : Runs T X F pl x a S e a1 S1) : Runs T X F pl (.cond v x y) a S e a1 S1 := by
  obtain ⟨i, h⟩ := h
  refine ⟨i + 1, fun m hm fuel hf n hn => ?_⟩
  cases m with
  | zero => omega
  | succ m =>
    have e0 : code T X (callA T X F fuel n false) pl (m + 1) (.cond v x y) a S = match ev a.tmps v with
        | some (.bool true) => code T X (callA T X F fuel n false) pl m x a S
        | some (.bool false) => code T X (callA T X F fuel n false) pl m y a S
        | _ => none := rfl
    rw [e0, hv]
    exact h m (by omega) fuel (by omega) n (by omega)

theorem Runs.condF {v : Operand} (hv : ev a.tmps v = some (.bool false)) (h : Runs T X F pl y a S e a1 S1) : Runs T X F pl (.cond v x y) a S e a1 S1 := by
  obtain ⟨i, h⟩ := h
  refine ⟨i + 1, fun m hm fuel hf n hn => ?_⟩
  cases m with
  | zero => omega
  | succ m =>
    have e0 : code T X (callA T X F fuel n false) pl (m + 1) (.cond v x y) a S = match ev a.tmps v with
        | some (.bool true) => code T X (callA T X F fuel n false) pl m x a S
        | some (.bool false) => code T X (callA T X F fuel n false) pl m y a S
        | _ => none := rfl
    rw [e0, hv]
    exact h m (by omega) fuel (by omega) n (by omega)

theorem Runs.cond {v : Operand} {b : Bool} (hv : ev a.tmps v = some (.bool b)) (h : Runs T X F pl (match b with | true => x | false => y) a S e a1 S1) : Runs T X F pl (.cond v x y) a S e a1 S1 := by
  cases b with
  | true => exact .condT hv h
  | false => exact .condF hv h

/-- What a block makes of an exit. -/
def blockE (id : Nat) : AExit → AExit
  | .exit id' => match Nat.beq id' id with | true => .normal | false => .exit id'
  | e => e

theorem Runs.block {id : Nat} (h : Runs T X F pl x a S e a1 S1) : Runs T X F pl (.block id x) a S (blockE id e) a1 S1 := by
  obtain ⟨i, h⟩ := h
  refine ⟨i + 1, fun m hm fuel hf n hn => ?_⟩
  cases m with
  | zero => omega
  | succ m =>
    have e0 : code T X (callA T X F fuel n false) pl (m + 1) (.block id x) a S = match code T X (callA T X F fuel n false) pl m x a S with
        | some (.mk (.exit id') a S) => match Nat.beq id' id with
          | true => some (.mk .normal a S)
          | false => some (.mk (.exit id') a S)
        | r => r := rfl
    rw [e0, h m (by omega) fuel (by omega) n (by omega)]
    cases e with
    | exit id' => simp only [blockE]; cases Nat.beq id' id <;> rfl
    | _ => rfl

theorem Runs.block_exit {id : Nat} (h : Runs T X F pl x a S (.exit id) a1 S1) : Runs T X F pl (.block id x) a S .normal a1 S1 := by
  have := Runs.block (id := id) h
  simpa [blockE] using this

theorem Runs.block_normal {id : Nat} (h : Runs T X F pl x a S .normal a1 S1) : Runs T X F pl (.block id x) a S .normal a1 S1 := Runs.block (id := id) h

theorem Runs.again (h : Runs T X F pl x a S .normal a1 S1) (k : Runs T X F pl (.loop x) a1 S1 e a2 S2) : Runs T X F pl (.loop x) a S e a2 S2 := by
  obtain ⟨i, h⟩ := h
  obtain ⟨j, k⟩ := k
  refine ⟨max i j + 1, fun m hm fuel hf n hn => ?_⟩
  cases m with
  | zero => omega
  | succ m =>
    have e0 : code T X (callA T X F fuel n false) pl (m + 1) (.loop x) a S = match code T X (callA T X F fuel n false) pl m x a S with
        | some (.mk .normal a S) => code T X (callA T X F fuel n false) pl m (.loop x) a S
        | r => r := rfl
    rw [e0, h m (by omega) fuel (by omega) n (by omega)]
    exact k m (by omega) fuel (by omega) n (by omega)

theorem Runs.leave (h : Runs T X F pl x a S e a1 S1) (hne : e ≠ .normal) : Runs T X F pl (.loop x) a S e a1 S1 := by
  obtain ⟨i, h⟩ := h
  refine ⟨i + 1, fun m hm fuel hf n hn => ?_⟩
  cases m with
  | zero => omega
  | succ m =>
    have e0 : code T X (callA T X F fuel n false) pl (m + 1) (.loop x) a S = match code T X (callA T X F fuel n false) pl m x a S with
        | some (.mk .normal a S) => code T X (callA T X F fuel n false) pl m (.loop x) a S
        | r => r := rfl
    rw [e0, h m (by omega) fuel (by omega) n (by omega)]
    cases e <;> first | rfl | exact absurd rfl hne

theorem Runs.region {id : Nat} {ops : Array Oper} (h : RegRuns T X F ops.toList ops.toList a S (.norm a1 S1)) : Runs T X F pl (.region id ops false) a S .normal a1 S1 := by
  obtain ⟨i, h⟩ := h
  refine ⟨i + 1, fun m hm fuel hf n hn => ?_⟩
  cases m with
  | zero => omega
  | succ m =>
    have e0 : code T X (callA T X F fuel n false) pl (m + 1) (.region id ops false) a S = match seqOps T X none (callA T X F fuel n false) ops.toList ops.toList a S with
          | some (.norm a S) => some (.mk .normal a S)
          | some (.pan v a S) => some (.mk (.pan v) a S)
          | none => none := rfl
    rw [e0, h fuel (by omega) n (by omega)]

/-! Regions -/
variable {ops l : List Oper} {o : Oper} {r : AReg} {v : Value}

theorem RegRuns.nil : RegRuns T X F ops [] a S (.norm a S) := ⟨0, fun _ _ _ _ => rfl⟩

theorem RegRuns.light (hg : o.guard = none) (hh : isHeavy o.op = false) (h : lightD o.op T a.tmps S = some (v, S1))
    (k : RegRuns T X F ops l ⟨putTmp a.tmps o.dst v, a.defers⟩ S1 r) : RegRuns T X F ops (o :: l) a S r := by
  obtain ⟨i, k⟩ := k
  refine ⟨i, fun fuel hf n hn => ?_⟩
  have e0 : ∀ call, seqOps T X none call ops (o :: l) a S = kReg (oneOp T X none call ops o a S) (seqOps T X none call ops l) := fun _ => rfl
  rw [e0]
  have e1 : ∀ call, oneOp T X none call ops o a S = some (.norm ⟨putTmp a.tmps o.dst v, a.defers⟩ S1) := by
    intro call
    unfold oneOp wantedA
    rw [hg]
    show oneRun T X none call o a S = _
    unfold oneRun
    rw [hh]
    show oneLight T o a S = _
    unfold oneLight
    rw [h]
    rfl
  rw [e1]
  exact k fuel hf n hn

/-! Operations -/
variable {tm : Tr Value} {ty t : Nat} {p q : Operand} {u : Value}

theorem l_move (h : ev tm p = some v) : lightD (.move p) T tm S = some (v, S) := by
  show retV (ev tm p) S = _
  rw [h]; rfl
theorem l_assign (h : ev tm p = some v) : lightD (.assign p) T tm S = some (v, S) := by
  show retV (ev tm p) S = _
  rw [h]; rfl
theorem l_binI {op : BinOp} {j k : IntKind} {m n : Int} (hp : ev tm p = some (.int j m)) (hq : ev tm q = some (.int k n)) (hb : bopII op j m k n = some v) :
    lightD (.binOp op t p q ty) T tm S = some (v, S) := by
  show lBinOp T tm S op t p q = _
  unfold lBinOp
  rw [hp, hq]
  show retV (bopII op j m k n) S = _
  rw [hb]; rfl
theorem l_convI {s d : Nat} {k j : IntKind} {n : Int} {si ti : TI} (hp : ev tm p = some (.int j n)) (hs : T.get s = some si) (hd : T.get d = some ti) (hu : ti.u = .int k) :
    lightD (.convert s d p) T tm S = some (.int k (wrapF k n), S) := by
  show lConvert T tm S s d p = _
  unfold lConvert
  rw [hp, hs, hd]
  simp only [hu]
theorem l_lenS {ad : Option Addr} {n c e : Nat} {ti : TI} (hp : ev tm p = some (.slice ad n c)) (ht : T.get t = some ti) (hu : ti.u = .slice e) :
    lightD (.call { callee := .builtin .len, args := #[p], argTypes := #[t] }) T tm S = some (.int .i64 (.ofNat n), S) := by
  show lCallB T tm S .len #[p] #[t] = _
  have e1 : evs tm #[p].toList = some [.slice ad n c] := by
    show (match ev tm p with
      | some v => some [v]
      | none => none) = _
    rw [hp]
  unfold lCallB
  rw [e1]
  show retV (lLen T S t (.slice ad n c)) S = _
  unfold lLen
  rw [ht]
  simp only [hu]
  rfl
theorem l_idxS {b o n c e : Nat} {i : Nat} {k : IntKind} {ti te : TI} (hp : ev tm p = some (.slice (some ⟨b, o, none⟩) n c)) (hq : ev tm q = some (.int k (.ofNat i))) (ht : T.get t = some ti) (hu : ti.u = .slice e)
    (he : T.get e = some te) (hi : i < n) : lightD (.indexAddr t p q) T tm S = some (.pointer (some ⟨b, o + i * te.size, none⟩), S) := by
  show lIndexAddr T tm S t p q = _
  unfold lIndexAddr
  rw [hp, hq, ht]
  simp only [hu, he]
  rw [Nat.ble_eq_true_of_le (Nat.succ_le_of_lt hi)]
  rfl
theorem l_load1 {ad : Addr} {ti : TI} (hp : ev tm p = some (.pointer (some ad))) (ht : T.get t = some ti) (ha : ti.agg = false) (hl : loadN S ad 1 = some [v]) :
    lightD (.load t p) T tm S = some (v, S) := by
  show lLoad T tm S t p = _
  unfold lLoad
  rw [hp, ht]
  simp only [ha, hl]

theorem ev_tmp {d : Nat} : ev tm (.tmp d) = tm.get d := rfl
theorem ev_int {k : IntKind} {n : Int} : ev tm (.const (.int k n)) = some (.int k n) := rfl
theorem putTmp_some {d : Nat} : putTmp tm (some d) v = tm.set d v := rfl

/-! A call -/
theorem CallRuns.of {f : Nat} {ft : FT} {body : Code} {args : List Value} {vs : List Value} {e : AExit} (hf : F.get f = some ft) (hb : ft.fn.body = some body)
    (h : Runs T X F ft.plans body ⟨argTmps args 0 .leaf, []⟩ S e a1 S1) (he : e = .normal ∨ e = .ret) (hd : a1.defers = []) (hr : resultsA T a1.tmps S1 ft.fn.results.toList = some vs) :
    CallRuns T X F f args S (.ret (oneV vs) S1) := by
  obtain ⟨i, h⟩ := h
  refine ⟨i + 1, fun fuel hfu n hn => ?_⟩
  cases n with
  | zero => omega
  | succ n =>
    have e0 : callA T X F fuel (n + 1) false f args S = match F.get f with
        | none => none
        | some ft => match ft.fn.body with
          | none => none
          | some c => match code T X (callA T X F fuel n false) ft.plans fuel c ⟨argTmps args 0 .leaf, []⟩ S with
            | some (.mk (.pan v) a S) => match noDefs a.defers, false with
              | true, false => some (.pan v S)
              | _, _ => none
            | some (.mk (.exit _) _ _) => none
            | some (.mk _ a S) => match runDefers (callA T X F fuel n true) a.defers S with
              | none => none
              | some S => match resultsA T a.tmps S ft.fn.results.toList with
                | some vs => some (.ret (oneV vs) S)
                | none => none
            | none => none := rfl
    rw [e0, hf]
    simp only [hb]
    rw [h fuel (by omega) fuel (by omega) n (by omega)]
    have hd2 : runDefers (callA T X F fuel n true) a1.defers S1 = some S1 := by rw [hd]; rfl
    rcases he with rfl | rfl
    · simp only [hd2, hr]
    · simp only [hd2, hr]
end
end Go.AM
