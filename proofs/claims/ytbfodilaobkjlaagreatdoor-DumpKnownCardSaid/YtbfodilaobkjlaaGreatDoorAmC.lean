/- The abstract machine: code and calls. Definitions. -/
import Derived.Test.YtbfodilaobkjlaaGreatDoorAm0
namespace Go.AM
noncomputable section

/-! Code -/
inductive ARes where
  | mk (e : AExit) (a : AAct) (S : AS)

/-- 'pl': the plans of the function's regions that draw. -/
def code (T : Tr TI) (X : Exts) (call : Nat → List Value → AS → Option AEnd) (pl : Nat → Option Plan) (n : Nat) : Code → AAct → AS → Option ARes :=
  Nat.rec (motive := fun _ => Code → AAct → AS → Option ARes) (fun _ _ _ => none)
    (fun _ ih c a S => match c with
      | .skip => some (.mk .normal a S)
      | .ret => some (.mk .ret a S)
      | .exit id => some (.mk (.exit id) a S)
      | .region id ops draw => match draw with
        | false => match seqOps T X none call ops.toList ops.toList a S with
          | some (.norm a S) => some (.mk .normal a S)
          | some (.pan v a S) => some (.mk (.pan v) a S)
          | none => none
        | true => match pl id with
          | none => none
          | some l => match drawOps T X none call ops.toList l [] a S with
            | some (.norm a S) => some (.mk .normal a S)
            | some (.pan v a S) => some (.mk (.pan v) a S)
            | none => none
      | .seq x y => match ih x a S with
        | some (.mk .normal a S) => ih y a S
        | r => r
      | .cond x y z => match ev a.tmps x with
        | some (.bool true) => ih y a S
        | some (.bool false) => ih z a S
        | _ => none
      | .block id x => match ih x a S with
        | some (.mk (.exit id') a S) => match Nat.beq id' id with
          | true => some (.mk .normal a S)
          | false => some (.mk (.exit id') a S)
        | r => r
      | .loop x => match ih x a S with
        | some (.mk .normal a S) => ih (.loop x) a S
        | r => r
      | _ => none) n

/-- The code of a deferred call: 'recover' answers nil in it. -/
def codeD (T : Tr TI) (X : Exts) (call : Nat → List Value → AS → Option AEnd) (pl : Nat → Option Plan) (m : Nat) (n : Nat) : Code → AAct → AS → Option ARes :=
  Nat.rec (motive := fun _ => Code → AAct → AS → Option ARes) (fun _ _ _ => none)
    (fun _ ih c a S => match c with
      | .seq x y => match ih x a S with
        | some (.mk .normal a S) => ih y a S
        | r => r
      | .cond x y z => match ev a.tmps x with
        | some (.bool true) => ih y a S
        | some (.bool false) => ih z a S
        | _ => none
      | .region _ ops false => match seqOps T X (some .nilIface) call ops.toList ops.toList a S with
          | some (.norm a S) => some (.mk .normal a S)
          | some (.pan v a S) => some (.mk (.pan v) a S)
          | none => none
      | c => code T X call pl m c a S) n

structure FT where
  fn : Func
  plans : Nat → Option Plan

def argTmps (args : List Value) : Nat → Tr Value → Tr Value :=
  List.rec (motive := fun _ => Nat → Tr Value → Tr Value) (fun _ t => t) (fun v _ ih i t => ih (Nat.succ i) (t.set i v)) args

def resultsA (T : Tr TI) (tm : Tr Value) (S : AS) (rs : List ResultVar) : Option (List Value) :=
  List.rec (motive := fun _ => Option (List Value)) (some [])
    (fun r _ ih => match (match r with
        | .tmp t => tm.get t
        | .cell x t => match tm.get x, T.get t with
          | some (.pointer (some a)), some ti => match ti.agg with
            | true => match loadN S a ti.size with | some cs => some (mkAgg cs) | none => none
            | false => match loadN S a 1 with | some [v] => some v | _ => none
          | _, _ => none) with
      | some v => match ih with | some vs => some (v :: vs) | none => none
      | none => none) rs

def oneV (l : List Value) : Value := match l with | [v] => v | l => .tuple (Array.mk l)

/-- The deferred calls of a function that returns. -/
def runDefers (callD : Nat → List Value → AS → Option AEnd) (ds : List ADef) : AS → Option AS :=
  List.rec (motive := fun _ => AS → Option AS) (fun S => some S)
    (fun d _ ih S => match callD d.f d.args S with
      | some (.ret _ S) => ih S
      | _ => none) ds

def noDefs (ds : List ADef) : Bool := match ds with | [] => true | _ => false

/-- A call; the Bool: a deferred one. -/
def callA (T : Tr TI) (X : Exts) (F : Tr FT) (fuel : Nat) (n : Nat) : Bool → Nat → List Value → AS → Option AEnd :=
  Nat.rec (motive := fun _ => Bool → Nat → List Value → AS → Option AEnd) (fun _ _ _ _ => none)
    (fun _ ih df f args S => match F.get f with
      | none => none
      | some ft => match ft.fn.body with
        | none => none
        | some c => match (match df with
            | false => code T X (ih false) ft.plans fuel c ⟨argTmps args 0 .leaf, []⟩ S
            | true => codeD T X (ih false) ft.plans fuel fuel c ⟨argTmps args 0 .leaf, []⟩ S) with
          | some (.mk (.pan v) a S) => match noDefs a.defers, df with
            | true, false => some (.pan v S)
            | _, _ => none
          | some (.mk (.exit _) _ _) => none
          | some (.mk _ a S) => match (match df with
              | false => runDefers (ih true) a.defers S
              | true => match noDefs a.defers with | true => some S | false => none) with
            | none => none
            | some S => match resultsA T a.tmps S ft.fn.results.toList with
              | some vs => some (.ret (oneV vs) S)
              | none => none
          | none => none) n

def AS.empty (n : Nat) : AS := ⟨.leaf, n, .leaf⟩

end
end Go.AM
