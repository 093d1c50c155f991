/-
  NARROWER THAN 'FOR EVERY INPUT', by the rows' own cells (each row's printed sentence says how): DumpBytes: loops, laid · DumpBack: loops, laid · DumpKnown: laid · DumpSteps: loops, laid · DumpLeads: loops, laid.
  DERIVED. THE GIVEN ROWS OF THIS SEAT. 5 by the template 'for every input the law returns true; each argument reads behind the call as it read before'; 0 by the template 'total and deterministic' (their statements: YtbfodilaobkjlaaGreatDoorTotals.lean).
  GIVEN WITH THE SEED: the statements are not yours to turn. If you find one false, say at which input.
  Laid BY PROGRAM, IN A SANDBOX (cutbox-rows.mjs): the forced cells as the released guide's own fill.sh prints them over the translation 84b113d23540986d… (all of the seat's roots in one cut). By AI agents, Wed Nov 11 2026. No macro, syntax, notation, axiom, sorry.
-/
import Derived.Test.YtbfodilaobkjlaaGreatDoorChecked
import GoSem.PinnedTables
import GoSem.Claim
import GoSem.ClaimJoined
import GoSem.ClaimMapViews
import Derived.JoinedTies
import Derived.KernelRfl
namespace Go.Proofs.YtbfodilaobkjlaaGreatDoor
/- THE CELL 'sum', in the pinned program and in every row, IS THE sha256 OF THE DUMP (.gsa) THAT YtbfodilaobkjlaaGreatDoorProg.lean LOADS. Nothing in Lean hashes anything: it is a label: what it is worth is what the hold of that sum in a sandbox is worth. -/
noncomputable def Tryz.pinned : Pinned := { name := "ytbfodilaobkjlaagreatdoor", sum := "84b113d23540986d8f6770c87f5741a7dbbef26c60b29babd82c9580e50ee17c", checked := Tryz.checked }
namespace Rows
def none {H : Type} : Left H := { results := [], args := [] }

/- WHAT THE LISTED PACKAGE-LEVEL VARIABLES READ AS WHEN THE CALL BEGINS. Each datum BY PROGRAM (the guide's laid-datum.mjs) off the statement by which the dump's own 'gosem.cut.vars' lays the variable. In a bare row this is a premise. The card (YtbfodilaobkjlaaGreatDoorCards.lean) ties it to the program's text. -/
def laid_unicode_utf8_acceptRanges {H : Type} : DataW H := .agg [.agg [.lit (.int .u8 128), .lit (.int .u8 191)], .agg [.lit (.int .u8 160), .lit (.int .u8 191)], .agg [.lit (.int .u8 128), .lit (.int .u8 159)], .agg [.lit (.int .u8 144), .lit (.int .u8 191)], .agg [.lit (.int .u8 128), .lit (.int .u8 143)], .agg [.lit (.int .u8 0), .lit (.int .u8 0)], .agg [.lit (.int .u8 0), .lit (.int .u8 0)], .agg [.lit (.int .u8 0), .lit (.int .u8 0)], .agg [.lit (.int .u8 0), .lit (.int .u8 0)], .agg [.lit (.int .u8 0), .lit (.int .u8 0)], .agg [.lit (.int .u8 0), .lit (.int .u8 0)], .agg [.lit (.int .u8 0), .lit (.int .u8 0)], .agg [.lit (.int .u8 0), .lit (.int .u8 0)], .agg [.lit (.int .u8 0), .lit (.int .u8 0)], .agg [.lit (.int .u8 0), .lit (.int .u8 0)], .agg [.lit (.int .u8 0), .lit (.int .u8 0)]]
/-- One of Go's own tables, pinned by name: the form's constant. -/
def laid_unicode_utf8_first : DataW Unit := Go.Pinned.utf8First

/-- 'munimentlaw24.DumpBytes': WHATEVER THE INPUT: true; the input reads as it did. -/
def dumpBytesSpec : ChangeSpec := { name := "dumpBytes", fn := fun _ => fun
  | [d1, d2] => { results := [.lit (.bool true)], args := [d1, d2] }
  | _ => none }
def dumpBytesRow : OpenClaim := { program := "ytbfodilaobkjlaagreatdoor", sum := "84b113d23540986d8f6770c87f5741a7dbbef26c60b29babd82c9580e50ee17c", func := "muniment/munimentlaw24.DumpBytes", spec := "dumpBytes", inPlace := ["internal/bytealg.abigen_runtime_cmpstring", "slices.overlaps[muniment/api.Coll]", "math.Float64frombits", "math.Float64bits", "internal/bytealg.CountString", "internal/bytealg.IndexByteString", "internal/bytealg.IndexString", "internal/bytealg.Compare", "slices.overlaps[muniment/api.Val]", "slices.overlaps[muniment/api.IndexDef]", "math.archFloor", "math.archTrunc"], unfollowed := true, recurses := true, named := ["unicode/utf8.first", "unicode/utf8.acceptRanges", "internal/bytealg.MaxLen"], loops := true, plainKeys := false, apart := false, laid := [("unicode/utf8.acceptRanges", laid_unicode_utf8_acceptRanges), ("unicode/utf8.first", laid_unicode_utf8_first)] }
def DumpBytesSaid : Prop := dumpBytesRow.holds Tryz.pinned (OpenSpec.ofChange dumpBytesSpec)

/-- ITS FALSE NEIGHBOUR: 'it returns false'. Refute it at one input. -/
def dumpBytesWrong : ChangeSpec := { name := "dumpBytes", fn := fun _ => fun
  | [d1, d2] => { results := [.lit (.bool false)], args := [d1, d2] }
  | _ => none }
def DumpBytesWrongFalsely : Prop := dumpBytesRow.holds Tryz.pinned (OpenSpec.ofChange dumpBytesWrong)

/-- 'munimentlaw24.DumpBack': WHATEVER THE INPUT: true; the input reads as it did. -/
def dumpBackSpec : ChangeSpec := { name := "dumpBack", fn := fun _ => fun
  | [d1, d2, d3] => { results := [.lit (.bool true)], args := [d1, d2, d3] }
  | _ => none }
def dumpBackRow : OpenClaim := { program := "ytbfodilaobkjlaagreatdoor", sum := "84b113d23540986d8f6770c87f5741a7dbbef26c60b29babd82c9580e50ee17c", func := "muniment/munimentlaw24.DumpBack", spec := "dumpBack", inPlace := ["internal/bytealg.abigen_runtime_cmpstring", "slices.overlaps[muniment/api.Coll]", "math.Float64frombits", "math.Float64bits", "internal/bytealg.CountString", "internal/bytealg.IndexByteString", "internal/bytealg.IndexString", "internal/bytealg.Compare", "slices.overlaps[muniment/api.Val]", "slices.overlaps[muniment/api.IndexDef]", "math.archFloor", "math.archTrunc"], unfollowed := true, recurses := true, named := ["unicode/utf8.first", "unicode/utf8.acceptRanges", "internal/bytealg.MaxLen"], loops := true, plainKeys := false, apart := false, laid := [("unicode/utf8.acceptRanges", laid_unicode_utf8_acceptRanges), ("unicode/utf8.first", laid_unicode_utf8_first)] }
def DumpBackSaid : Prop := dumpBackRow.holds Tryz.pinned (OpenSpec.ofChange dumpBackSpec)

/-- ITS FALSE NEIGHBOUR: 'it returns false'. Refute it at one input. -/
def dumpBackWrong : ChangeSpec := { name := "dumpBack", fn := fun _ => fun
  | [d1, d2, d3] => { results := [.lit (.bool false)], args := [d1, d2, d3] }
  | _ => none }
def DumpBackWrongFalsely : Prop := dumpBackRow.holds Tryz.pinned (OpenSpec.ofChange dumpBackWrong)

/-- 'munimentlaw24.DumpKnown': WHATEVER THE INPUT: true; the input reads as it did. -/
def dumpKnownSpec : ChangeSpec := { name := "dumpKnown", fn := fun _ => fun
  | [] => { results := [.lit (.bool true)], args := [] }
  | _ => none }
def dumpKnownRow : OpenClaim := { program := "ytbfodilaobkjlaagreatdoor", sum := "84b113d23540986d8f6770c87f5741a7dbbef26c60b29babd82c9580e50ee17c", func := "muniment/munimentlaw24.DumpKnown", spec := "dumpKnown", inPlace := ["internal/bytealg.abigen_runtime_cmpstring", "slices.overlaps[muniment/api.Coll]", "math.Float64frombits", "math.Float64bits", "internal/bytealg.CountString", "internal/bytealg.IndexByteString", "internal/bytealg.IndexString", "internal/bytealg.Compare", "slices.overlaps[muniment/api.Val]", "slices.overlaps[muniment/api.IndexDef]", "math.archFloor", "math.archTrunc"], unfollowed := true, recurses := true, named := ["unicode/utf8.first", "unicode/utf8.acceptRanges", "internal/bytealg.MaxLen"], plainKeys := false, apart := false, laid := [("unicode/utf8.acceptRanges", laid_unicode_utf8_acceptRanges), ("unicode/utf8.first", laid_unicode_utf8_first)] }
def DumpKnownSaid : Prop := dumpKnownRow.holds Tryz.pinned (OpenSpec.ofChange dumpKnownSpec)

/-- ITS FALSE NEIGHBOUR: 'it returns false'. Refute it at one input. -/
def dumpKnownWrong : ChangeSpec := { name := "dumpKnown", fn := fun _ => fun
  | [] => { results := [.lit (.bool false)], args := [] }
  | _ => none }
def DumpKnownWrongFalsely : Prop := dumpKnownRow.holds Tryz.pinned (OpenSpec.ofChange dumpKnownWrong)

/-- 'munimentlaw24.DumpSteps': WHATEVER THE INPUT: true; the input reads as it did. -/
def dumpStepsSpec : ChangeSpec := { name := "dumpSteps", fn := fun _ => fun
  | [d1, d2] => { results := [.lit (.bool true)], args := [d1, d2] }
  | _ => none }
def dumpStepsRow : OpenClaim := { program := "ytbfodilaobkjlaagreatdoor", sum := "84b113d23540986d8f6770c87f5741a7dbbef26c60b29babd82c9580e50ee17c", func := "muniment/munimentlaw24.DumpSteps", spec := "dumpSteps", inPlace := ["internal/bytealg.abigen_runtime_cmpstring", "slices.overlaps[muniment/api.Coll]", "math.Float64frombits", "math.Float64bits", "internal/bytealg.CountString", "internal/bytealg.IndexByteString", "internal/bytealg.IndexString", "internal/bytealg.Compare", "slices.overlaps[muniment/api.Val]", "slices.overlaps[muniment/api.IndexDef]", "math.archFloor", "math.archTrunc"], unfollowed := true, recurses := true, named := ["unicode/utf8.first", "unicode/utf8.acceptRanges", "internal/bytealg.MaxLen"], loops := true, plainKeys := false, apart := false, laid := [("unicode/utf8.acceptRanges", laid_unicode_utf8_acceptRanges), ("unicode/utf8.first", laid_unicode_utf8_first)] }
def DumpStepsSaid : Prop := dumpStepsRow.holds Tryz.pinned (OpenSpec.ofChange dumpStepsSpec)

/-- ITS FALSE NEIGHBOUR: 'it returns false'. Refute it at one input. -/
def dumpStepsWrong : ChangeSpec := { name := "dumpSteps", fn := fun _ => fun
  | [d1, d2] => { results := [.lit (.bool false)], args := [d1, d2] }
  | _ => none }
def DumpStepsWrongFalsely : Prop := dumpStepsRow.holds Tryz.pinned (OpenSpec.ofChange dumpStepsWrong)

/-- 'munimentlaw24.DumpLeads': WHATEVER THE INPUT: true; the input reads as it did. -/
def dumpLeadsSpec : ChangeSpec := { name := "dumpLeads", fn := fun _ => fun
  | [d1, d2] => { results := [.lit (.bool true)], args := [d1, d2] }
  | _ => none }
def dumpLeadsRow : OpenClaim := { program := "ytbfodilaobkjlaagreatdoor", sum := "84b113d23540986d8f6770c87f5741a7dbbef26c60b29babd82c9580e50ee17c", func := "muniment/munimentlaw24.DumpLeads", spec := "dumpLeads", inPlace := ["internal/bytealg.abigen_runtime_cmpstring", "slices.overlaps[muniment/api.Coll]", "math.Float64frombits", "math.Float64bits", "internal/bytealg.CountString", "internal/bytealg.IndexByteString", "internal/bytealg.IndexString", "internal/bytealg.Compare", "slices.overlaps[muniment/api.Val]", "slices.overlaps[muniment/api.IndexDef]", "math.archFloor", "math.archTrunc"], unfollowed := true, recurses := true, named := ["unicode/utf8.first", "unicode/utf8.acceptRanges", "internal/bytealg.MaxLen"], loops := true, plainKeys := false, apart := false, laid := [("unicode/utf8.acceptRanges", laid_unicode_utf8_acceptRanges), ("unicode/utf8.first", laid_unicode_utf8_first)] }
def DumpLeadsSaid : Prop := dumpLeadsRow.holds Tryz.pinned (OpenSpec.ofChange dumpLeadsSpec)

/-- ITS FALSE NEIGHBOUR: 'it returns false'. Refute it at one input. -/
def dumpLeadsWrong : ChangeSpec := { name := "dumpLeads", fn := fun _ => fun
  | [d1, d2] => { results := [.lit (.bool false)], args := [d1, d2] }
  | _ => none }
def DumpLeadsWrongFalsely : Prop := dumpLeadsRow.holds Tryz.pinned (OpenSpec.ofChange dumpLeadsWrong)

/- THE SECOND FORM. 'bulk': how many values and letters a reading holds, each counted each time it is reached (what is shared counts as often as it is met; a slice's spare places count too). A statement '..UptoSaid' is the law's where the arguments, and the package variables that the reading takes, are together of bulk at most 1048576: NARROWER than '..Said'. Prove '..Said' where nothing that the law and all that it calls make is longer than what came in: it says more and counts as full. Else prove '..UptoSaid'. A law counts once. -/
mutual
def uptoBulk {H : Type} : DataW H → Nat
  | .lit (.string bytes) => bytes.length + 1
  | .lit _ => 1
  | .nil => 1
  | .ptr d => uptoBulk d + 1
  | .slice elems spare => uptoBulkAll elems + uptoBulkAll spare + 1
  | .agg parts => uptoBulkAll parts + 1
  | .iface _ d => uptoBulk d + 1
  | .map entries => uptoBulkEntries entries + 1
  | .held _ => 1
def uptoBulkAll {H : Type} : List (DataW H) → Nat
  | [] => 0
  | d :: r => uptoBulk d + uptoBulkAll r
def uptoBulkEntries {H : Type} : List (Lit × DataW H) → Nat
  | [] => 0
  | x :: r => uptoBulkEntry x + uptoBulkEntries r
def uptoBulkEntry {H : Type} : Lit × DataW H → Nat
  | (.string bytes, d) => bytes.length + uptoBulk d + 1
  | (_, d) => uptoBulk d + 1
 end
def uptoSmall : (H : Type) → List (DataW H) → Bool := fun _ ds => decide (uptoBulkAll ds ≤ 1048576)
def OpenSpec.upto (s : _root_.Go.ChangeSpec) : _root_.Go.OpenSpec := { _root_.Go.OpenSpec.ofChange s with cond := some uptoSmall }

/-- 'munimentlaw24.DumpBytes', WHERE WHAT IT READS IS OF BULK AT MOST 1048576: true; the input reads as it did. -/
def dumpBytesUptoRow : OpenClaim := { program := "ytbfodilaobkjlaagreatdoor", sum := "84b113d23540986d8f6770c87f5741a7dbbef26c60b29babd82c9580e50ee17c", func := "muniment/munimentlaw24.DumpBytes", spec := "dumpBytes", inPlace := ["internal/bytealg.abigen_runtime_cmpstring", "slices.overlaps[muniment/api.Coll]", "math.Float64frombits", "math.Float64bits", "internal/bytealg.CountString", "internal/bytealg.IndexByteString", "internal/bytealg.IndexString", "internal/bytealg.Compare", "slices.overlaps[muniment/api.Val]", "slices.overlaps[muniment/api.IndexDef]", "math.archFloor", "math.archTrunc"], unfollowed := true, recurses := true, named := ["unicode/utf8.first", "unicode/utf8.acceptRanges", "internal/bytealg.MaxLen"], loops := true, plainKeys := false, apart := false, laid := [("unicode/utf8.acceptRanges", laid_unicode_utf8_acceptRanges), ("unicode/utf8.first", laid_unicode_utf8_first)], narrowed := true }
def DumpBytesUptoSaid : Prop := dumpBytesUptoRow.holds Tryz.pinned (OpenSpec.upto dumpBytesSpec)

/-- 'munimentlaw24.DumpBack', WHERE WHAT IT READS IS OF BULK AT MOST 1048576: true; the input reads as it did. -/
def dumpBackUptoRow : OpenClaim := { program := "ytbfodilaobkjlaagreatdoor", sum := "84b113d23540986d8f6770c87f5741a7dbbef26c60b29babd82c9580e50ee17c", func := "muniment/munimentlaw24.DumpBack", spec := "dumpBack", inPlace := ["internal/bytealg.abigen_runtime_cmpstring", "slices.overlaps[muniment/api.Coll]", "math.Float64frombits", "math.Float64bits", "internal/bytealg.CountString", "internal/bytealg.IndexByteString", "internal/bytealg.IndexString", "internal/bytealg.Compare", "slices.overlaps[muniment/api.Val]", "slices.overlaps[muniment/api.IndexDef]", "math.archFloor", "math.archTrunc"], unfollowed := true, recurses := true, named := ["unicode/utf8.first", "unicode/utf8.acceptRanges", "internal/bytealg.MaxLen"], loops := true, plainKeys := false, apart := false, laid := [("unicode/utf8.acceptRanges", laid_unicode_utf8_acceptRanges), ("unicode/utf8.first", laid_unicode_utf8_first)], narrowed := true }
def DumpBackUptoSaid : Prop := dumpBackUptoRow.holds Tryz.pinned (OpenSpec.upto dumpBackSpec)

/-- 'munimentlaw24.DumpKnown', WHERE WHAT IT READS IS OF BULK AT MOST 1048576: true; the input reads as it did. -/
def dumpKnownUptoRow : OpenClaim := { program := "ytbfodilaobkjlaagreatdoor", sum := "84b113d23540986d8f6770c87f5741a7dbbef26c60b29babd82c9580e50ee17c", func := "muniment/munimentlaw24.DumpKnown", spec := "dumpKnown", inPlace := ["internal/bytealg.abigen_runtime_cmpstring", "slices.overlaps[muniment/api.Coll]", "math.Float64frombits", "math.Float64bits", "internal/bytealg.CountString", "internal/bytealg.IndexByteString", "internal/bytealg.IndexString", "internal/bytealg.Compare", "slices.overlaps[muniment/api.Val]", "slices.overlaps[muniment/api.IndexDef]", "math.archFloor", "math.archTrunc"], unfollowed := true, recurses := true, named := ["unicode/utf8.first", "unicode/utf8.acceptRanges", "internal/bytealg.MaxLen"], plainKeys := false, apart := false, laid := [("unicode/utf8.acceptRanges", laid_unicode_utf8_acceptRanges), ("unicode/utf8.first", laid_unicode_utf8_first)], narrowed := true }
def DumpKnownUptoSaid : Prop := dumpKnownUptoRow.holds Tryz.pinned (OpenSpec.upto dumpKnownSpec)

/-- 'munimentlaw24.DumpSteps', WHERE WHAT IT READS IS OF BULK AT MOST 1048576: true; the input reads as it did. -/
def dumpStepsUptoRow : OpenClaim := { program := "ytbfodilaobkjlaagreatdoor", sum := "84b113d23540986d8f6770c87f5741a7dbbef26c60b29babd82c9580e50ee17c", func := "muniment/munimentlaw24.DumpSteps", spec := "dumpSteps", inPlace := ["internal/bytealg.abigen_runtime_cmpstring", "slices.overlaps[muniment/api.Coll]", "math.Float64frombits", "math.Float64bits", "internal/bytealg.CountString", "internal/bytealg.IndexByteString", "internal/bytealg.IndexString", "internal/bytealg.Compare", "slices.overlaps[muniment/api.Val]", "slices.overlaps[muniment/api.IndexDef]", "math.archFloor", "math.archTrunc"], unfollowed := true, recurses := true, named := ["unicode/utf8.first", "unicode/utf8.acceptRanges", "internal/bytealg.MaxLen"], loops := true, plainKeys := false, apart := false, laid := [("unicode/utf8.acceptRanges", laid_unicode_utf8_acceptRanges), ("unicode/utf8.first", laid_unicode_utf8_first)], narrowed := true }
def DumpStepsUptoSaid : Prop := dumpStepsUptoRow.holds Tryz.pinned (OpenSpec.upto dumpStepsSpec)

/-- 'munimentlaw24.DumpLeads', WHERE WHAT IT READS IS OF BULK AT MOST 1048576: true; the input reads as it did. -/
def dumpLeadsUptoRow : OpenClaim := { program := "ytbfodilaobkjlaagreatdoor", sum := "84b113d23540986d8f6770c87f5741a7dbbef26c60b29babd82c9580e50ee17c", func := "muniment/munimentlaw24.DumpLeads", spec := "dumpLeads", inPlace := ["internal/bytealg.abigen_runtime_cmpstring", "slices.overlaps[muniment/api.Coll]", "math.Float64frombits", "math.Float64bits", "internal/bytealg.CountString", "internal/bytealg.IndexByteString", "internal/bytealg.IndexString", "internal/bytealg.Compare", "slices.overlaps[muniment/api.Val]", "slices.overlaps[muniment/api.IndexDef]", "math.archFloor", "math.archTrunc"], unfollowed := true, recurses := true, named := ["unicode/utf8.first", "unicode/utf8.acceptRanges", "internal/bytealg.MaxLen"], loops := true, plainKeys := false, apart := false, laid := [("unicode/utf8.acceptRanges", laid_unicode_utf8_acceptRanges), ("unicode/utf8.first", laid_unicode_utf8_first)], narrowed := true }
def DumpLeadsUptoSaid : Prop := dumpLeadsUptoRow.holds Tryz.pinned (OpenSpec.upto dumpLeadsSpec)

end Rows
end Go.Proofs.YtbfodilaobkjlaaGreatDoor
