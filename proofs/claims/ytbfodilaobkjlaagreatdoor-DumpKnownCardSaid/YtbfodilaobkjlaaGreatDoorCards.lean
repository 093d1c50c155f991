/-
  DERIVED. GIVEN WITH THE SEED: THE CARDS: each row of YtbfodilaobkjlaaGreatDoorRows.lean that lists a variable, with what it lists TIED to the program's text (the seventh form; the later family's looks); each row that meets fmt, with fmt's text TOLD by the authors' own Lean function (tested against real Go, not proved from fmt's source: count such statements apart). THE CARD IS WHAT COUNTS. Prove the row's statement (the work); the ties are given (YtbfodilaobkjlaaGreatDoorTie.lean); close each card by the builder's one call (the guide's Derived/Test/ToyasCard.lean, 'card_holds'). Laid BY PROGRAM, IN A SANDBOX (cutbox-door.mjs). By AI agents, Wed Nov 11 2026. No macro, syntax, notation, axiom, sorry.
-/
import Derived.Test.YtbfodilaobkjlaaGreatDoorRows
import GoSem.ClaimSeven
namespace Go.Proofs.YtbfodilaobkjlaaGreatDoor
namespace Rows

/-- THE TIED CARD OF 'munimentlaw24.DumpBytes'. -/
def dumpBytesCard : Claim7 := { stood := { row := dumpBytesRow, standIns := [], harness := (true, "f81a9add73b82e1d83854ed132f32aeffab98e6f8ebad2f47397d098e12e4468"), looks := true }, kinds := [], alts := [], laidByText := true, laidKinds := [.data, .pinned], laidTests := true, laidLooks := .later }
def DumpBytesCardSaid : Prop := Claim7.holds Tryz.pinned (.plain (OpenSpec.ofChange dumpBytesSpec)) dumpBytesCard

/-- THE TIED CARD OF 'munimentlaw24.DumpBack'. -/
def dumpBackCard : Claim7 := { stood := { row := dumpBackRow, standIns := [], harness := (true, "f81a9add73b82e1d83854ed132f32aeffab98e6f8ebad2f47397d098e12e4468"), looks := true }, kinds := [], alts := [], laidByText := true, laidKinds := [.data, .pinned], laidTests := true, laidLooks := .later }
def DumpBackCardSaid : Prop := Claim7.holds Tryz.pinned (.plain (OpenSpec.ofChange dumpBackSpec)) dumpBackCard

/-- THE TIED CARD OF 'munimentlaw24.DumpKnown'. -/
def dumpKnownCard : Claim7 := { stood := { row := dumpKnownRow, standIns := [], harness := (true, "f81a9add73b82e1d83854ed132f32aeffab98e6f8ebad2f47397d098e12e4468"), looks := true }, kinds := [], alts := [], laidByText := true, laidKinds := [.data, .pinned], laidTests := true, laidLooks := .later }
def DumpKnownCardSaid : Prop := Claim7.holds Tryz.pinned (.plain (OpenSpec.ofChange dumpKnownSpec)) dumpKnownCard

/-- THE TIED CARD OF 'munimentlaw24.DumpSteps'. -/
def dumpStepsCard : Claim7 := { stood := { row := dumpStepsRow, standIns := [], harness := (true, "f81a9add73b82e1d83854ed132f32aeffab98e6f8ebad2f47397d098e12e4468"), looks := true }, kinds := [], alts := [], laidByText := true, laidKinds := [.data, .pinned], laidTests := true, laidLooks := .later }
def DumpStepsCardSaid : Prop := Claim7.holds Tryz.pinned (.plain (OpenSpec.ofChange dumpStepsSpec)) dumpStepsCard

/-- THE TIED CARD OF 'munimentlaw24.DumpLeads'. -/
def dumpLeadsCard : Claim7 := { stood := { row := dumpLeadsRow, standIns := [], harness := (true, "f81a9add73b82e1d83854ed132f32aeffab98e6f8ebad2f47397d098e12e4468"), looks := true }, kinds := [], alts := [], laidByText := true, laidKinds := [.data, .pinned], laidTests := true, laidLooks := .later }
def DumpLeadsCardSaid : Prop := Claim7.holds Tryz.pinned (.plain (OpenSpec.ofChange dumpLeadsSpec)) dumpLeadsCard

/-- THE SECOND FORM's CARD OF 'munimentlaw24.DumpBytes'. -/
def dumpBytesUptoCard : Claim7 := { stood := { row := dumpBytesUptoRow, standIns := [], harness := (true, "f81a9add73b82e1d83854ed132f32aeffab98e6f8ebad2f47397d098e12e4468"), looks := true }, kinds := [], alts := [], laidByText := true, laidKinds := [.data, .pinned], laidTests := true, laidLooks := .later }
def DumpBytesUptoCardSaid : Prop := Claim7.holds Tryz.pinned (.plain (OpenSpec.upto dumpBytesSpec)) dumpBytesUptoCard

/-- THE SECOND FORM's CARD OF 'munimentlaw24.DumpBack'. -/
def dumpBackUptoCard : Claim7 := { stood := { row := dumpBackUptoRow, standIns := [], harness := (true, "f81a9add73b82e1d83854ed132f32aeffab98e6f8ebad2f47397d098e12e4468"), looks := true }, kinds := [], alts := [], laidByText := true, laidKinds := [.data, .pinned], laidTests := true, laidLooks := .later }
def DumpBackUptoCardSaid : Prop := Claim7.holds Tryz.pinned (.plain (OpenSpec.upto dumpBackSpec)) dumpBackUptoCard

/-- THE SECOND FORM's CARD OF 'munimentlaw24.DumpKnown'. -/
def dumpKnownUptoCard : Claim7 := { stood := { row := dumpKnownUptoRow, standIns := [], harness := (true, "f81a9add73b82e1d83854ed132f32aeffab98e6f8ebad2f47397d098e12e4468"), looks := true }, kinds := [], alts := [], laidByText := true, laidKinds := [.data, .pinned], laidTests := true, laidLooks := .later }
def DumpKnownUptoCardSaid : Prop := Claim7.holds Tryz.pinned (.plain (OpenSpec.upto dumpKnownSpec)) dumpKnownUptoCard

/-- THE SECOND FORM's CARD OF 'munimentlaw24.DumpSteps'. -/
def dumpStepsUptoCard : Claim7 := { stood := { row := dumpStepsUptoRow, standIns := [], harness := (true, "f81a9add73b82e1d83854ed132f32aeffab98e6f8ebad2f47397d098e12e4468"), looks := true }, kinds := [], alts := [], laidByText := true, laidKinds := [.data, .pinned], laidTests := true, laidLooks := .later }
def DumpStepsUptoCardSaid : Prop := Claim7.holds Tryz.pinned (.plain (OpenSpec.upto dumpStepsSpec)) dumpStepsUptoCard

/-- THE SECOND FORM's CARD OF 'munimentlaw24.DumpLeads'. -/
def dumpLeadsUptoCard : Claim7 := { stood := { row := dumpLeadsUptoRow, standIns := [], harness := (true, "f81a9add73b82e1d83854ed132f32aeffab98e6f8ebad2f47397d098e12e4468"), looks := true }, kinds := [], alts := [], laidByText := true, laidKinds := [.data, .pinned], laidTests := true, laidLooks := .later }
def DumpLeadsUptoCardSaid : Prop := Claim7.holds Tryz.pinned (.plain (OpenSpec.upto dumpLeadsSpec)) dumpLeadsUptoCard
end Rows
end Go.Proofs.YtbfodilaobkjlaaGreatDoor
