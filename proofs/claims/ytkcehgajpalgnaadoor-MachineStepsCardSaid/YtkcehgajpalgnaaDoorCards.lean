/-
  DERIVED. GIVEN WITH THE SEED: THE CARDS: each row of YtkcehgajpalgnaaDoorRows.lean that lists a variable, with what it lists TIED to the program's text (the seventh form; the later family's looks); each row that meets fmt, with fmt's text TOLD by the authors' own Lean function (tested against real Go, not proved from fmt's source: count such statements apart). THE CARD IS WHAT COUNTS. Prove the row's statement (the work); the ties are given (YtkcehgajpalgnaaDoorTie.lean); close each card by the builder's one call (the guide's Derived/Test/ToyasCard.lean, 'card_holds'). Laid BY PROGRAM, IN A SANDBOX (cutbox-door.mjs). By AI agents, Wed Nov 11 2026. No macro, syntax, notation, axiom, sorry.
-/
import Derived.Test.YtkcehgajpalgnaaDoorRows
import GoSem.ClaimSeven
namespace Go.Proofs.YtkcehgajpalgnaaDoor
namespace Rows

/-- THE TIED CARD OF 'turnstonelaw25.MachineSteps'. -/
def machineStepsCard : Claim7 := { stood := { row := machineStepsRow, standIns := [], harness := (true, "3af55bd0c8bfa897d68657f1a985d421a85e181f32ebd469f7ffe53a6d40ab8c"), looks := false }, kinds := [], alts := [], laidByText := true, laidKinds := [.data, .pinned], laidTests := true, laidLooks := .later }
def MachineStepsCardSaid : Prop := Claim7.holds Tryd.pinned (.plain (OpenSpec.ofChange machineStepsSpec)) machineStepsCard

/-- THE TIED CARD OF 'turnstonelaw25.MachineKnown'. -/
def machineKnownCard : Claim7 := { stood := { row := machineKnownRow, standIns := [], harness := (true, "3af55bd0c8bfa897d68657f1a985d421a85e181f32ebd469f7ffe53a6d40ab8c"), looks := false }, kinds := [], alts := [], laidByText := true, laidKinds := [.data, .pinned], laidTests := true, laidLooks := .later }
def MachineKnownCardSaid : Prop := Claim7.holds Tryd.pinned (.plain (OpenSpec.ofChange machineKnownSpec)) machineKnownCard

/-- THE TIED CARD OF 'turnstonelaw25.MachineCodes'. -/
def machineCodesCard : Claim7 := { stood := { row := machineCodesRow, standIns := [], harness := (true, "3af55bd0c8bfa897d68657f1a985d421a85e181f32ebd469f7ffe53a6d40ab8c"), looks := false }, kinds := [], alts := [], laidByText := true, laidKinds := [.data, .pinned], laidTests := true, laidLooks := .later }
def MachineCodesCardSaid : Prop := Claim7.holds Tryd.pinned (.plain (OpenSpec.ofChange machineCodesSpec)) machineCodesCard

/-- THE TIED CARD OF 'turnstonelaw25.MachineBack'. -/
def machineBackCard : Claim7 := { stood := { row := machineBackRow, standIns := [], harness := (true, "3af55bd0c8bfa897d68657f1a985d421a85e181f32ebd469f7ffe53a6d40ab8c"), looks := false }, kinds := [], alts := [], laidByText := true, laidKinds := [.data, .pinned], laidTests := true, laidLooks := .later }
def MachineBackCardSaid : Prop := Claim7.holds Tryd.pinned (.plain (OpenSpec.ofChange machineBackSpec)) machineBackCard

/-- THE SECOND FORM's CARD OF 'turnstonelaw25.MachineSteps'. -/
def machineStepsUptoCard : Claim7 := { stood := { row := machineStepsUptoRow, standIns := [], harness := (true, "3af55bd0c8bfa897d68657f1a985d421a85e181f32ebd469f7ffe53a6d40ab8c"), looks := false }, kinds := [], alts := [], laidByText := true, laidKinds := [.data, .pinned], laidTests := true, laidLooks := .later }
def MachineStepsUptoCardSaid : Prop := Claim7.holds Tryd.pinned (.plain (OpenSpec.upto machineStepsSpec)) machineStepsUptoCard

/-- THE SECOND FORM's CARD OF 'turnstonelaw25.MachineKnown'. -/
def machineKnownUptoCard : Claim7 := { stood := { row := machineKnownUptoRow, standIns := [], harness := (true, "3af55bd0c8bfa897d68657f1a985d421a85e181f32ebd469f7ffe53a6d40ab8c"), looks := false }, kinds := [], alts := [], laidByText := true, laidKinds := [.data, .pinned], laidTests := true, laidLooks := .later }
def MachineKnownUptoCardSaid : Prop := Claim7.holds Tryd.pinned (.plain (OpenSpec.upto machineKnownSpec)) machineKnownUptoCard

/-- THE SECOND FORM's CARD OF 'turnstonelaw25.MachineCodes'. -/
def machineCodesUptoCard : Claim7 := { stood := { row := machineCodesUptoRow, standIns := [], harness := (true, "3af55bd0c8bfa897d68657f1a985d421a85e181f32ebd469f7ffe53a6d40ab8c"), looks := false }, kinds := [], alts := [], laidByText := true, laidKinds := [.data, .pinned], laidTests := true, laidLooks := .later }
def MachineCodesUptoCardSaid : Prop := Claim7.holds Tryd.pinned (.plain (OpenSpec.upto machineCodesSpec)) machineCodesUptoCard

/-- THE SECOND FORM's CARD OF 'turnstonelaw25.MachineBack'. -/
def machineBackUptoCard : Claim7 := { stood := { row := machineBackUptoRow, standIns := [], harness := (true, "3af55bd0c8bfa897d68657f1a985d421a85e181f32ebd469f7ffe53a6d40ab8c"), looks := false }, kinds := [], alts := [], laidByText := true, laidKinds := [.data, .pinned], laidTests := true, laidLooks := .later }
def MachineBackUptoCardSaid : Prop := Claim7.holds Tryd.pinned (.plain (OpenSpec.upto machineBackSpec)) machineBackUptoCard
end Rows
end Go.Proofs.YtkcehgajpalgnaaDoor
