/-
  DERIVED. GIVEN WITH THE SEED: THE CARDS: each row of YtbldiceiindbdaaGreatDoorRows.lean that lists a variable, with what it lists TIED to the program's text (the seventh form; the later family's looks); each row that meets fmt, with fmt's text TOLD by the authors' own Lean function (tested against real Go, not proved from fmt's source: count such statements apart). THE CARD IS WHAT COUNTS. Prove the row's statement (the work); the ties are given (YtbldiceiindbdaaGreatDoorTie.lean); close each card by the builder's one call (the guide's Derived/Test/ToyasCard.lean, 'card_holds'). Laid BY PROGRAM, IN A SANDBOX (cutbox-door.mjs). By AI agents, Wed Nov 11 2026. No macro, syntax, notation, axiom, sorry.
-/
import Derived.Test.YtbldiceiindbdaaGreatDoorRows
import GoSem.ClaimSeven
namespace Go.Proofs.YtbldiceiindbdaaGreatDoor
namespace Rows

/-- THE TIED CARD OF 'turnstonelaw9.VerifyCodes'. -/
def verifyCodesCard : Claim7 := { stood := { row := verifyCodesRow, standIns := [], harness := (true, "0b2ad984d6c28a19ce0b337a287bad0ce4c91875263efa8436188810dc0bb40b"), looks := true }, kinds := [], alts := [], laidByText := true, laidKinds := [.data, .pinned], laidTests := true, laidLooks := .later }
def VerifyCodesCardSaid : Prop := Claim7.holds Tryz.pinned (.plain (OpenSpec.ofChange verifyCodesSpec)) verifyCodesCard

/-- THE TIED CARD OF 'turnstonelaw9.VerifyTwice'. -/
def verifyTwiceCard : Claim7 := { stood := { row := verifyTwiceRow, standIns := [], harness := (true, "0b2ad984d6c28a19ce0b337a287bad0ce4c91875263efa8436188810dc0bb40b"), looks := true }, kinds := [], alts := [], laidByText := true, laidKinds := [.data, .pinned], laidTests := true, laidLooks := .later }
def VerifyTwiceCardSaid : Prop := Claim7.holds Tryz.pinned (.plain (OpenSpec.ofChange verifyTwiceSpec)) verifyTwiceCard

/-- THE TIED CARD OF 'turnstonelaw9.VerifyTells'. -/
def verifyTellsCard : Claim7 := { stood := { row := verifyTellsRow, standIns := [], harness := (true, "0b2ad984d6c28a19ce0b337a287bad0ce4c91875263efa8436188810dc0bb40b"), looks := true }, kinds := [], alts := [], laidByText := true, laidKinds := [.data, .pinned], laidTests := true, laidLooks := .later }
def VerifyTellsCardSaid : Prop := Claim7.holds Tryz.pinned (.plain (OpenSpec.ofChange verifyTellsSpec)) verifyTellsCard

/-- THE TIED CARD OF 'turnstonelaw9.VerifyMoves'. -/
def verifyMovesCard : Claim7 := { stood := { row := verifyMovesRow, standIns := [], harness := (true, "0b2ad984d6c28a19ce0b337a287bad0ce4c91875263efa8436188810dc0bb40b"), looks := true }, kinds := [], alts := [], laidByText := true, laidKinds := [.data, .pinned], laidTests := true, laidLooks := .later }
def VerifyMovesCardSaid : Prop := Claim7.holds Tryz.pinned (.plain (OpenSpec.ofChange verifyMovesSpec)) verifyMovesCard

/-- THE SECOND FORM's CARD OF 'turnstonelaw9.VerifyCodes'. -/
def verifyCodesUptoCard : Claim7 := { stood := { row := verifyCodesUptoRow, standIns := [], harness := (true, "0b2ad984d6c28a19ce0b337a287bad0ce4c91875263efa8436188810dc0bb40b"), looks := true }, kinds := [], alts := [], laidByText := true, laidKinds := [.data, .pinned], laidTests := true, laidLooks := .later }
def VerifyCodesUptoCardSaid : Prop := Claim7.holds Tryz.pinned (.plain (OpenSpec.upto verifyCodesSpec)) verifyCodesUptoCard

/-- THE SECOND FORM's CARD OF 'turnstonelaw9.VerifyTwice'. -/
def verifyTwiceUptoCard : Claim7 := { stood := { row := verifyTwiceUptoRow, standIns := [], harness := (true, "0b2ad984d6c28a19ce0b337a287bad0ce4c91875263efa8436188810dc0bb40b"), looks := true }, kinds := [], alts := [], laidByText := true, laidKinds := [.data, .pinned], laidTests := true, laidLooks := .later }
def VerifyTwiceUptoCardSaid : Prop := Claim7.holds Tryz.pinned (.plain (OpenSpec.upto verifyTwiceSpec)) verifyTwiceUptoCard

/-- THE SECOND FORM's CARD OF 'turnstonelaw9.VerifyTells'. -/
def verifyTellsUptoCard : Claim7 := { stood := { row := verifyTellsUptoRow, standIns := [], harness := (true, "0b2ad984d6c28a19ce0b337a287bad0ce4c91875263efa8436188810dc0bb40b"), looks := true }, kinds := [], alts := [], laidByText := true, laidKinds := [.data, .pinned], laidTests := true, laidLooks := .later }
def VerifyTellsUptoCardSaid : Prop := Claim7.holds Tryz.pinned (.plain (OpenSpec.upto verifyTellsSpec)) verifyTellsUptoCard

/-- THE SECOND FORM's CARD OF 'turnstonelaw9.VerifyMoves'. -/
def verifyMovesUptoCard : Claim7 := { stood := { row := verifyMovesUptoRow, standIns := [], harness := (true, "0b2ad984d6c28a19ce0b337a287bad0ce4c91875263efa8436188810dc0bb40b"), looks := true }, kinds := [], alts := [], laidByText := true, laidKinds := [.data, .pinned], laidTests := true, laidLooks := .later }
def VerifyMovesUptoCardSaid : Prop := Claim7.holds Tryz.pinned (.plain (OpenSpec.upto verifyMovesSpec)) verifyMovesUptoCard
end Rows
end Go.Proofs.YtbldiceiindbdaaGreatDoor
