/-
  DERIVED. GIVEN WITH THE SEED: THE CARDS: each row of YtpkjafemjbnekaaGreatDoorRows.lean that lists a variable, with what it lists TIED to the program's text (the seventh form; the later family's looks); each row that meets fmt, with fmt's text TOLD by the authors' own Lean function (tested against real Go, not proved from fmt's source: count such statements apart). THE CARD IS WHAT COUNTS. Prove the row's statement (the work); the ties are given (YtpkjafemjbnekaaGreatDoorTie.lean); close each card by the builder's one call (the guide's Derived/Test/ToyasCard.lean, 'card_holds'). Laid BY PROGRAM, IN A SANDBOX (cutbox-door.mjs). By AI agents, Wed Nov 11 2026. No macro, syntax, notation, axiom, sorry.
-/
import Derived.Test.YtpkjafemjbnekaaGreatDoorRows
import GoSem.ClaimSeven
namespace Go.Proofs.YtpkjafemjbnekaaGreatDoor
namespace Rows

/-- THE TIED CARD OF 'turnstonelaw21.PlanKnown'. -/
def planKnownCard : Claim7 := { stood := { row := planKnownRow, standIns := [], harness := (true, "c930a499c10fcbba059e5a14f2b40363c03aa18ba5e54e261ca16d97849e24b1"), looks := true }, kinds := [], alts := [], laidByText := true, laidKinds := [.data, .pinned], laidTests := true, laidLooks := .later }
def PlanKnownCardSaid : Prop := Claim7.holds Tryz.pinned (.plain (OpenSpec.ofChange planKnownSpec)) planKnownCard

/-- THE SECOND FORM's CARD OF 'turnstonelaw21.PlanKnown'. -/
def planKnownUptoCard : Claim7 := { stood := { row := planKnownUptoRow, standIns := [], harness := (true, "c930a499c10fcbba059e5a14f2b40363c03aa18ba5e54e261ca16d97849e24b1"), looks := true }, kinds := [], alts := [], laidByText := true, laidKinds := [.data, .pinned], laidTests := true, laidLooks := .later }
def PlanKnownUptoCardSaid : Prop := Claim7.holds Tryz.pinned (.plain (OpenSpec.upto planKnownSpec)) planKnownUptoCard
end Rows
end Go.Proofs.YtpkjafemjbnekaaGreatDoor
