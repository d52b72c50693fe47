/-
  DERIVED. GIVEN WITH THE SEED: THE CARDS: each row of YtbldiceiindbdaaDoorRows.lean that lists a variable, with what it lists TIED to the program's text (the seventh form; the later family's looks); each row that meets fmt, with fmt's text TOLD by the authors' own Lean function (tested against real Go, not proved from fmt's source: count such statements apart). THE CARD IS WHAT COUNTS. Prove the row's statement (the work); the ties are given (YtbldiceiindbdaaDoorTie.lean); close each card by the builder's one call (the guide's Derived/Test/ToyasCard.lean, 'card_holds'). Laid BY PROGRAM, IN A SANDBOX (cutbox-door.mjs). By AI agents, Wed Nov 11 2026. No macro, syntax, notation, axiom, sorry.
-/
import Derived.Test.YtbldiceiindbdaaDoorRows
import GoSem.ClaimSeven
namespace Go.Proofs.YtbldiceiindbdaaDoor
namespace Rows

/-- THE TIED CARD OF 'turnstonelaw9.VerifyKnown'. -/
def verifyKnownCard : Claim7 := { stood := { row := verifyKnownRow, standIns := [], harness := (true, "fa3d170dde5166792dd19229daee3ccaf664b0cddd973dc25b400a266666f6bb"), looks := true }, kinds := [], alts := [], laidByText := true, laidKinds := [.data, .pinned], laidTests := true, laidLooks := .later }
def VerifyKnownCardSaid : Prop := Claim7.holds Tryd.pinned (.plain (OpenSpec.ofChange verifyKnownSpec)) verifyKnownCard

/-- THE SECOND FORM's CARD OF 'turnstonelaw9.VerifyKnown'. -/
def verifyKnownUptoCard : Claim7 := { stood := { row := verifyKnownUptoRow, standIns := [], harness := (true, "fa3d170dde5166792dd19229daee3ccaf664b0cddd973dc25b400a266666f6bb"), looks := true }, kinds := [], alts := [], laidByText := true, laidKinds := [.data, .pinned], laidTests := true, laidLooks := .later }
def VerifyKnownUptoCardSaid : Prop := Claim7.holds Tryd.pinned (.plain (OpenSpec.upto verifyKnownSpec)) verifyKnownUptoCard
end Rows
end Go.Proofs.YtbldiceiindbdaaDoor
