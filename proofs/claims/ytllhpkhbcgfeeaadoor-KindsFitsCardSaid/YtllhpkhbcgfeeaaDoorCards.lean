/-
  DERIVED. GIVEN WITH THE SEED: THE CARDS: each row of YtllhpkhbcgfeeaaDoorRows.lean that lists a variable, with what it lists TIED to the program's text (the seventh form; the later family's looks); each row that meets fmt, with fmt's text TOLD by the authors' own Lean function (tested against real Go, not proved from fmt's source: count such statements apart). THE CARD IS WHAT COUNTS. Prove the row's statement (the work); the ties are given (YtllhpkhbcgfeeaaDoorTie.lean); close each card by the builder's one call (the guide's Derived/Test/ToyasCard.lean, 'card_holds'). Laid BY PROGRAM, IN A SANDBOX (cutbox-door.mjs). By AI agents, Wed Nov 11 2026. No macro, syntax, notation, axiom, sorry.
-/
import Derived.Test.YtllhpkhbcgfeeaaDoorRows
import GoSem.ClaimSeven
namespace Go.Proofs.YtllhpkhbcgfeeaaDoor
namespace Rows

/-- THE TIED CARD OF 'turnstonelaw2.KindsSame'. -/
def kindsSameCard : Claim7 := { stood := { row := kindsSameRow, standIns := [], harness := (true, "f6da138bc4f7ba39a712dc46cd81889de51cb0d72fd9b1fa7f87624cf699d6cb"), looks := false }, kinds := [], alts := [], laidByText := true, laidKinds := [.data], laidTests := true, laidLooks := .later }
def KindsSameCardSaid : Prop := Claim7.holds Tryd.pinned (.plain (OpenSpec.ofChange kindsSameSpec)) kindsSameCard

/-- THE TIED CARD OF 'turnstonelaw2.KindsFits'. -/
def kindsFitsCard : Claim7 := { stood := { row := kindsFitsRow, standIns := [], harness := (true, "f6da138bc4f7ba39a712dc46cd81889de51cb0d72fd9b1fa7f87624cf699d6cb"), looks := false }, kinds := [], alts := [], laidByText := true, laidKinds := [.data], laidTests := true, laidLooks := .later }
def KindsFitsCardSaid : Prop := Claim7.holds Tryd.pinned (.plain (OpenSpec.ofChange kindsFitsSpec)) kindsFitsCard

/-- THE SECOND FORM's CARD OF 'turnstonelaw2.KindsSame'. -/
def kindsSameUptoCard : Claim7 := { stood := { row := kindsSameUptoRow, standIns := [], harness := (true, "f6da138bc4f7ba39a712dc46cd81889de51cb0d72fd9b1fa7f87624cf699d6cb"), looks := false }, kinds := [], alts := [], laidByText := true, laidKinds := [.data], laidTests := true, laidLooks := .later }
def KindsSameUptoCardSaid : Prop := Claim7.holds Tryd.pinned (.plain (OpenSpec.upto kindsSameSpec)) kindsSameUptoCard

/-- THE SECOND FORM's CARD OF 'turnstonelaw2.KindsFits'. -/
def kindsFitsUptoCard : Claim7 := { stood := { row := kindsFitsUptoRow, standIns := [], harness := (true, "f6da138bc4f7ba39a712dc46cd81889de51cb0d72fd9b1fa7f87624cf699d6cb"), looks := false }, kinds := [], alts := [], laidByText := true, laidKinds := [.data], laidTests := true, laidLooks := .later }
def KindsFitsUptoCardSaid : Prop := Claim7.holds Tryd.pinned (.plain (OpenSpec.upto kindsFitsSpec)) kindsFitsUptoCard
end Rows
end Go.Proofs.YtllhpkhbcgfeeaaDoor
