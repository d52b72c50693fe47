/-
  DERIVED. GIVEN WITH THE SEED: THE CARDS: each row of YtbhnojbkinbomaaDoorRows.lean that lists a variable, with what it lists TIED to the program's text (the seventh form; the later family's looks); each row that meets fmt, with fmt's text TOLD by the authors' own Lean function (tested against real Go, not proved from fmt's source: count such statements apart). THE CARD IS WHAT COUNTS. Prove the row's statement (the work); the ties are given (YtbhnojbkinbomaaDoorTie.lean); close each card by the builder's one call (the guide's Derived/Test/ToyasCard.lean, 'card_holds'). Laid BY PROGRAM, IN A SANDBOX (cutbox-door.mjs). By AI agents, Wed Nov 11 2026. No macro, syntax, notation, axiom, sorry.
-/
import Derived.Test.YtbhnojbkinbomaaDoorRows
import GoSem.ClaimSeven
namespace Go.Proofs.YtbhnojbkinbomaaDoor
namespace Rows

/-- THE TIED CARD OF 'turnstonelaw7.CodeTells'. -/
def codeTellsCard : Claim7 := { stood := { row := codeTellsRow, standIns := [], harness := (true, "47cdea2d7c28c9a28b4c12939145c60a88a7b6cc9d37b0abf7e68518ba37c019"), looks := false }, kinds := [], alts := [], laidByText := true, laidKinds := [.data, .data, .pinned], laidTests := true, laidLooks := .later }
def CodeTellsCardSaid : Prop := Claim7.holds Tryd.pinned (.plain (OpenSpec.ofChange codeTellsSpec)) codeTellsCard

/-- THE TIED CARD OF 'turnstonelaw7.CodeShows'. -/
def codeShowsCard : Claim7 := { stood := { row := codeShowsRow, standIns := [], harness := (true, "47cdea2d7c28c9a28b4c12939145c60a88a7b6cc9d37b0abf7e68518ba37c019"), looks := false }, kinds := [], alts := [], laidByText := true, laidKinds := [.data, .data, .data, .data, .data, .pinned], laidTests := true, laidLooks := .later }
def CodeShowsCardSaid : Prop := Claim7.holds Tryd.pinned (.plain (OpenSpec.ofChange codeShowsSpec)) codeShowsCard

/-- THE TIED CARD OF 'turnstonelaw7.CodeNames'. -/
def codeNamesCard : Claim7 := { stood := { row := codeNamesRow, standIns := [], harness := (true, "47cdea2d7c28c9a28b4c12939145c60a88a7b6cc9d37b0abf7e68518ba37c019"), looks := false }, kinds := [], alts := [], laidByText := true, laidKinds := [.data, .data, .data, .data, .pinned], laidTests := true, laidLooks := .later }
def CodeNamesCardSaid : Prop := Claim7.holds Tryd.pinned (.plain (OpenSpec.ofChange codeNamesSpec)) codeNamesCard

/-- THE TIED CARD OF 'turnstonelaw7.CodeKnown'. -/
def codeKnownCard : Claim7 := { stood := { row := codeKnownRow, standIns := [], harness := (true, "47cdea2d7c28c9a28b4c12939145c60a88a7b6cc9d37b0abf7e68518ba37c019"), looks := false }, kinds := [], alts := [], laidByText := true, laidKinds := [.data, .data, .data, .data, .pinned], laidTests := true, laidLooks := .later }
def CodeKnownCardSaid : Prop := Claim7.holds Tryd.pinned (.plain (OpenSpec.ofChange codeKnownSpec)) codeKnownCard

/-- THE SECOND FORM's CARD OF 'turnstonelaw7.CodeTells'. -/
def codeTellsUptoCard : Claim7 := { stood := { row := codeTellsUptoRow, standIns := [], harness := (true, "47cdea2d7c28c9a28b4c12939145c60a88a7b6cc9d37b0abf7e68518ba37c019"), looks := false }, kinds := [], alts := [], laidByText := true, laidKinds := [.data, .data, .pinned], laidTests := true, laidLooks := .later }
def CodeTellsUptoCardSaid : Prop := Claim7.holds Tryd.pinned (.plain (OpenSpec.upto codeTellsSpec)) codeTellsUptoCard

/-- THE SECOND FORM's CARD OF 'turnstonelaw7.CodeShows'. -/
def codeShowsUptoCard : Claim7 := { stood := { row := codeShowsUptoRow, standIns := [], harness := (true, "47cdea2d7c28c9a28b4c12939145c60a88a7b6cc9d37b0abf7e68518ba37c019"), looks := false }, kinds := [], alts := [], laidByText := true, laidKinds := [.data, .data, .data, .data, .data, .pinned], laidTests := true, laidLooks := .later }
def CodeShowsUptoCardSaid : Prop := Claim7.holds Tryd.pinned (.plain (OpenSpec.upto codeShowsSpec)) codeShowsUptoCard

/-- THE SECOND FORM's CARD OF 'turnstonelaw7.CodeNames'. -/
def codeNamesUptoCard : Claim7 := { stood := { row := codeNamesUptoRow, standIns := [], harness := (true, "47cdea2d7c28c9a28b4c12939145c60a88a7b6cc9d37b0abf7e68518ba37c019"), looks := false }, kinds := [], alts := [], laidByText := true, laidKinds := [.data, .data, .data, .data, .pinned], laidTests := true, laidLooks := .later }
def CodeNamesUptoCardSaid : Prop := Claim7.holds Tryd.pinned (.plain (OpenSpec.upto codeNamesSpec)) codeNamesUptoCard

/-- THE SECOND FORM's CARD OF 'turnstonelaw7.CodeKnown'. -/
def codeKnownUptoCard : Claim7 := { stood := { row := codeKnownUptoRow, standIns := [], harness := (true, "47cdea2d7c28c9a28b4c12939145c60a88a7b6cc9d37b0abf7e68518ba37c019"), looks := false }, kinds := [], alts := [], laidByText := true, laidKinds := [.data, .data, .data, .data, .pinned], laidTests := true, laidLooks := .later }
def CodeKnownUptoCardSaid : Prop := Claim7.holds Tryd.pinned (.plain (OpenSpec.upto codeKnownSpec)) codeKnownUptoCard
end Rows
end Go.Proofs.YtbhnojbkinbomaaDoor
