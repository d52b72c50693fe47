/-
  DERIVED. GIVEN WITH THE SEED: THE CARDS: each row of YtggbgelfgfmikaaDoorRows.lean that lists a variable, with what it lists TIED to the program's text (the seventh form; the later family's looks); each row that meets fmt, with fmt's text TOLD by the authors' own Lean function (tested against real Go, not proved from fmt's source: count such statements apart). THE CARD IS WHAT COUNTS. Prove the row's statement (the work); the ties are given (YtggbgelfgfmikaaDoorTie.lean); close each card by the builder's one call (the guide's Derived/Test/ToyasCard.lean, 'card_holds'). Laid BY PROGRAM, IN A SANDBOX (cutbox-door.mjs). By AI agents, Wed Nov 11 2026. No macro, syntax, notation, axiom, sorry.
-/
import Derived.Test.YtggbgelfgfmikaaDoorRows
import GoSem.ClaimSeven
namespace Go.Proofs.YtggbgelfgfmikaaDoor
namespace Rows

/-- THE TIED CARD OF 'turnstonelaw10.WorldFull'. -/
def worldFullCard : Claim7 := { stood := { row := worldFullRow, standIns := [], harness := (true, "37e3558e810e99420b1a6ee1319dcf6314ca44f13b02d037af05dbeed37dd1ef"), looks := false }, kinds := [], alts := [], laidByText := true, laidKinds := [.data, .data, .data], laidTests := true, laidLooks := .later }
def WorldFullCardSaid : Prop := Claim7.holds Tryd.pinned (.plain (OpenSpec.ofChange worldFullSpec)) worldFullCard

/-- THE TIED CARD OF 'turnstonelaw10.WorldNumbers'. -/
def worldNumbersCard : Claim7 := { stood := { row := worldNumbersRow, standIns := [], harness := (true, "37e3558e810e99420b1a6ee1319dcf6314ca44f13b02d037af05dbeed37dd1ef"), looks := false }, kinds := [], alts := [], laidByText := true, laidKinds := [.data, .data, .data], laidTests := true, laidLooks := .later }
def WorldNumbersCardSaid : Prop := Claim7.holds Tryd.pinned (.plain (OpenSpec.ofChange worldNumbersSpec)) worldNumbersCard

/-- THE TIED CARD OF 'turnstonelaw10.WorldTexts'. -/
def worldTextsCard : Claim7 := { stood := { row := worldTextsRow, standIns := [], harness := (true, "37e3558e810e99420b1a6ee1319dcf6314ca44f13b02d037af05dbeed37dd1ef"), looks := false }, kinds := [], alts := [], laidByText := true, laidKinds := [.data, .data, .data], laidTests := true, laidLooks := .later }
def WorldTextsCardSaid : Prop := Claim7.holds Tryd.pinned (.plain (OpenSpec.ofChange worldTextsSpec)) worldTextsCard

/-- THE TIED CARD OF 'turnstonelaw10.WorldKnown'. -/
def worldKnownCard : Claim7 := { stood := { row := worldKnownRow, standIns := [], harness := (true, "37e3558e810e99420b1a6ee1319dcf6314ca44f13b02d037af05dbeed37dd1ef"), looks := false }, kinds := [], alts := [], laidByText := true, laidKinds := [.data, .data, .data], laidTests := true, laidLooks := .later }
def WorldKnownCardSaid : Prop := Claim7.holds Tryd.pinned (.plain (OpenSpec.ofChange worldKnownSpec)) worldKnownCard

/-- THE TIED CARD OF 'turnstonelaw10.WorldPlays'. -/
def worldPlaysCard : Claim7 := { stood := { row := worldPlaysRow, standIns := [], harness := (true, "37e3558e810e99420b1a6ee1319dcf6314ca44f13b02d037af05dbeed37dd1ef"), looks := false }, kinds := [], alts := [], laidByText := true, laidKinds := [.data, .data, .data], laidTests := true, laidLooks := .later }
def WorldPlaysCardSaid : Prop := Claim7.holds Tryd.pinned (.plain (OpenSpec.ofChange worldPlaysSpec)) worldPlaysCard

/-- THE SECOND FORM's CARD OF 'turnstonelaw10.WorldFull'. -/
def worldFullUptoCard : Claim7 := { stood := { row := worldFullUptoRow, standIns := [], harness := (true, "37e3558e810e99420b1a6ee1319dcf6314ca44f13b02d037af05dbeed37dd1ef"), looks := false }, kinds := [], alts := [], laidByText := true, laidKinds := [.data, .data, .data], laidTests := true, laidLooks := .later }
def WorldFullUptoCardSaid : Prop := Claim7.holds Tryd.pinned (.plain (OpenSpec.upto worldFullSpec)) worldFullUptoCard

/-- THE SECOND FORM's CARD OF 'turnstonelaw10.WorldNumbers'. -/
def worldNumbersUptoCard : Claim7 := { stood := { row := worldNumbersUptoRow, standIns := [], harness := (true, "37e3558e810e99420b1a6ee1319dcf6314ca44f13b02d037af05dbeed37dd1ef"), looks := false }, kinds := [], alts := [], laidByText := true, laidKinds := [.data, .data, .data], laidTests := true, laidLooks := .later }
def WorldNumbersUptoCardSaid : Prop := Claim7.holds Tryd.pinned (.plain (OpenSpec.upto worldNumbersSpec)) worldNumbersUptoCard

/-- THE SECOND FORM's CARD OF 'turnstonelaw10.WorldTexts'. -/
def worldTextsUptoCard : Claim7 := { stood := { row := worldTextsUptoRow, standIns := [], harness := (true, "37e3558e810e99420b1a6ee1319dcf6314ca44f13b02d037af05dbeed37dd1ef"), looks := false }, kinds := [], alts := [], laidByText := true, laidKinds := [.data, .data, .data], laidTests := true, laidLooks := .later }
def WorldTextsUptoCardSaid : Prop := Claim7.holds Tryd.pinned (.plain (OpenSpec.upto worldTextsSpec)) worldTextsUptoCard

/-- THE SECOND FORM's CARD OF 'turnstonelaw10.WorldKnown'. -/
def worldKnownUptoCard : Claim7 := { stood := { row := worldKnownUptoRow, standIns := [], harness := (true, "37e3558e810e99420b1a6ee1319dcf6314ca44f13b02d037af05dbeed37dd1ef"), looks := false }, kinds := [], alts := [], laidByText := true, laidKinds := [.data, .data, .data], laidTests := true, laidLooks := .later }
def WorldKnownUptoCardSaid : Prop := Claim7.holds Tryd.pinned (.plain (OpenSpec.upto worldKnownSpec)) worldKnownUptoCard

/-- THE SECOND FORM's CARD OF 'turnstonelaw10.WorldPlays'. -/
def worldPlaysUptoCard : Claim7 := { stood := { row := worldPlaysUptoRow, standIns := [], harness := (true, "37e3558e810e99420b1a6ee1319dcf6314ca44f13b02d037af05dbeed37dd1ef"), looks := false }, kinds := [], alts := [], laidByText := true, laidKinds := [.data, .data, .data], laidTests := true, laidLooks := .later }
def WorldPlaysUptoCardSaid : Prop := Claim7.holds Tryd.pinned (.plain (OpenSpec.upto worldPlaysSpec)) worldPlaysUptoCard
end Rows
end Go.Proofs.YtggbgelfgfmikaaDoor
