/-
  DERIVED. GIVEN WITH THE SEED: THE CARDS: each row of YtlogdohlcdhepaaDoorRows.lean that lists a variable, with what it lists TIED to the program's text (the seventh form; the later family's looks); each row that meets fmt, with fmt's text TOLD by the authors' own Lean function (tested against real Go, not proved from fmt's source: count such statements apart). THE CARD IS WHAT COUNTS. Prove the row's statement (the work); the ties are given (YtlogdohlcdhepaaDoorTie.lean); close each card by the builder's one call (the guide's Derived/Test/ToyasCard.lean, 'card_holds'). Laid BY PROGRAM, IN A SANDBOX (cutbox-door.mjs). By AI agents, Wed Nov 11 2026. No macro, syntax, notation, axiom, sorry.
-/
import Derived.Test.YtlogdohlcdhepaaDoorRows
import GoSem.ClaimSeven
namespace Go.Proofs.YtlogdohlcdhepaaDoor
namespace Rows

/-- THE TIED CARD OF 'turnstonelaw16.EvalKnown'. -/
def evalKnownCard : Claim7 := { stood := { row := evalKnownRow, standIns := [], harness := (true, "bef5e8fb319d10154003e8d06b144b266771c7b5f32ed12f4fc78a4ca88f9b86"), looks := false }, kinds := [], alts := [], laidByText := true, laidKinds := [.data, .pinned], laidTests := true, laidLooks := .later }
def EvalKnownCardSaid : Prop := Claim7.holds Tryd.pinned (.plain (OpenSpec.ofChange evalKnownSpec)) evalKnownCard

/-- THE TIED CARD OF 'turnstonelaw16.EvalRuns'. -/
def evalRunsCard : Claim7 := { stood := { row := evalRunsRow, standIns := [], harness := (true, "bef5e8fb319d10154003e8d06b144b266771c7b5f32ed12f4fc78a4ca88f9b86"), looks := false }, kinds := [], alts := [], laidByText := true, laidKinds := [.data, .pinned], laidTests := true, laidLooks := .later }
def EvalRunsCardSaid : Prop := Claim7.holds Tryd.pinned (.plain (OpenSpec.ofChange evalRunsSpec)) evalRunsCard

/-- THE TIED CARD OF 'turnstonelaw16.EvalFuel'. -/
def evalFuelCard : Claim7 := { stood := { row := evalFuelRow, standIns := [], harness := (true, "bef5e8fb319d10154003e8d06b144b266771c7b5f32ed12f4fc78a4ca88f9b86"), looks := false }, kinds := [], alts := [], laidByText := true, laidKinds := [.data, .pinned], laidTests := true, laidLooks := .later }
def EvalFuelCardSaid : Prop := Claim7.holds Tryd.pinned (.plain (OpenSpec.ofChange evalFuelSpec)) evalFuelCard

/-- THE TIED CARD OF 'turnstonelaw16.EvalWish'. -/
def evalWishCard : Claim7 := { stood := { row := evalWishRow, standIns := [], harness := (true, "bef5e8fb319d10154003e8d06b144b266771c7b5f32ed12f4fc78a4ca88f9b86"), looks := false }, kinds := [], alts := [], laidByText := true, laidKinds := [.data, .pinned], laidTests := true, laidLooks := .later }
def EvalWishCardSaid : Prop := Claim7.holds Tryd.pinned (.plain (OpenSpec.ofChange evalWishSpec)) evalWishCard

/-- THE TIED CARD OF 'turnstonelaw16.EvalSwaps'. -/
def evalSwapsCard : Claim7 := { stood := { row := evalSwapsRow, standIns := [], harness := (true, "bef5e8fb319d10154003e8d06b144b266771c7b5f32ed12f4fc78a4ca88f9b86"), looks := false }, kinds := [], alts := [], laidByText := true, laidKinds := [.data, .pinned], laidTests := true, laidLooks := .later }
def EvalSwapsCardSaid : Prop := Claim7.holds Tryd.pinned (.plain (OpenSpec.ofChange evalSwapsSpec)) evalSwapsCard

/-- THE TIED CARD OF 'turnstonelaw16.EvalPuts'. -/
def evalPutsCard : Claim7 := { stood := { row := evalPutsRow, standIns := [], harness := (true, "bef5e8fb319d10154003e8d06b144b266771c7b5f32ed12f4fc78a4ca88f9b86"), looks := false }, kinds := [], alts := [], laidByText := true, laidKinds := [.data, .pinned], laidTests := true, laidLooks := .later }
def EvalPutsCardSaid : Prop := Claim7.holds Tryd.pinned (.plain (OpenSpec.ofChange evalPutsSpec)) evalPutsCard

/-- THE SECOND FORM's CARD OF 'turnstonelaw16.EvalKnown'. -/
def evalKnownUptoCard : Claim7 := { stood := { row := evalKnownUptoRow, standIns := [], harness := (true, "bef5e8fb319d10154003e8d06b144b266771c7b5f32ed12f4fc78a4ca88f9b86"), looks := false }, kinds := [], alts := [], laidByText := true, laidKinds := [.data, .pinned], laidTests := true, laidLooks := .later }
def EvalKnownUptoCardSaid : Prop := Claim7.holds Tryd.pinned (.plain (OpenSpec.upto evalKnownSpec)) evalKnownUptoCard

/-- THE SECOND FORM's CARD OF 'turnstonelaw16.EvalRuns'. -/
def evalRunsUptoCard : Claim7 := { stood := { row := evalRunsUptoRow, standIns := [], harness := (true, "bef5e8fb319d10154003e8d06b144b266771c7b5f32ed12f4fc78a4ca88f9b86"), looks := false }, kinds := [], alts := [], laidByText := true, laidKinds := [.data, .pinned], laidTests := true, laidLooks := .later }
def EvalRunsUptoCardSaid : Prop := Claim7.holds Tryd.pinned (.plain (OpenSpec.upto evalRunsSpec)) evalRunsUptoCard

/-- THE SECOND FORM's CARD OF 'turnstonelaw16.EvalFuel'. -/
def evalFuelUptoCard : Claim7 := { stood := { row := evalFuelUptoRow, standIns := [], harness := (true, "bef5e8fb319d10154003e8d06b144b266771c7b5f32ed12f4fc78a4ca88f9b86"), looks := false }, kinds := [], alts := [], laidByText := true, laidKinds := [.data, .pinned], laidTests := true, laidLooks := .later }
def EvalFuelUptoCardSaid : Prop := Claim7.holds Tryd.pinned (.plain (OpenSpec.upto evalFuelSpec)) evalFuelUptoCard

/-- THE SECOND FORM's CARD OF 'turnstonelaw16.EvalWish'. -/
def evalWishUptoCard : Claim7 := { stood := { row := evalWishUptoRow, standIns := [], harness := (true, "bef5e8fb319d10154003e8d06b144b266771c7b5f32ed12f4fc78a4ca88f9b86"), looks := false }, kinds := [], alts := [], laidByText := true, laidKinds := [.data, .pinned], laidTests := true, laidLooks := .later }
def EvalWishUptoCardSaid : Prop := Claim7.holds Tryd.pinned (.plain (OpenSpec.upto evalWishSpec)) evalWishUptoCard

/-- THE SECOND FORM's CARD OF 'turnstonelaw16.EvalSwaps'. -/
def evalSwapsUptoCard : Claim7 := { stood := { row := evalSwapsUptoRow, standIns := [], harness := (true, "bef5e8fb319d10154003e8d06b144b266771c7b5f32ed12f4fc78a4ca88f9b86"), looks := false }, kinds := [], alts := [], laidByText := true, laidKinds := [.data, .pinned], laidTests := true, laidLooks := .later }
def EvalSwapsUptoCardSaid : Prop := Claim7.holds Tryd.pinned (.plain (OpenSpec.upto evalSwapsSpec)) evalSwapsUptoCard

/-- THE SECOND FORM's CARD OF 'turnstonelaw16.EvalPuts'. -/
def evalPutsUptoCard : Claim7 := { stood := { row := evalPutsUptoRow, standIns := [], harness := (true, "bef5e8fb319d10154003e8d06b144b266771c7b5f32ed12f4fc78a4ca88f9b86"), looks := false }, kinds := [], alts := [], laidByText := true, laidKinds := [.data, .pinned], laidTests := true, laidLooks := .later }
def EvalPutsUptoCardSaid : Prop := Claim7.holds Tryd.pinned (.plain (OpenSpec.upto evalPutsSpec)) evalPutsUptoCard
end Rows
end Go.Proofs.YtlogdohlcdhepaaDoor
