/-
  DERIVED. GIVEN WITH THE SEED: THE CARDS: each row of YtcgmchechmbmeaaDoorRows.lean that lists a variable, with what it lists TIED to the program's text (the seventh form; the later family's looks); each row that meets fmt, with fmt's text TOLD by the authors' own Lean function (tested against real Go, not proved from fmt's source: count such statements apart). THE CARD IS WHAT COUNTS. Prove the row's statement (the work); the ties are given (YtcgmchechmbmeaaDoorTie.lean); close each card by the builder's one call (the guide's Derived/Test/ToyasCard.lean, 'card_holds'). Laid BY PROGRAM, IN A SANDBOX (cutbox-door.mjs). By AI agents, Wed Nov 11 2026. No macro, syntax, notation, axiom, sorry.
-/
import Derived.Test.YtcgmchechmbmeaaDoorRows
import GoSem.ClaimSeven
namespace Go.Proofs.YtcgmchechmbmeaaDoor
namespace Rows

/-- THE TIED CARD OF 'turnstonelaw15.SsaChecks'. -/
def ssaChecksCard : Claim7 := { stood := { row := ssaChecksRow, standIns := [], harness := (true, "95af64e6461c5628b84a3a5c3ab2125a9cd636828937a843c1cfa1b4f751b03e"), looks := false }, kinds := [], alts := [], laidByText := true, laidKinds := [.data, .pinned], laidTests := true, laidLooks := .later }
def SsaChecksCardSaid : Prop := Claim7.holds Tryd.pinned (.plain (OpenSpec.ofChange ssaChecksSpec)) ssaChecksCard

/-- THE TIED CARD OF 'turnstonelaw15.SsaAny'. -/
def ssaAnyCard : Claim7 := { stood := { row := ssaAnyRow, standIns := [], harness := (true, "95af64e6461c5628b84a3a5c3ab2125a9cd636828937a843c1cfa1b4f751b03e"), looks := false }, kinds := [], alts := [], laidByText := true, laidKinds := [.data, .pinned], laidTests := true, laidLooks := .later }
def SsaAnyCardSaid : Prop := Claim7.holds Tryd.pinned (.plain (OpenSpec.ofChange ssaAnySpec)) ssaAnyCard

/-- THE TIED CARD OF 'turnstonelaw15.SsaKnown'. -/
def ssaKnownCard : Claim7 := { stood := { row := ssaKnownRow, standIns := [], harness := (true, "95af64e6461c5628b84a3a5c3ab2125a9cd636828937a843c1cfa1b4f751b03e"), looks := false }, kinds := [], alts := [], laidByText := true, laidKinds := [.data, .pinned], laidTests := true, laidLooks := .later }
def SsaKnownCardSaid : Prop := Claim7.holds Tryd.pinned (.plain (OpenSpec.ofChange ssaKnownSpec)) ssaKnownCard

/-- THE TIED CARD OF 'turnstonelaw15.SsaTells'. -/
def ssaTellsCard : Claim7 := { stood := { row := ssaTellsRow, standIns := [], harness := (true, "95af64e6461c5628b84a3a5c3ab2125a9cd636828937a843c1cfa1b4f751b03e"), looks := false }, kinds := [], alts := [], laidByText := true, laidKinds := [.data, .pinned], laidTests := true, laidLooks := .later }
def SsaTellsCardSaid : Prop := Claim7.holds Tryd.pinned (.plain (OpenSpec.ofChange ssaTellsSpec)) ssaTellsCard

/-- THE SECOND FORM's CARD OF 'turnstonelaw15.SsaChecks'. -/
def ssaChecksUptoCard : Claim7 := { stood := { row := ssaChecksUptoRow, standIns := [], harness := (true, "95af64e6461c5628b84a3a5c3ab2125a9cd636828937a843c1cfa1b4f751b03e"), looks := false }, kinds := [], alts := [], laidByText := true, laidKinds := [.data, .pinned], laidTests := true, laidLooks := .later }
def SsaChecksUptoCardSaid : Prop := Claim7.holds Tryd.pinned (.plain (OpenSpec.upto ssaChecksSpec)) ssaChecksUptoCard

/-- THE SECOND FORM's CARD OF 'turnstonelaw15.SsaAny'. -/
def ssaAnyUptoCard : Claim7 := { stood := { row := ssaAnyUptoRow, standIns := [], harness := (true, "95af64e6461c5628b84a3a5c3ab2125a9cd636828937a843c1cfa1b4f751b03e"), looks := false }, kinds := [], alts := [], laidByText := true, laidKinds := [.data, .pinned], laidTests := true, laidLooks := .later }
def SsaAnyUptoCardSaid : Prop := Claim7.holds Tryd.pinned (.plain (OpenSpec.upto ssaAnySpec)) ssaAnyUptoCard

/-- THE SECOND FORM's CARD OF 'turnstonelaw15.SsaKnown'. -/
def ssaKnownUptoCard : Claim7 := { stood := { row := ssaKnownUptoRow, standIns := [], harness := (true, "95af64e6461c5628b84a3a5c3ab2125a9cd636828937a843c1cfa1b4f751b03e"), looks := false }, kinds := [], alts := [], laidByText := true, laidKinds := [.data, .pinned], laidTests := true, laidLooks := .later }
def SsaKnownUptoCardSaid : Prop := Claim7.holds Tryd.pinned (.plain (OpenSpec.upto ssaKnownSpec)) ssaKnownUptoCard

/-- THE SECOND FORM's CARD OF 'turnstonelaw15.SsaTells'. -/
def ssaTellsUptoCard : Claim7 := { stood := { row := ssaTellsUptoRow, standIns := [], harness := (true, "95af64e6461c5628b84a3a5c3ab2125a9cd636828937a843c1cfa1b4f751b03e"), looks := false }, kinds := [], alts := [], laidByText := true, laidKinds := [.data, .pinned], laidTests := true, laidLooks := .later }
def SsaTellsUptoCardSaid : Prop := Claim7.holds Tryd.pinned (.plain (OpenSpec.upto ssaTellsSpec)) ssaTellsUptoCard
end Rows
end Go.Proofs.YtcgmchechmbmeaaDoor
