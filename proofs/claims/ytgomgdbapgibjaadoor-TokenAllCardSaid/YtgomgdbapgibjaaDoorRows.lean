/-
  NARROWER THAN 'FOR EVERY INPUT', by the rows' own cells (each row's printed sentence says how): TokenAll: laid · TokenPlaces: laid · TokenLines: laid · TokenNames: laid.
  DERIVED. THE GIVEN ROWS OF THIS SEAT. 4 by the template 'for every input the law returns true; each argument reads behind the call as it read before'; 0 by the template 'total and deterministic' (their statements: YtgomgdbapgibjaaDoorTotals.lean).
  GIVEN WITH THE SEED: the statements are not yours to turn. If you find one false, say at which input.
  Laid BY PROGRAM, IN A SANDBOX (cutbox-rows.mjs): the forced cells as the released guide's own fill.sh prints them over the translation 20e7f5606371b4d0… (all of the seat's roots in one cut). By AI agents, Wed Nov 11 2026. No macro, syntax, notation, axiom, sorry.
-/
import Derived.Test.YtgomgdbapgibjaaDoorChecked
import GoSem.Claim
import GoSem.ClaimJoined
import GoSem.ClaimMapViews
import Derived.JoinedTies
import Derived.KernelRfl
namespace Go.Proofs.YtgomgdbapgibjaaDoor
/- THE CELL 'sum', in the pinned program and in every row, IS THE sha256 OF THE DUMP (.gsa) THAT YtgomgdbapgibjaaDoorProg.lean LOADS. Nothing in Lean hashes anything: it is a label: what it is worth is what the hold of that sum in a sandbox is worth. -/
noncomputable def Tryd.pinned : Pinned := { name := "ytgomgdbapgibjaadoor", sum := "20e7f5606371b4d088f36bc1fc54c22fb8d5275a6c755bfbeb187a8d29c4336e", checked := Tryd.checked }
namespace Rows
def none {H : Type} : Left H := { results := [], args := [] }

/- WHAT THE LISTED PACKAGE-LEVEL VARIABLES READ AS WHEN THE CALL BEGINS. Each datum BY PROGRAM (the guide's laid-datum.mjs) off the statement by which the dump's own 'gosem.cut.vars' lays the variable. In a bare row this is a premise. The card (YtgomgdbapgibjaaDoorCards.lean) ties it to the program's text. -/
def laid_turnstone_turnstonehand_words {H : Type} : DataW H := .agg [.lit (.string [116, 121, 112, 101]), .lit (.string [115, 116, 114, 117, 99, 116]), .lit (.string [105, 110, 116, 101, 114, 102, 97, 99, 101]), .lit (.string [102, 117, 110, 99]), .lit (.string [118, 97, 114]), .lit (.string [105, 102]), .lit (.string [101, 108, 115, 101]), .lit (.string [102, 111, 114]), .lit (.string [98, 114, 101, 97, 107]), .lit (.string [99, 111, 110, 116, 105, 110, 117, 101]), .lit (.string [114, 101, 116, 117, 114, 110]), .lit (.string [112, 114, 105, 110, 116]), .lit (.string [108, 101, 110]), .lit (.string [109, 97, 107, 101]), .lit (.string [110, 101, 119]), .lit (.string [105, 110, 112, 117, 116]), .lit (.string [116, 114, 117, 101]), .lit (.string [102, 97, 108, 115, 101]), .lit (.string [110, 105, 108]), .lit (.string [105, 110, 116]), .lit (.string [98, 111, 111, 108]), .lit (.string [115, 116, 114, 105, 110, 103]), .lit (.string [58, 61]), .lit (.string [61, 61]), .lit (.string [38, 38]), .lit (.string [124, 124]), .lit (.string [43]), .lit (.string [45]), .lit (.string [42]), .lit (.string [60]), .lit (.string [61]), .lit (.string [33]), .lit (.string [40]), .lit (.string [41]), .lit (.string [91]), .lit (.string [93]), .lit (.string [123]), .lit (.string [125]), .lit (.string [44]), .lit (.string [46]), .lit (.string [59]), .lit (.string [10]), .lit (.string [97]), .lit (.string [55])]

/-- 'turnstonelaw3.TokenAll': WHATEVER THE INPUT: true; the input reads as it did. -/
def tokenAllSpec : ChangeSpec := { name := "tokenAll", fn := fun _ => fun
  | [d1, d2, d3, d4, d5] => { results := [.lit (.bool true)], args := [d1, d2, d3, d4, d5] }
  | _ => none }
def tokenAllRow : OpenClaim := { program := "ytgomgdbapgibjaadoor", sum := "20e7f5606371b4d088f36bc1fc54c22fb8d5275a6c755bfbeb187a8d29c4336e", func := "turnstone/turnstonelaw3.TokenAll", spec := "tokenAll", unfollowed := true, recurses := true, named := ["turnstone/turnstonehand.words"], apart := false, laid := [("turnstone/turnstonehand.words", laid_turnstone_turnstonehand_words)] }
def TokenAllSaid : Prop := tokenAllRow.holds Tryd.pinned (OpenSpec.ofChange tokenAllSpec)

/-- ITS FALSE NEIGHBOUR: 'it returns false'. Refute it at one input. -/
def tokenAllWrong : ChangeSpec := { name := "tokenAll", fn := fun _ => fun
  | [d1, d2, d3, d4, d5] => { results := [.lit (.bool false)], args := [d1, d2, d3, d4, d5] }
  | _ => none }
def TokenAllWrongFalsely : Prop := tokenAllRow.holds Tryd.pinned (OpenSpec.ofChange tokenAllWrong)

/-- 'turnstonelaw3.TokenPlaces': WHATEVER THE INPUT: true; the input reads as it did. -/
def tokenPlacesSpec : ChangeSpec := { name := "tokenPlaces", fn := fun _ => fun
  | [d1, d2, d3, d4] => { results := [.lit (.bool true)], args := [d1, d2, d3, d4] }
  | _ => none }
def tokenPlacesRow : OpenClaim := { program := "ytgomgdbapgibjaadoor", sum := "20e7f5606371b4d088f36bc1fc54c22fb8d5275a6c755bfbeb187a8d29c4336e", func := "turnstone/turnstonelaw3.TokenPlaces", spec := "tokenPlaces", unfollowed := true, recurses := true, named := ["turnstone/turnstonehand.words"], apart := false, laid := [("turnstone/turnstonehand.words", laid_turnstone_turnstonehand_words)] }
def TokenPlacesSaid : Prop := tokenPlacesRow.holds Tryd.pinned (OpenSpec.ofChange tokenPlacesSpec)

/-- ITS FALSE NEIGHBOUR: 'it returns false'. Refute it at one input. -/
def tokenPlacesWrong : ChangeSpec := { name := "tokenPlaces", fn := fun _ => fun
  | [d1, d2, d3, d4] => { results := [.lit (.bool false)], args := [d1, d2, d3, d4] }
  | _ => none }
def TokenPlacesWrongFalsely : Prop := tokenPlacesRow.holds Tryd.pinned (OpenSpec.ofChange tokenPlacesWrong)

/-- 'turnstonelaw3.TokenLines': WHATEVER THE INPUT: true; the input reads as it did. -/
def tokenLinesSpec : ChangeSpec := { name := "tokenLines", fn := fun _ => fun
  | [d1, d2] => { results := [.lit (.bool true)], args := [d1, d2] }
  | _ => none }
def tokenLinesRow : OpenClaim := { program := "ytgomgdbapgibjaadoor", sum := "20e7f5606371b4d088f36bc1fc54c22fb8d5275a6c755bfbeb187a8d29c4336e", func := "turnstone/turnstonelaw3.TokenLines", spec := "tokenLines", unfollowed := true, recurses := true, named := ["turnstone/turnstonehand.words"], apart := false, laid := [("turnstone/turnstonehand.words", laid_turnstone_turnstonehand_words)] }
def TokenLinesSaid : Prop := tokenLinesRow.holds Tryd.pinned (OpenSpec.ofChange tokenLinesSpec)

/-- ITS FALSE NEIGHBOUR: 'it returns false'. Refute it at one input. -/
def tokenLinesWrong : ChangeSpec := { name := "tokenLines", fn := fun _ => fun
  | [d1, d2] => { results := [.lit (.bool false)], args := [d1, d2] }
  | _ => none }
def TokenLinesWrongFalsely : Prop := tokenLinesRow.holds Tryd.pinned (OpenSpec.ofChange tokenLinesWrong)

/-- 'turnstonelaw3.TokenNames': WHATEVER THE INPUT: true; the input reads as it did. -/
def tokenNamesSpec : ChangeSpec := { name := "tokenNames", fn := fun _ => fun
  | [d1, d2, d3] => { results := [.lit (.bool true)], args := [d1, d2, d3] }
  | _ => none }
def tokenNamesRow : OpenClaim := { program := "ytgomgdbapgibjaadoor", sum := "20e7f5606371b4d088f36bc1fc54c22fb8d5275a6c755bfbeb187a8d29c4336e", func := "turnstone/turnstonelaw3.TokenNames", spec := "tokenNames", unfollowed := true, recurses := true, named := ["turnstone/turnstonehand.words"], apart := false, laid := [("turnstone/turnstonehand.words", laid_turnstone_turnstonehand_words)] }
def TokenNamesSaid : Prop := tokenNamesRow.holds Tryd.pinned (OpenSpec.ofChange tokenNamesSpec)

/-- ITS FALSE NEIGHBOUR: 'it returns false'. Refute it at one input. -/
def tokenNamesWrong : ChangeSpec := { name := "tokenNames", fn := fun _ => fun
  | [d1, d2, d3] => { results := [.lit (.bool false)], args := [d1, d2, d3] }
  | _ => none }
def TokenNamesWrongFalsely : Prop := tokenNamesRow.holds Tryd.pinned (OpenSpec.ofChange tokenNamesWrong)

/- THE SECOND FORM. 'bulk': how many values and letters a reading holds, each counted each time it is reached (what is shared counts as often as it is met; a slice's spare places count too). A statement '..UptoSaid' is the law's where the arguments, and the package variables that the reading takes, are together of bulk at most 1048576: NARROWER than '..Said'. Prove '..Said' where nothing that the law and all that it calls make is longer than what came in: it says more and counts as full. Else prove '..UptoSaid'. A law counts once. -/
mutual
def uptoBulk {H : Type} : DataW H → Nat
  | .lit (.string bytes) => bytes.length + 1
  | .lit _ => 1
  | .nil => 1
  | .ptr d => uptoBulk d + 1
  | .slice elems spare => uptoBulkAll elems + uptoBulkAll spare + 1
  | .agg parts => uptoBulkAll parts + 1
  | .iface _ d => uptoBulk d + 1
  | .map entries => uptoBulkEntries entries + 1
  | .held _ => 1
def uptoBulkAll {H : Type} : List (DataW H) → Nat
  | [] => 0
  | d :: r => uptoBulk d + uptoBulkAll r
def uptoBulkEntries {H : Type} : List (Lit × DataW H) → Nat
  | [] => 0
  | x :: r => uptoBulkEntry x + uptoBulkEntries r
def uptoBulkEntry {H : Type} : Lit × DataW H → Nat
  | (.string bytes, d) => bytes.length + uptoBulk d + 1
  | (_, d) => uptoBulk d + 1
 end
def uptoSmall : (H : Type) → List (DataW H) → Bool := fun _ ds => decide (uptoBulkAll ds ≤ 1048576)
def OpenSpec.upto (s : _root_.Go.ChangeSpec) : _root_.Go.OpenSpec := { _root_.Go.OpenSpec.ofChange s with cond := some uptoSmall }

/-- 'turnstonelaw3.TokenAll', WHERE WHAT IT READS IS OF BULK AT MOST 1048576: true; the input reads as it did. -/
def tokenAllUptoRow : OpenClaim := { program := "ytgomgdbapgibjaadoor", sum := "20e7f5606371b4d088f36bc1fc54c22fb8d5275a6c755bfbeb187a8d29c4336e", func := "turnstone/turnstonelaw3.TokenAll", spec := "tokenAll", unfollowed := true, recurses := true, named := ["turnstone/turnstonehand.words"], apart := false, laid := [("turnstone/turnstonehand.words", laid_turnstone_turnstonehand_words)], narrowed := true }
def TokenAllUptoSaid : Prop := tokenAllUptoRow.holds Tryd.pinned (OpenSpec.upto tokenAllSpec)

/-- 'turnstonelaw3.TokenPlaces', WHERE WHAT IT READS IS OF BULK AT MOST 1048576: true; the input reads as it did. -/
def tokenPlacesUptoRow : OpenClaim := { program := "ytgomgdbapgibjaadoor", sum := "20e7f5606371b4d088f36bc1fc54c22fb8d5275a6c755bfbeb187a8d29c4336e", func := "turnstone/turnstonelaw3.TokenPlaces", spec := "tokenPlaces", unfollowed := true, recurses := true, named := ["turnstone/turnstonehand.words"], apart := false, laid := [("turnstone/turnstonehand.words", laid_turnstone_turnstonehand_words)], narrowed := true }
def TokenPlacesUptoSaid : Prop := tokenPlacesUptoRow.holds Tryd.pinned (OpenSpec.upto tokenPlacesSpec)

/-- 'turnstonelaw3.TokenLines', WHERE WHAT IT READS IS OF BULK AT MOST 1048576: true; the input reads as it did. -/
def tokenLinesUptoRow : OpenClaim := { program := "ytgomgdbapgibjaadoor", sum := "20e7f5606371b4d088f36bc1fc54c22fb8d5275a6c755bfbeb187a8d29c4336e", func := "turnstone/turnstonelaw3.TokenLines", spec := "tokenLines", unfollowed := true, recurses := true, named := ["turnstone/turnstonehand.words"], apart := false, laid := [("turnstone/turnstonehand.words", laid_turnstone_turnstonehand_words)], narrowed := true }
def TokenLinesUptoSaid : Prop := tokenLinesUptoRow.holds Tryd.pinned (OpenSpec.upto tokenLinesSpec)

/-- 'turnstonelaw3.TokenNames', WHERE WHAT IT READS IS OF BULK AT MOST 1048576: true; the input reads as it did. -/
def tokenNamesUptoRow : OpenClaim := { program := "ytgomgdbapgibjaadoor", sum := "20e7f5606371b4d088f36bc1fc54c22fb8d5275a6c755bfbeb187a8d29c4336e", func := "turnstone/turnstonelaw3.TokenNames", spec := "tokenNames", unfollowed := true, recurses := true, named := ["turnstone/turnstonehand.words"], apart := false, laid := [("turnstone/turnstonehand.words", laid_turnstone_turnstonehand_words)], narrowed := true }
def TokenNamesUptoSaid : Prop := tokenNamesUptoRow.holds Tryd.pinned (OpenSpec.upto tokenNamesSpec)

end Rows
end Go.Proofs.YtgomgdbapgibjaaDoor
