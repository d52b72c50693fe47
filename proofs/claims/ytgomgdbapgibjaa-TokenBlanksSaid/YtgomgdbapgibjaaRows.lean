/-
  No cell of these rows narrows 'for every input' (looked for: loops, veiled, ifaces, maps, wideKeys, modest, calm, conditions, laid).
  DERIVED. THE GIVEN ROWS OF THIS SEAT. 5 by the template 'for every input the law returns true; each argument reads behind the call as it read before'; 0 by the template 'total and deterministic' (their statements: YtgomgdbapgibjaaTotals.lean).
  GIVEN WITH THE SEED: the statements are not yours to turn. If you find one false, say at which input.
  Laid BY PROGRAM, IN A SANDBOX (cutbox-rows.mjs): the forced cells as the released guide's own fill.sh prints them over the translation e00a15fdcba89ac1… (all of the seat's roots in one cut). By AI agents, Wed Nov 11 2026. No macro, syntax, notation, axiom, sorry.
-/
import Derived.Test.YtgomgdbapgibjaaChecked
import GoSem.Claim
import GoSem.ClaimJoined
import GoSem.ClaimMapViews
import Derived.JoinedTies
import Derived.KernelRfl
namespace Go.Proofs.Ytgomgdbapgibjaa
/- THE CELL 'sum', in the pinned program and in every row, IS THE sha256 OF THE DUMP (.gsa) THAT YtgomgdbapgibjaaProg.lean LOADS. Nothing in Lean hashes anything: it is a label: what it is worth is what the hold of that sum in a sandbox is worth. -/
noncomputable def Try.pinned : Pinned := { name := "ytgomgdbapgibjaa", sum := "e00a15fdcba89ac16c11d089cfbeb23c4eee12bf9a87db12f9ac8c052a2edd02", checked := Try.checked }
namespace Rows
def none {H : Type} : Left H := { results := [], args := [] }

/-- 'turnstonelaw3.TokenNumbers': WHATEVER THE INPUT: true; the input reads as it did. -/
def tokenNumbersSpec : ChangeSpec := { name := "tokenNumbers", fn := fun _ => fun
  | [d1, d2] => { results := [.lit (.bool true)], args := [d1, d2] }
  | _ => none }
def tokenNumbersRow : OpenClaim := { program := "ytgomgdbapgibjaa", sum := "e00a15fdcba89ac16c11d089cfbeb23c4eee12bf9a87db12f9ac8c052a2edd02", func := "turnstone/turnstonelaw3.TokenNumbers", spec := "tokenNumbers", unfollowed := true, recurses := true, apart := false }
def TokenNumbersSaid : Prop := tokenNumbersRow.holds Try.pinned (OpenSpec.ofChange tokenNumbersSpec)

/-- ITS FALSE NEIGHBOUR: 'it returns false'. Refute it at one input. -/
def tokenNumbersWrong : ChangeSpec := { name := "tokenNumbers", fn := fun _ => fun
  | [d1, d2] => { results := [.lit (.bool false)], args := [d1, d2] }
  | _ => none }
def TokenNumbersWrongFalsely : Prop := tokenNumbersRow.holds Try.pinned (OpenSpec.ofChange tokenNumbersWrong)

/-- 'turnstonelaw3.TokenTexts': WHATEVER THE INPUT: true; the input reads as it did. -/
def tokenTextsSpec : ChangeSpec := { name := "tokenTexts", fn := fun _ => fun
  | [d] => { results := [.lit (.bool true)], args := [d] }
  | _ => none }
def tokenTextsRow : OpenClaim := { program := "ytgomgdbapgibjaa", sum := "e00a15fdcba89ac16c11d089cfbeb23c4eee12bf9a87db12f9ac8c052a2edd02", func := "turnstone/turnstonelaw3.TokenTexts", spec := "tokenTexts", unfollowed := true, recurses := true, apart := false }
def TokenTextsSaid : Prop := tokenTextsRow.holds Try.pinned (OpenSpec.ofChange tokenTextsSpec)

/-- ITS FALSE NEIGHBOUR: 'it returns false'. Refute it at one input. -/
def tokenTextsWrong : ChangeSpec := { name := "tokenTexts", fn := fun _ => fun
  | [d] => { results := [.lit (.bool false)], args := [d] }
  | _ => none }
def TokenTextsWrongFalsely : Prop := tokenTextsRow.holds Try.pinned (OpenSpec.ofChange tokenTextsWrong)

/-- 'turnstonelaw3.TokenLong': WHATEVER THE INPUT: true; the input reads as it did. -/
def tokenLongSpec : ChangeSpec := { name := "tokenLong", fn := fun _ => fun
  | [d1, d2, d3] => { results := [.lit (.bool true)], args := [d1, d2, d3] }
  | _ => none }
def tokenLongRow : OpenClaim := { program := "ytgomgdbapgibjaa", sum := "e00a15fdcba89ac16c11d089cfbeb23c4eee12bf9a87db12f9ac8c052a2edd02", func := "turnstone/turnstonelaw3.TokenLong", spec := "tokenLong", unfollowed := true, recurses := true, apart := false }
def TokenLongSaid : Prop := tokenLongRow.holds Try.pinned (OpenSpec.ofChange tokenLongSpec)

/-- ITS FALSE NEIGHBOUR: 'it returns false'. Refute it at one input. -/
def tokenLongWrong : ChangeSpec := { name := "tokenLong", fn := fun _ => fun
  | [d1, d2, d3] => { results := [.lit (.bool false)], args := [d1, d2, d3] }
  | _ => none }
def TokenLongWrongFalsely : Prop := tokenLongRow.holds Try.pinned (OpenSpec.ofChange tokenLongWrong)

/-- 'turnstonelaw3.TokenBlanks': WHATEVER THE INPUT: true; the input reads as it did. -/
def tokenBlanksSpec : ChangeSpec := { name := "tokenBlanks", fn := fun _ => fun
  | [d1, d2] => { results := [.lit (.bool true)], args := [d1, d2] }
  | _ => none }
def tokenBlanksRow : OpenClaim := { program := "ytgomgdbapgibjaa", sum := "e00a15fdcba89ac16c11d089cfbeb23c4eee12bf9a87db12f9ac8c052a2edd02", func := "turnstone/turnstonelaw3.TokenBlanks", spec := "tokenBlanks", unfollowed := true, recurses := true, apart := false }
def TokenBlanksSaid : Prop := tokenBlanksRow.holds Try.pinned (OpenSpec.ofChange tokenBlanksSpec)

/-- ITS FALSE NEIGHBOUR: 'it returns false'. Refute it at one input. -/
def tokenBlanksWrong : ChangeSpec := { name := "tokenBlanks", fn := fun _ => fun
  | [d1, d2] => { results := [.lit (.bool false)], args := [d1, d2] }
  | _ => none }
def TokenBlanksWrongFalsely : Prop := tokenBlanksRow.holds Try.pinned (OpenSpec.ofChange tokenBlanksWrong)

/-- 'turnstonelaw3.TokenKnown': WHATEVER THE INPUT: true; the input reads as it did. -/
def tokenKnownSpec : ChangeSpec := { name := "tokenKnown", fn := fun _ => fun
  | [] => { results := [.lit (.bool true)], args := [] }
  | _ => none }
def tokenKnownRow : OpenClaim := { program := "ytgomgdbapgibjaa", sum := "e00a15fdcba89ac16c11d089cfbeb23c4eee12bf9a87db12f9ac8c052a2edd02", func := "turnstone/turnstonelaw3.TokenKnown", spec := "tokenKnown", unfollowed := true, recurses := true, apart := false }
def TokenKnownSaid : Prop := tokenKnownRow.holds Try.pinned (OpenSpec.ofChange tokenKnownSpec)

/-- ITS FALSE NEIGHBOUR: 'it returns false'. Refute it at one input. -/
def tokenKnownWrong : ChangeSpec := { name := "tokenKnown", fn := fun _ => fun
  | [] => { results := [.lit (.bool false)], args := [] }
  | _ => none }
def TokenKnownWrongFalsely : Prop := tokenKnownRow.holds Try.pinned (OpenSpec.ofChange tokenKnownWrong)

/- THE SECOND FORM. 'bulk': how many values and letters a reading holds, each counted each time it is reached (what is shared counts as often as it is met; a slice's spare places count too). A statement '..UptoSaid' is the law's where the arguments, and the package variables that the reading takes, are together of bulk at most 1048576: NARROWER than '..Said'. Prove '..Said' where nothing that the law and all that it calls make is longer than what came in: it says more and counts as full. Else prove '..UptoSaid'. A law counts once. -/
mutual
def uptoBulk {H : Type} : DataW H → Nat
  | .lit (.string bytes) => bytes.length + 1
  | .lit _ => 1
  | .nil => 1
  | .ptr d => uptoBulk d + 1
  | .slice elems spare => uptoBulkAll elems + uptoBulkAll spare + 1
  | .agg parts => uptoBulkAll parts + 1
  | .iface _ d => uptoBulk d + 1
  | .map entries => uptoBulkEntries entries + 1
  | .held _ => 1
def uptoBulkAll {H : Type} : List (DataW H) → Nat
  | [] => 0
  | d :: r => uptoBulk d + uptoBulkAll r
def uptoBulkEntries {H : Type} : List (Lit × DataW H) → Nat
  | [] => 0
  | x :: r => uptoBulkEntry x + uptoBulkEntries r
def uptoBulkEntry {H : Type} : Lit × DataW H → Nat
  | (.string bytes, d) => bytes.length + uptoBulk d + 1
  | (_, d) => uptoBulk d + 1
 end
def uptoSmall : (H : Type) → List (DataW H) → Bool := fun _ ds => decide (uptoBulkAll ds ≤ 1048576)
def OpenSpec.upto (s : _root_.Go.ChangeSpec) : _root_.Go.OpenSpec := { _root_.Go.OpenSpec.ofChange s with cond := some uptoSmall }

/-- 'turnstonelaw3.TokenNumbers', WHERE WHAT IT READS IS OF BULK AT MOST 1048576: true; the input reads as it did. -/
def tokenNumbersUptoRow : OpenClaim := { program := "ytgomgdbapgibjaa", sum := "e00a15fdcba89ac16c11d089cfbeb23c4eee12bf9a87db12f9ac8c052a2edd02", func := "turnstone/turnstonelaw3.TokenNumbers", spec := "tokenNumbers", unfollowed := true, recurses := true, apart := false, narrowed := true }
def TokenNumbersUptoSaid : Prop := tokenNumbersUptoRow.holds Try.pinned (OpenSpec.upto tokenNumbersSpec)

/-- 'turnstonelaw3.TokenTexts', WHERE WHAT IT READS IS OF BULK AT MOST 1048576: true; the input reads as it did. -/
def tokenTextsUptoRow : OpenClaim := { program := "ytgomgdbapgibjaa", sum := "e00a15fdcba89ac16c11d089cfbeb23c4eee12bf9a87db12f9ac8c052a2edd02", func := "turnstone/turnstonelaw3.TokenTexts", spec := "tokenTexts", unfollowed := true, recurses := true, apart := false, narrowed := true }
def TokenTextsUptoSaid : Prop := tokenTextsUptoRow.holds Try.pinned (OpenSpec.upto tokenTextsSpec)

/-- 'turnstonelaw3.TokenLong', WHERE WHAT IT READS IS OF BULK AT MOST 1048576: true; the input reads as it did. -/
def tokenLongUptoRow : OpenClaim := { program := "ytgomgdbapgibjaa", sum := "e00a15fdcba89ac16c11d089cfbeb23c4eee12bf9a87db12f9ac8c052a2edd02", func := "turnstone/turnstonelaw3.TokenLong", spec := "tokenLong", unfollowed := true, recurses := true, apart := false, narrowed := true }
def TokenLongUptoSaid : Prop := tokenLongUptoRow.holds Try.pinned (OpenSpec.upto tokenLongSpec)

/-- 'turnstonelaw3.TokenBlanks', WHERE WHAT IT READS IS OF BULK AT MOST 1048576: true; the input reads as it did. -/
def tokenBlanksUptoRow : OpenClaim := { program := "ytgomgdbapgibjaa", sum := "e00a15fdcba89ac16c11d089cfbeb23c4eee12bf9a87db12f9ac8c052a2edd02", func := "turnstone/turnstonelaw3.TokenBlanks", spec := "tokenBlanks", unfollowed := true, recurses := true, apart := false, narrowed := true }
def TokenBlanksUptoSaid : Prop := tokenBlanksUptoRow.holds Try.pinned (OpenSpec.upto tokenBlanksSpec)

/-- 'turnstonelaw3.TokenKnown', WHERE WHAT IT READS IS OF BULK AT MOST 1048576: true; the input reads as it did. -/
def tokenKnownUptoRow : OpenClaim := { program := "ytgomgdbapgibjaa", sum := "e00a15fdcba89ac16c11d089cfbeb23c4eee12bf9a87db12f9ac8c052a2edd02", func := "turnstone/turnstonelaw3.TokenKnown", spec := "tokenKnown", unfollowed := true, recurses := true, apart := false, narrowed := true }
def TokenKnownUptoSaid : Prop := tokenKnownUptoRow.holds Try.pinned (OpenSpec.upto tokenKnownSpec)

end Rows
end Go.Proofs.Ytgomgdbapgibjaa
