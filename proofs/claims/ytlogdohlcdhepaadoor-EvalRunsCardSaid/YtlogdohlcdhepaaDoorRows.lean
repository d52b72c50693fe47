/-
  NARROWER THAN 'FOR EVERY INPUT', by the rows' own cells (each row's printed sentence says how): EvalKnown: laid · EvalRuns: laid · EvalFuel: laid · EvalWish: laid · EvalSwaps: laid · EvalPuts: laid.
  DERIVED. THE GIVEN ROWS OF THIS SEAT. 6 by the template 'for every input the law returns true; each argument reads behind the call as it read before'; 0 by the template 'total and deterministic' (their statements: YtlogdohlcdhepaaDoorTotals.lean).
  GIVEN WITH THE SEED: the statements are not yours to turn. If you find one false, say at which input.
  Laid BY PROGRAM, IN A SANDBOX (cutbox-rows.mjs): the forced cells as the released guide's own fill.sh prints them over the translation 30602615e0e17ea6… (all of the seat's roots in one cut). By AI agents, Wed Nov 11 2026. No macro, syntax, notation, axiom, sorry.
-/
import Derived.Test.YtlogdohlcdhepaaDoorChecked
import GoSem.PinnedTables
import GoSem.Claim
import GoSem.ClaimJoined
import GoSem.ClaimMapViews
import Derived.JoinedTies
import Derived.KernelRfl
namespace Go.Proofs.YtlogdohlcdhepaaDoor
/- THE CELL 'sum', in the pinned program and in every row, IS THE sha256 OF THE DUMP (.gsa) THAT YtlogdohlcdhepaaDoorProg.lean LOADS. Nothing in Lean hashes anything: it is a label: what it is worth is what the hold of that sum in a sandbox is worth. -/
noncomputable def Tryd.pinned : Pinned := { name := "ytlogdohlcdhepaadoor", sum := "30602615e0e17ea6a2bbc0c26967926f02e221944e046518b6e2ffa1facccbc7", checked := Tryd.checked }
namespace Rows
def none {H : Type} : Left H := { results := [], args := [] }

/- WHAT THE LISTED PACKAGE-LEVEL VARIABLES READ AS WHEN THE CALL BEGINS. Each datum BY PROGRAM (the guide's laid-datum.mjs) off the statement by which the dump's own 'gosem.cut.vars' lays the variable. In a bare row this is a premise. The card (YtlogdohlcdhepaaDoorCards.lean) ties it to the program's text. -/
def laid_unicode_utf8_acceptRanges {H : Type} : DataW H := .agg [.agg [.lit (.int .u8 128), .lit (.int .u8 191)], .agg [.lit (.int .u8 160), .lit (.int .u8 191)], .agg [.lit (.int .u8 128), .lit (.int .u8 159)], .agg [.lit (.int .u8 144), .lit (.int .u8 191)], .agg [.lit (.int .u8 128), .lit (.int .u8 143)], .agg [.lit (.int .u8 0), .lit (.int .u8 0)], .agg [.lit (.int .u8 0), .lit (.int .u8 0)], .agg [.lit (.int .u8 0), .lit (.int .u8 0)], .agg [.lit (.int .u8 0), .lit (.int .u8 0)], .agg [.lit (.int .u8 0), .lit (.int .u8 0)], .agg [.lit (.int .u8 0), .lit (.int .u8 0)], .agg [.lit (.int .u8 0), .lit (.int .u8 0)], .agg [.lit (.int .u8 0), .lit (.int .u8 0)], .agg [.lit (.int .u8 0), .lit (.int .u8 0)], .agg [.lit (.int .u8 0), .lit (.int .u8 0)], .agg [.lit (.int .u8 0), .lit (.int .u8 0)]]
/-- One of Go's own tables, pinned by name: the form's constant. -/
def laid_unicode_utf8_first : DataW Unit := Go.Pinned.utf8First

/-- 'turnstonelaw16.EvalKnown': WHATEVER THE INPUT: true; the input reads as it did. -/
def evalKnownSpec : ChangeSpec := { name := "evalKnown", fn := fun _ => fun
  | [] => { results := [.lit (.bool true)], args := [] }
  | _ => none }
def evalKnownRow : OpenClaim := { program := "ytlogdohlcdhepaadoor", sum := "30602615e0e17ea6a2bbc0c26967926f02e221944e046518b6e2ffa1facccbc7", func := "turnstone/turnstonelaw16.EvalKnown", spec := "evalKnown", inPlace := ["internal/bytealg.CountString", "internal/bytealg.IndexByteString", "internal/bytealg.IndexString"], unfollowed := true, recurses := true, named := ["unicode/utf8.first", "unicode/utf8.acceptRanges", "internal/bytealg.MaxLen"], apart := false, laid := [("unicode/utf8.acceptRanges", laid_unicode_utf8_acceptRanges), ("unicode/utf8.first", laid_unicode_utf8_first)] }
def EvalKnownSaid : Prop := evalKnownRow.holds Tryd.pinned (OpenSpec.ofChange evalKnownSpec)

/-- ITS FALSE NEIGHBOUR: 'it returns false'. Refute it at one input. -/
def evalKnownWrong : ChangeSpec := { name := "evalKnown", fn := fun _ => fun
  | [] => { results := [.lit (.bool false)], args := [] }
  | _ => none }
def EvalKnownWrongFalsely : Prop := evalKnownRow.holds Tryd.pinned (OpenSpec.ofChange evalKnownWrong)

/-- 'turnstonelaw16.EvalRuns': WHATEVER THE INPUT: true; the input reads as it did. -/
def evalRunsSpec : ChangeSpec := { name := "evalRuns", fn := fun _ => fun
  | [d1, d2, d3, d4, d5, d6] => { results := [.lit (.bool true)], args := [d1, d2, d3, d4, d5, d6] }
  | _ => none }
def evalRunsRow : OpenClaim := { program := "ytlogdohlcdhepaadoor", sum := "30602615e0e17ea6a2bbc0c26967926f02e221944e046518b6e2ffa1facccbc7", func := "turnstone/turnstonelaw16.EvalRuns", spec := "evalRuns", inPlace := ["internal/bytealg.CountString", "internal/bytealg.IndexByteString", "internal/bytealg.IndexString"], unfollowed := true, recurses := true, named := ["unicode/utf8.first", "unicode/utf8.acceptRanges", "internal/bytealg.MaxLen"], apart := false, laid := [("unicode/utf8.acceptRanges", laid_unicode_utf8_acceptRanges), ("unicode/utf8.first", laid_unicode_utf8_first)] }
def EvalRunsSaid : Prop := evalRunsRow.holds Tryd.pinned (OpenSpec.ofChange evalRunsSpec)

/-- ITS FALSE NEIGHBOUR: 'it returns false'. Refute it at one input. -/
def evalRunsWrong : ChangeSpec := { name := "evalRuns", fn := fun _ => fun
  | [d1, d2, d3, d4, d5, d6] => { results := [.lit (.bool false)], args := [d1, d2, d3, d4, d5, d6] }
  | _ => none }
def EvalRunsWrongFalsely : Prop := evalRunsRow.holds Tryd.pinned (OpenSpec.ofChange evalRunsWrong)

/-- 'turnstonelaw16.EvalFuel': WHATEVER THE INPUT: true; the input reads as it did. -/
def evalFuelSpec : ChangeSpec := { name := "evalFuel", fn := fun _ => fun
  | [d1, d2, d3, d4, d5, d6] => { results := [.lit (.bool true)], args := [d1, d2, d3, d4, d5, d6] }
  | _ => none }
def evalFuelRow : OpenClaim := { program := "ytlogdohlcdhepaadoor", sum := "30602615e0e17ea6a2bbc0c26967926f02e221944e046518b6e2ffa1facccbc7", func := "turnstone/turnstonelaw16.EvalFuel", spec := "evalFuel", inPlace := ["internal/bytealg.CountString", "internal/bytealg.IndexByteString", "internal/bytealg.IndexString"], unfollowed := true, recurses := true, named := ["unicode/utf8.first", "unicode/utf8.acceptRanges", "internal/bytealg.MaxLen"], apart := false, laid := [("unicode/utf8.acceptRanges", laid_unicode_utf8_acceptRanges), ("unicode/utf8.first", laid_unicode_utf8_first)] }
def EvalFuelSaid : Prop := evalFuelRow.holds Tryd.pinned (OpenSpec.ofChange evalFuelSpec)

/-- ITS FALSE NEIGHBOUR: 'it returns false'. Refute it at one input. -/
def evalFuelWrong : ChangeSpec := { name := "evalFuel", fn := fun _ => fun
  | [d1, d2, d3, d4, d5, d6] => { results := [.lit (.bool false)], args := [d1, d2, d3, d4, d5, d6] }
  | _ => none }
def EvalFuelWrongFalsely : Prop := evalFuelRow.holds Tryd.pinned (OpenSpec.ofChange evalFuelWrong)

/-- 'turnstonelaw16.EvalWish': WHATEVER THE INPUT: true; the input reads as it did. -/
def evalWishSpec : ChangeSpec := { name := "evalWish", fn := fun _ => fun
  | [d1, d2, d3, d4] => { results := [.lit (.bool true)], args := [d1, d2, d3, d4] }
  | _ => none }
def evalWishRow : OpenClaim := { program := "ytlogdohlcdhepaadoor", sum := "30602615e0e17ea6a2bbc0c26967926f02e221944e046518b6e2ffa1facccbc7", func := "turnstone/turnstonelaw16.EvalWish", spec := "evalWish", inPlace := ["internal/bytealg.CountString", "internal/bytealg.IndexByteString", "internal/bytealg.IndexString"], unfollowed := true, recurses := true, named := ["unicode/utf8.first", "unicode/utf8.acceptRanges", "internal/bytealg.MaxLen"], apart := false, laid := [("unicode/utf8.acceptRanges", laid_unicode_utf8_acceptRanges), ("unicode/utf8.first", laid_unicode_utf8_first)] }
def EvalWishSaid : Prop := evalWishRow.holds Tryd.pinned (OpenSpec.ofChange evalWishSpec)

/-- ITS FALSE NEIGHBOUR: 'it returns false'. Refute it at one input. -/
def evalWishWrong : ChangeSpec := { name := "evalWish", fn := fun _ => fun
  | [d1, d2, d3, d4] => { results := [.lit (.bool false)], args := [d1, d2, d3, d4] }
  | _ => none }
def EvalWishWrongFalsely : Prop := evalWishRow.holds Tryd.pinned (OpenSpec.ofChange evalWishWrong)

/-- 'turnstonelaw16.EvalSwaps': WHATEVER THE INPUT: true; the input reads as it did. -/
def evalSwapsSpec : ChangeSpec := { name := "evalSwaps", fn := fun _ => fun
  | [d1, d2, d3] => { results := [.lit (.bool true)], args := [d1, d2, d3] }
  | _ => none }
def evalSwapsRow : OpenClaim := { program := "ytlogdohlcdhepaadoor", sum := "30602615e0e17ea6a2bbc0c26967926f02e221944e046518b6e2ffa1facccbc7", func := "turnstone/turnstonelaw16.EvalSwaps", spec := "evalSwaps", inPlace := ["internal/bytealg.CountString", "internal/bytealg.IndexByteString", "internal/bytealg.IndexString"], unfollowed := true, recurses := true, named := ["unicode/utf8.first", "unicode/utf8.acceptRanges", "internal/bytealg.MaxLen"], apart := false, laid := [("unicode/utf8.acceptRanges", laid_unicode_utf8_acceptRanges), ("unicode/utf8.first", laid_unicode_utf8_first)] }
def EvalSwapsSaid : Prop := evalSwapsRow.holds Tryd.pinned (OpenSpec.ofChange evalSwapsSpec)

/-- ITS FALSE NEIGHBOUR: 'it returns false'. Refute it at one input. -/
def evalSwapsWrong : ChangeSpec := { name := "evalSwaps", fn := fun _ => fun
  | [d1, d2, d3] => { results := [.lit (.bool false)], args := [d1, d2, d3] }
  | _ => none }
def EvalSwapsWrongFalsely : Prop := evalSwapsRow.holds Tryd.pinned (OpenSpec.ofChange evalSwapsWrong)

/-- 'turnstonelaw16.EvalPuts': WHATEVER THE INPUT: true; the input reads as it did. -/
def evalPutsSpec : ChangeSpec := { name := "evalPuts", fn := fun _ => fun
  | [d1, d2, d3] => { results := [.lit (.bool true)], args := [d1, d2, d3] }
  | _ => none }
def evalPutsRow : OpenClaim := { program := "ytlogdohlcdhepaadoor", sum := "30602615e0e17ea6a2bbc0c26967926f02e221944e046518b6e2ffa1facccbc7", func := "turnstone/turnstonelaw16.EvalPuts", spec := "evalPuts", inPlace := ["internal/bytealg.CountString", "internal/bytealg.IndexByteString", "internal/bytealg.IndexString"], unfollowed := true, recurses := true, named := ["unicode/utf8.first", "unicode/utf8.acceptRanges", "internal/bytealg.MaxLen"], apart := false, laid := [("unicode/utf8.acceptRanges", laid_unicode_utf8_acceptRanges), ("unicode/utf8.first", laid_unicode_utf8_first)] }
def EvalPutsSaid : Prop := evalPutsRow.holds Tryd.pinned (OpenSpec.ofChange evalPutsSpec)

/-- ITS FALSE NEIGHBOUR: 'it returns false'. Refute it at one input. -/
def evalPutsWrong : ChangeSpec := { name := "evalPuts", fn := fun _ => fun
  | [d1, d2, d3] => { results := [.lit (.bool false)], args := [d1, d2, d3] }
  | _ => none }
def EvalPutsWrongFalsely : Prop := evalPutsRow.holds Tryd.pinned (OpenSpec.ofChange evalPutsWrong)

/- THE SECOND FORM. 'bulk': how many values and letters a reading holds, each counted each time it is reached (what is shared counts as often as it is met; a slice's spare places count too). A statement '..UptoSaid' is the law's where the arguments, and the package variables that the reading takes, are together of bulk at most 1048576: NARROWER than '..Said'. Prove '..Said' where nothing that the law and all that it calls make is longer than what came in: it says more and counts as full. Else prove '..UptoSaid'. A law counts once. -/
mutual
def uptoBulk {H : Type} : DataW H → Nat
  | .lit (.string bytes) => bytes.length + 1
  | .lit _ => 1
  | .nil => 1
  | .ptr d => uptoBulk d + 1
  | .slice elems spare => uptoBulkAll elems + uptoBulkAll spare + 1
  | .agg parts => uptoBulkAll parts + 1
  | .iface _ d => uptoBulk d + 1
  | .map entries => uptoBulkEntries entries + 1
  | .held _ => 1
def uptoBulkAll {H : Type} : List (DataW H) → Nat
  | [] => 0
  | d :: r => uptoBulk d + uptoBulkAll r
def uptoBulkEntries {H : Type} : List (Lit × DataW H) → Nat
  | [] => 0
  | x :: r => uptoBulkEntry x + uptoBulkEntries r
def uptoBulkEntry {H : Type} : Lit × DataW H → Nat
  | (.string bytes, d) => bytes.length + uptoBulk d + 1
  | (_, d) => uptoBulk d + 1
 end
def uptoSmall : (H : Type) → List (DataW H) → Bool := fun _ ds => decide (uptoBulkAll ds ≤ 1048576)
def OpenSpec.upto (s : _root_.Go.ChangeSpec) : _root_.Go.OpenSpec := { _root_.Go.OpenSpec.ofChange s with cond := some uptoSmall }

/-- 'turnstonelaw16.EvalKnown', WHERE WHAT IT READS IS OF BULK AT MOST 1048576: true; the input reads as it did. -/
def evalKnownUptoRow : OpenClaim := { program := "ytlogdohlcdhepaadoor", sum := "30602615e0e17ea6a2bbc0c26967926f02e221944e046518b6e2ffa1facccbc7", func := "turnstone/turnstonelaw16.EvalKnown", spec := "evalKnown", inPlace := ["internal/bytealg.CountString", "internal/bytealg.IndexByteString", "internal/bytealg.IndexString"], unfollowed := true, recurses := true, named := ["unicode/utf8.first", "unicode/utf8.acceptRanges", "internal/bytealg.MaxLen"], apart := false, laid := [("unicode/utf8.acceptRanges", laid_unicode_utf8_acceptRanges), ("unicode/utf8.first", laid_unicode_utf8_first)], narrowed := true }
def EvalKnownUptoSaid : Prop := evalKnownUptoRow.holds Tryd.pinned (OpenSpec.upto evalKnownSpec)

/-- 'turnstonelaw16.EvalRuns', WHERE WHAT IT READS IS OF BULK AT MOST 1048576: true; the input reads as it did. -/
def evalRunsUptoRow : OpenClaim := { program := "ytlogdohlcdhepaadoor", sum := "30602615e0e17ea6a2bbc0c26967926f02e221944e046518b6e2ffa1facccbc7", func := "turnstone/turnstonelaw16.EvalRuns", spec := "evalRuns", inPlace := ["internal/bytealg.CountString", "internal/bytealg.IndexByteString", "internal/bytealg.IndexString"], unfollowed := true, recurses := true, named := ["unicode/utf8.first", "unicode/utf8.acceptRanges", "internal/bytealg.MaxLen"], apart := false, laid := [("unicode/utf8.acceptRanges", laid_unicode_utf8_acceptRanges), ("unicode/utf8.first", laid_unicode_utf8_first)], narrowed := true }
def EvalRunsUptoSaid : Prop := evalRunsUptoRow.holds Tryd.pinned (OpenSpec.upto evalRunsSpec)

/-- 'turnstonelaw16.EvalFuel', WHERE WHAT IT READS IS OF BULK AT MOST 1048576: true; the input reads as it did. -/
def evalFuelUptoRow : OpenClaim := { program := "ytlogdohlcdhepaadoor", sum := "30602615e0e17ea6a2bbc0c26967926f02e221944e046518b6e2ffa1facccbc7", func := "turnstone/turnstonelaw16.EvalFuel", spec := "evalFuel", inPlace := ["internal/bytealg.CountString", "internal/bytealg.IndexByteString", "internal/bytealg.IndexString"], unfollowed := true, recurses := true, named := ["unicode/utf8.first", "unicode/utf8.acceptRanges", "internal/bytealg.MaxLen"], apart := false, laid := [("unicode/utf8.acceptRanges", laid_unicode_utf8_acceptRanges), ("unicode/utf8.first", laid_unicode_utf8_first)], narrowed := true }
def EvalFuelUptoSaid : Prop := evalFuelUptoRow.holds Tryd.pinned (OpenSpec.upto evalFuelSpec)

/-- 'turnstonelaw16.EvalWish', WHERE WHAT IT READS IS OF BULK AT MOST 1048576: true; the input reads as it did. -/
def evalWishUptoRow : OpenClaim := { program := "ytlogdohlcdhepaadoor", sum := "30602615e0e17ea6a2bbc0c26967926f02e221944e046518b6e2ffa1facccbc7", func := "turnstone/turnstonelaw16.EvalWish", spec := "evalWish", inPlace := ["internal/bytealg.CountString", "internal/bytealg.IndexByteString", "internal/bytealg.IndexString"], unfollowed := true, recurses := true, named := ["unicode/utf8.first", "unicode/utf8.acceptRanges", "internal/bytealg.MaxLen"], apart := false, laid := [("unicode/utf8.acceptRanges", laid_unicode_utf8_acceptRanges), ("unicode/utf8.first", laid_unicode_utf8_first)], narrowed := true }
def EvalWishUptoSaid : Prop := evalWishUptoRow.holds Tryd.pinned (OpenSpec.upto evalWishSpec)

/-- 'turnstonelaw16.EvalSwaps', WHERE WHAT IT READS IS OF BULK AT MOST 1048576: true; the input reads as it did. -/
def evalSwapsUptoRow : OpenClaim := { program := "ytlogdohlcdhepaadoor", sum := "30602615e0e17ea6a2bbc0c26967926f02e221944e046518b6e2ffa1facccbc7", func := "turnstone/turnstonelaw16.EvalSwaps", spec := "evalSwaps", inPlace := ["internal/bytealg.CountString", "internal/bytealg.IndexByteString", "internal/bytealg.IndexString"], unfollowed := true, recurses := true, named := ["unicode/utf8.first", "unicode/utf8.acceptRanges", "internal/bytealg.MaxLen"], apart := false, laid := [("unicode/utf8.acceptRanges", laid_unicode_utf8_acceptRanges), ("unicode/utf8.first", laid_unicode_utf8_first)], narrowed := true }
def EvalSwapsUptoSaid : Prop := evalSwapsUptoRow.holds Tryd.pinned (OpenSpec.upto evalSwapsSpec)

/-- 'turnstonelaw16.EvalPuts', WHERE WHAT IT READS IS OF BULK AT MOST 1048576: true; the input reads as it did. -/
def evalPutsUptoRow : OpenClaim := { program := "ytlogdohlcdhepaadoor", sum := "30602615e0e17ea6a2bbc0c26967926f02e221944e046518b6e2ffa1facccbc7", func := "turnstone/turnstonelaw16.EvalPuts", spec := "evalPuts", inPlace := ["internal/bytealg.CountString", "internal/bytealg.IndexByteString", "internal/bytealg.IndexString"], unfollowed := true, recurses := true, named := ["unicode/utf8.first", "unicode/utf8.acceptRanges", "internal/bytealg.MaxLen"], apart := false, laid := [("unicode/utf8.acceptRanges", laid_unicode_utf8_acceptRanges), ("unicode/utf8.first", laid_unicode_utf8_first)], narrowed := true }
def EvalPutsUptoSaid : Prop := evalPutsUptoRow.holds Tryd.pinned (OpenSpec.upto evalPutsSpec)

end Rows
end Go.Proofs.YtlogdohlcdhepaaDoor
