/-
  NARROWER THAN 'FOR EVERY INPUT', by the rows' own cells (each row's printed sentence says how): VerifyCodes: laid · VerifyTwice: laid · VerifyTells: laid · VerifyMoves: laid.
  DERIVED. THE GIVEN ROWS OF THIS SEAT. 4 by the template 'for every input the law returns true; each argument reads behind the call as it read before'; 0 by the template 'total and deterministic' (their statements: YtbldiceiindbdaaGreatDoorTotals.lean).
  GIVEN WITH THE SEED: the statements are not yours to turn. If you find one false, say at which input.
  Laid BY PROGRAM, IN A SANDBOX (cutbox-rows.mjs): the forced cells as the released guide's own fill.sh prints them over the translation 89591de916314d6b… (all of the seat's roots in one cut). By AI agents, Wed Nov 11 2026. No macro, syntax, notation, axiom, sorry.
-/
import Derived.Test.YtbldiceiindbdaaGreatDoorChecked
import GoSem.PinnedTables
import GoSem.Claim
import GoSem.ClaimJoined
import GoSem.ClaimMapViews
import Derived.JoinedTies
import Derived.KernelRfl
namespace Go.Proofs.YtbldiceiindbdaaGreatDoor
/- THE CELL 'sum', in the pinned program and in every row, IS THE sha256 OF THE DUMP (.gsa) THAT YtbldiceiindbdaaGreatDoorProg.lean LOADS. Nothing in Lean hashes anything: it is a label: what it is worth is what the hold of that sum in a sandbox is worth. -/
noncomputable def Tryz.pinned : Pinned := { name := "ytbldiceiindbdaagreatdoor", sum := "89591de916314d6b372e30e13b0dc41ae04d7bc2861fdda6b7e8aa3a95c250e6", checked := Tryz.checked }
namespace Rows
def none {H : Type} : Left H := { results := [], args := [] }

/- WHAT THE LISTED PACKAGE-LEVEL VARIABLES READ AS WHEN THE CALL BEGINS. Each datum BY PROGRAM (the guide's laid-datum.mjs) off the statement by which the dump's own 'gosem.cut.vars' lays the variable. In a bare row this is a premise. The card (YtbldiceiindbdaaGreatDoorCards.lean) ties it to the program's text. -/
def laid_unicode_utf8_acceptRanges {H : Type} : DataW H := .agg [.agg [.lit (.int .u8 128), .lit (.int .u8 191)], .agg [.lit (.int .u8 160), .lit (.int .u8 191)], .agg [.lit (.int .u8 128), .lit (.int .u8 159)], .agg [.lit (.int .u8 144), .lit (.int .u8 191)], .agg [.lit (.int .u8 128), .lit (.int .u8 143)], .agg [.lit (.int .u8 0), .lit (.int .u8 0)], .agg [.lit (.int .u8 0), .lit (.int .u8 0)], .agg [.lit (.int .u8 0), .lit (.int .u8 0)], .agg [.lit (.int .u8 0), .lit (.int .u8 0)], .agg [.lit (.int .u8 0), .lit (.int .u8 0)], .agg [.lit (.int .u8 0), .lit (.int .u8 0)], .agg [.lit (.int .u8 0), .lit (.int .u8 0)], .agg [.lit (.int .u8 0), .lit (.int .u8 0)], .agg [.lit (.int .u8 0), .lit (.int .u8 0)], .agg [.lit (.int .u8 0), .lit (.int .u8 0)], .agg [.lit (.int .u8 0), .lit (.int .u8 0)]]
/-- One of Go's own tables, pinned by name: the form's constant. -/
def laid_unicode_utf8_first : DataW Unit := Go.Pinned.utf8First

/-- 'turnstonelaw9.VerifyCodes': WHATEVER THE INPUT: true; the input reads as it did. -/
def verifyCodesSpec : ChangeSpec := { name := "verifyCodes", fn := fun _ => fun
  | [d1, d2, d3] => { results := [.lit (.bool true)], args := [d1, d2, d3] }
  | _ => none }
def verifyCodesRow : OpenClaim := { program := "ytbldiceiindbdaagreatdoor", sum := "89591de916314d6b372e30e13b0dc41ae04d7bc2861fdda6b7e8aa3a95c250e6", func := "turnstone/turnstonelaw9.VerifyCodes", spec := "verifyCodes", inPlace := ["internal/bytealg.CountString", "internal/bytealg.IndexByteString", "internal/bytealg.IndexString"], unfollowed := true, recurses := true, named := ["unicode/utf8.first", "unicode/utf8.acceptRanges", "internal/bytealg.MaxLen"], apart := false, laid := [("unicode/utf8.acceptRanges", laid_unicode_utf8_acceptRanges), ("unicode/utf8.first", laid_unicode_utf8_first)] }
def VerifyCodesSaid : Prop := verifyCodesRow.holds Tryz.pinned (OpenSpec.ofChange verifyCodesSpec)

/-- ITS FALSE NEIGHBOUR: 'it returns false'. Refute it at one input. -/
def verifyCodesWrong : ChangeSpec := { name := "verifyCodes", fn := fun _ => fun
  | [d1, d2, d3] => { results := [.lit (.bool false)], args := [d1, d2, d3] }
  | _ => none }
def VerifyCodesWrongFalsely : Prop := verifyCodesRow.holds Tryz.pinned (OpenSpec.ofChange verifyCodesWrong)

/-- 'turnstonelaw9.VerifyTwice': WHATEVER THE INPUT: true; the input reads as it did. -/
def verifyTwiceSpec : ChangeSpec := { name := "verifyTwice", fn := fun _ => fun
  | [d1, d2, d3] => { results := [.lit (.bool true)], args := [d1, d2, d3] }
  | _ => none }
def verifyTwiceRow : OpenClaim := { program := "ytbldiceiindbdaagreatdoor", sum := "89591de916314d6b372e30e13b0dc41ae04d7bc2861fdda6b7e8aa3a95c250e6", func := "turnstone/turnstonelaw9.VerifyTwice", spec := "verifyTwice", inPlace := ["internal/bytealg.CountString", "internal/bytealg.IndexByteString", "internal/bytealg.IndexString"], unfollowed := true, recurses := true, named := ["unicode/utf8.first", "unicode/utf8.acceptRanges", "internal/bytealg.MaxLen"], apart := false, laid := [("unicode/utf8.acceptRanges", laid_unicode_utf8_acceptRanges), ("unicode/utf8.first", laid_unicode_utf8_first)] }
def VerifyTwiceSaid : Prop := verifyTwiceRow.holds Tryz.pinned (OpenSpec.ofChange verifyTwiceSpec)

/-- ITS FALSE NEIGHBOUR: 'it returns false'. Refute it at one input. -/
def verifyTwiceWrong : ChangeSpec := { name := "verifyTwice", fn := fun _ => fun
  | [d1, d2, d3] => { results := [.lit (.bool false)], args := [d1, d2, d3] }
  | _ => none }
def VerifyTwiceWrongFalsely : Prop := verifyTwiceRow.holds Tryz.pinned (OpenSpec.ofChange verifyTwiceWrong)

/-- 'turnstonelaw9.VerifyTells': WHATEVER THE INPUT: true; the input reads as it did. -/
def verifyTellsSpec : ChangeSpec := { name := "verifyTells", fn := fun _ => fun
  | [d1, d2] => { results := [.lit (.bool true)], args := [d1, d2] }
  | _ => none }
def verifyTellsRow : OpenClaim := { program := "ytbldiceiindbdaagreatdoor", sum := "89591de916314d6b372e30e13b0dc41ae04d7bc2861fdda6b7e8aa3a95c250e6", func := "turnstone/turnstonelaw9.VerifyTells", spec := "verifyTells", inPlace := ["internal/bytealg.CountString", "internal/bytealg.IndexByteString", "internal/bytealg.IndexString"], unfollowed := true, recurses := true, named := ["unicode/utf8.first", "unicode/utf8.acceptRanges", "internal/bytealg.MaxLen"], apart := false, laid := [("unicode/utf8.acceptRanges", laid_unicode_utf8_acceptRanges), ("unicode/utf8.first", laid_unicode_utf8_first)] }
def VerifyTellsSaid : Prop := verifyTellsRow.holds Tryz.pinned (OpenSpec.ofChange verifyTellsSpec)

/-- ITS FALSE NEIGHBOUR: 'it returns false'. Refute it at one input. -/
def verifyTellsWrong : ChangeSpec := { name := "verifyTells", fn := fun _ => fun
  | [d1, d2] => { results := [.lit (.bool false)], args := [d1, d2] }
  | _ => none }
def VerifyTellsWrongFalsely : Prop := verifyTellsRow.holds Tryz.pinned (OpenSpec.ofChange verifyTellsWrong)

/-- 'turnstonelaw9.VerifyMoves': WHATEVER THE INPUT: true; the input reads as it did. -/
def verifyMovesSpec : ChangeSpec := { name := "verifyMoves", fn := fun _ => fun
  | [d] => { results := [.lit (.bool true)], args := [d] }
  | _ => none }
def verifyMovesRow : OpenClaim := { program := "ytbldiceiindbdaagreatdoor", sum := "89591de916314d6b372e30e13b0dc41ae04d7bc2861fdda6b7e8aa3a95c250e6", func := "turnstone/turnstonelaw9.VerifyMoves", spec := "verifyMoves", inPlace := ["internal/bytealg.CountString", "internal/bytealg.IndexByteString", "internal/bytealg.IndexString"], unfollowed := true, recurses := true, named := ["unicode/utf8.first", "unicode/utf8.acceptRanges", "internal/bytealg.MaxLen"], apart := false, laid := [("unicode/utf8.acceptRanges", laid_unicode_utf8_acceptRanges), ("unicode/utf8.first", laid_unicode_utf8_first)] }
def VerifyMovesSaid : Prop := verifyMovesRow.holds Tryz.pinned (OpenSpec.ofChange verifyMovesSpec)

/-- ITS FALSE NEIGHBOUR: 'it returns false'. Refute it at one input. -/
def verifyMovesWrong : ChangeSpec := { name := "verifyMoves", fn := fun _ => fun
  | [d] => { results := [.lit (.bool false)], args := [d] }
  | _ => none }
def VerifyMovesWrongFalsely : Prop := verifyMovesRow.holds Tryz.pinned (OpenSpec.ofChange verifyMovesWrong)

/- THE SECOND FORM. 'bulk': how many values and letters a reading holds, each counted each time it is reached (what is shared counts as often as it is met; a slice's spare places count too). A statement '..UptoSaid' is the law's where the arguments, and the package variables that the reading takes, are together of bulk at most 1048576: NARROWER than '..Said'. Prove '..Said' where nothing that the law and all that it calls make is longer than what came in: it says more and counts as full. Else prove '..UptoSaid'. A law counts once. -/
mutual
def uptoBulk {H : Type} : DataW H → Nat
  | .lit (.string bytes) => bytes.length + 1
  | .lit _ => 1
  | .nil => 1
  | .ptr d => uptoBulk d + 1
  | .slice elems spare => uptoBulkAll elems + uptoBulkAll spare + 1
  | .agg parts => uptoBulkAll parts + 1
  | .iface _ d => uptoBulk d + 1
  | .map entries => uptoBulkEntries entries + 1
  | .held _ => 1
def uptoBulkAll {H : Type} : List (DataW H) → Nat
  | [] => 0
  | d :: r => uptoBulk d + uptoBulkAll r
def uptoBulkEntries {H : Type} : List (Lit × DataW H) → Nat
  | [] => 0
  | x :: r => uptoBulkEntry x + uptoBulkEntries r
def uptoBulkEntry {H : Type} : Lit × DataW H → Nat
  | (.string bytes, d) => bytes.length + uptoBulk d + 1
  | (_, d) => uptoBulk d + 1
 end
def uptoSmall : (H : Type) → List (DataW H) → Bool := fun _ ds => decide (uptoBulkAll ds ≤ 1048576)
def OpenSpec.upto (s : _root_.Go.ChangeSpec) : _root_.Go.OpenSpec := { _root_.Go.OpenSpec.ofChange s with cond := some uptoSmall }

/-- 'turnstonelaw9.VerifyCodes', WHERE WHAT IT READS IS OF BULK AT MOST 1048576: true; the input reads as it did. -/
def verifyCodesUptoRow : OpenClaim := { program := "ytbldiceiindbdaagreatdoor", sum := "89591de916314d6b372e30e13b0dc41ae04d7bc2861fdda6b7e8aa3a95c250e6", func := "turnstone/turnstonelaw9.VerifyCodes", spec := "verifyCodes", inPlace := ["internal/bytealg.CountString", "internal/bytealg.IndexByteString", "internal/bytealg.IndexString"], unfollowed := true, recurses := true, named := ["unicode/utf8.first", "unicode/utf8.acceptRanges", "internal/bytealg.MaxLen"], apart := false, laid := [("unicode/utf8.acceptRanges", laid_unicode_utf8_acceptRanges), ("unicode/utf8.first", laid_unicode_utf8_first)], narrowed := true }
def VerifyCodesUptoSaid : Prop := verifyCodesUptoRow.holds Tryz.pinned (OpenSpec.upto verifyCodesSpec)

/-- 'turnstonelaw9.VerifyTwice', WHERE WHAT IT READS IS OF BULK AT MOST 1048576: true; the input reads as it did. -/
def verifyTwiceUptoRow : OpenClaim := { program := "ytbldiceiindbdaagreatdoor", sum := "89591de916314d6b372e30e13b0dc41ae04d7bc2861fdda6b7e8aa3a95c250e6", func := "turnstone/turnstonelaw9.VerifyTwice", spec := "verifyTwice", inPlace := ["internal/bytealg.CountString", "internal/bytealg.IndexByteString", "internal/bytealg.IndexString"], unfollowed := true, recurses := true, named := ["unicode/utf8.first", "unicode/utf8.acceptRanges", "internal/bytealg.MaxLen"], apart := false, laid := [("unicode/utf8.acceptRanges", laid_unicode_utf8_acceptRanges), ("unicode/utf8.first", laid_unicode_utf8_first)], narrowed := true }
def VerifyTwiceUptoSaid : Prop := verifyTwiceUptoRow.holds Tryz.pinned (OpenSpec.upto verifyTwiceSpec)

/-- 'turnstonelaw9.VerifyTells', WHERE WHAT IT READS IS OF BULK AT MOST 1048576: true; the input reads as it did. -/
def verifyTellsUptoRow : OpenClaim := { program := "ytbldiceiindbdaagreatdoor", sum := "89591de916314d6b372e30e13b0dc41ae04d7bc2861fdda6b7e8aa3a95c250e6", func := "turnstone/turnstonelaw9.VerifyTells", spec := "verifyTells", inPlace := ["internal/bytealg.CountString", "internal/bytealg.IndexByteString", "internal/bytealg.IndexString"], unfollowed := true, recurses := true, named := ["unicode/utf8.first", "unicode/utf8.acceptRanges", "internal/bytealg.MaxLen"], apart := false, laid := [("unicode/utf8.acceptRanges", laid_unicode_utf8_acceptRanges), ("unicode/utf8.first", laid_unicode_utf8_first)], narrowed := true }
def VerifyTellsUptoSaid : Prop := verifyTellsUptoRow.holds Tryz.pinned (OpenSpec.upto verifyTellsSpec)

/-- 'turnstonelaw9.VerifyMoves', WHERE WHAT IT READS IS OF BULK AT MOST 1048576: true; the input reads as it did. -/
def verifyMovesUptoRow : OpenClaim := { program := "ytbldiceiindbdaagreatdoor", sum := "89591de916314d6b372e30e13b0dc41ae04d7bc2861fdda6b7e8aa3a95c250e6", func := "turnstone/turnstonelaw9.VerifyMoves", spec := "verifyMoves", inPlace := ["internal/bytealg.CountString", "internal/bytealg.IndexByteString", "internal/bytealg.IndexString"], unfollowed := true, recurses := true, named := ["unicode/utf8.first", "unicode/utf8.acceptRanges", "internal/bytealg.MaxLen"], apart := false, laid := [("unicode/utf8.acceptRanges", laid_unicode_utf8_acceptRanges), ("unicode/utf8.first", laid_unicode_utf8_first)], narrowed := true }
def VerifyMovesUptoSaid : Prop := verifyMovesUptoRow.holds Tryz.pinned (OpenSpec.upto verifyMovesSpec)

end Rows
end Go.Proofs.YtbldiceiindbdaaGreatDoor
