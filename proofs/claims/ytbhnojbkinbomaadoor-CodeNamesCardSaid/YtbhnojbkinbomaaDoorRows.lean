/-
  NARROWER THAN 'FOR EVERY INPUT', by the rows' own cells (each row's printed sentence says how): CodeTells: laid · CodeShows: laid · CodeNames: laid · CodeKnown: laid.
  DERIVED. THE GIVEN ROWS OF THIS SEAT. 4 by the template 'for every input the law returns true; each argument reads behind the call as it read before'; 0 by the template 'total and deterministic' (their statements: YtbhnojbkinbomaaDoorTotals.lean).
  GIVEN WITH THE SEED: the statements are not yours to turn. If you find one false, say at which input.
  Laid BY PROGRAM, IN A SANDBOX (cutbox-rows.mjs): the forced cells as the released guide's own fill.sh prints them over the translation a2bf08487db57b1b… (all of the seat's roots in one cut). By AI agents, Wed Nov 11 2026. No macro, syntax, notation, axiom, sorry.
-/
import Derived.Test.YtbhnojbkinbomaaDoorChecked
import GoSem.PinnedTables
import GoSem.Claim
import GoSem.ClaimJoined
import GoSem.ClaimMapViews
import Derived.JoinedTies
import Derived.KernelRfl
namespace Go.Proofs.YtbhnojbkinbomaaDoor
/- THE CELL 'sum', in the pinned program and in every row, IS THE sha256 OF THE DUMP (.gsa) THAT YtbhnojbkinbomaaDoorProg.lean LOADS. Nothing in Lean hashes anything: it is a label: what it is worth is what the hold of that sum in a sandbox is worth. -/
noncomputable def Tryd.pinned : Pinned := { name := "ytbhnojbkinbomaadoor", sum := "a2bf08487db57b1be0b775d37301d9904367e4e1f7edd0481fa86863554d2c5d", checked := Tryd.checked }
namespace Rows
def none {H : Type} : Left H := { results := [], args := [] }

/- WHAT THE LISTED PACKAGE-LEVEL VARIABLES READ AS WHEN THE CALL BEGINS. Each datum BY PROGRAM (the guide's laid-datum.mjs) off the statement by which the dump's own 'gosem.cut.vars' lays the variable. In a bare row this is a premise. The card (YtbhnojbkinbomaaDoorCards.lean) ties it to the program's text. -/
def laid_unicode_utf8_acceptRanges {H : Type} : DataW H := .agg [.agg [.lit (.int .u8 128), .lit (.int .u8 191)], .agg [.lit (.int .u8 160), .lit (.int .u8 191)], .agg [.lit (.int .u8 128), .lit (.int .u8 159)], .agg [.lit (.int .u8 144), .lit (.int .u8 191)], .agg [.lit (.int .u8 128), .lit (.int .u8 143)], .agg [.lit (.int .u8 0), .lit (.int .u8 0)], .agg [.lit (.int .u8 0), .lit (.int .u8 0)], .agg [.lit (.int .u8 0), .lit (.int .u8 0)], .agg [.lit (.int .u8 0), .lit (.int .u8 0)], .agg [.lit (.int .u8 0), .lit (.int .u8 0)], .agg [.lit (.int .u8 0), .lit (.int .u8 0)], .agg [.lit (.int .u8 0), .lit (.int .u8 0)], .agg [.lit (.int .u8 0), .lit (.int .u8 0)], .agg [.lit (.int .u8 0), .lit (.int .u8 0)], .agg [.lit (.int .u8 0), .lit (.int .u8 0)], .agg [.lit (.int .u8 0), .lit (.int .u8 0)]]
def laid_turnstone_turnstoneref9_names {H : Type} : DataW H := .agg [.lit (.string []), .lit (.string [78, 117, 109]), .lit (.string [66, 105, 116]), .lit (.string [76, 105, 116]), .lit (.string [78, 117, 108, 108]), .lit (.string [76, 111, 97, 100]), .lit (.string [83, 116, 111, 114, 101]), .lit (.string [80, 111, 112]), .lit (.string [65, 100, 100]), .lit (.string [83, 117, 98]), .lit (.string [77, 117, 108]), .lit (.string [68, 105, 118]), .lit (.string [82, 101, 109]), .lit (.string [78, 101, 103]), .lit (.string [78, 111, 116]), .lit (.string [69, 113]), .lit (.string [78, 101]), .lit (.string [76, 116]), .lit (.string [76, 101]), .lit (.string [71, 116]), .lit (.string [71, 101]), .lit (.string [67, 97, 116]), .lit (.string [84, 101, 120, 116, 69, 113]), .lit (.string [84, 101, 120, 116, 78, 101]), .lit (.string [84, 101, 120, 116, 76, 116]), .lit (.string [84, 101, 120, 116, 76, 101]), .lit (.string [74, 117, 109, 112]), .lit (.string [74, 117, 109, 112, 78, 111]), .lit (.string [70, 105, 101, 108, 100]), .lit (.string [83, 101, 116, 70, 105, 101, 108, 100]), .lit (.string [65, 116]), .lit (.string [83, 101, 116, 65, 116]), .lit (.string [84, 101, 120, 116, 65, 116]), .lit (.string [76, 101, 110]), .lit (.string [78, 101, 119]), .lit (.string [77, 97, 107, 101]), .lit (.string [67, 97, 108, 108]), .lit (.string [73, 110, 118, 111, 107, 101]), .lit (.string [67, 97, 115, 116]), .lit (.string [80, 114, 105, 110, 116]), .lit (.string [73, 110, 112, 117, 116]), .lit (.string [82, 101, 116])]
/-- One of Go's own tables, pinned by name: the form's constant. -/
def laid_unicode_utf8_first : DataW Unit := Go.Pinned.utf8First
def laid_math_bits_deBruijn32tab {H : Type} : DataW H := .agg [.lit (.int .u8 0), .lit (.int .u8 1), .lit (.int .u8 28), .lit (.int .u8 2), .lit (.int .u8 29), .lit (.int .u8 14), .lit (.int .u8 24), .lit (.int .u8 3), .lit (.int .u8 30), .lit (.int .u8 22), .lit (.int .u8 20), .lit (.int .u8 15), .lit (.int .u8 25), .lit (.int .u8 17), .lit (.int .u8 4), .lit (.int .u8 8), .lit (.int .u8 31), .lit (.int .u8 27), .lit (.int .u8 13), .lit (.int .u8 23), .lit (.int .u8 21), .lit (.int .u8 19), .lit (.int .u8 16), .lit (.int .u8 7), .lit (.int .u8 26), .lit (.int .u8 12), .lit (.int .u8 18), .lit (.int .u8 6), .lit (.int .u8 11), .lit (.int .u8 5), .lit (.int .u8 10), .lit (.int .u8 9)]
def laid_math_bits_deBruijn64tab {H : Type} : DataW H := .agg [.lit (.int .u8 0), .lit (.int .u8 1), .lit (.int .u8 56), .lit (.int .u8 2), .lit (.int .u8 57), .lit (.int .u8 49), .lit (.int .u8 28), .lit (.int .u8 3), .lit (.int .u8 61), .lit (.int .u8 58), .lit (.int .u8 42), .lit (.int .u8 50), .lit (.int .u8 38), .lit (.int .u8 29), .lit (.int .u8 17), .lit (.int .u8 4), .lit (.int .u8 62), .lit (.int .u8 47), .lit (.int .u8 59), .lit (.int .u8 36), .lit (.int .u8 45), .lit (.int .u8 43), .lit (.int .u8 51), .lit (.int .u8 22), .lit (.int .u8 53), .lit (.int .u8 39), .lit (.int .u8 33), .lit (.int .u8 30), .lit (.int .u8 24), .lit (.int .u8 18), .lit (.int .u8 12), .lit (.int .u8 5), .lit (.int .u8 63), .lit (.int .u8 55), .lit (.int .u8 48), .lit (.int .u8 27), .lit (.int .u8 60), .lit (.int .u8 41), .lit (.int .u8 37), .lit (.int .u8 16), .lit (.int .u8 46), .lit (.int .u8 35), .lit (.int .u8 44), .lit (.int .u8 21), .lit (.int .u8 52), .lit (.int .u8 32), .lit (.int .u8 23), .lit (.int .u8 11), .lit (.int .u8 54), .lit (.int .u8 26), .lit (.int .u8 40), .lit (.int .u8 15), .lit (.int .u8 34), .lit (.int .u8 20), .lit (.int .u8 31), .lit (.int .u8 10), .lit (.int .u8 25), .lit (.int .u8 14), .lit (.int .u8 19), .lit (.int .u8 9), .lit (.int .u8 13), .lit (.int .u8 8), .lit (.int .u8 7), .lit (.int .u8 6)]
def laid_internal_strconv_uint64pow10 {H : Type} : DataW H := .agg [.lit (.int .u64 1), .lit (.int .u64 10), .lit (.int .u64 100), .lit (.int .u64 1000), .lit (.int .u64 10000), .lit (.int .u64 100000), .lit (.int .u64 1000000), .lit (.int .u64 10000000), .lit (.int .u64 100000000), .lit (.int .u64 1000000000), .lit (.int .u64 10000000000), .lit (.int .u64 100000000000), .lit (.int .u64 1000000000000), .lit (.int .u64 10000000000000), .lit (.int .u64 100000000000000), .lit (.int .u64 1000000000000000), .lit (.int .u64 10000000000000000), .lit (.int .u64 100000000000000000), .lit (.int .u64 1000000000000000000), .lit (.int .u64 10000000000000000000)]

/-- 'turnstonelaw7.CodeTells': WHATEVER THE INPUT: true; the input reads as it did. -/
def codeTellsSpec : ChangeSpec := { name := "codeTells", fn := fun _ => fun
  | [d1, d2, d3, d4, d5] => { results := [.lit (.bool true)], args := [d1, d2, d3, d4, d5] }
  | _ => none }
def codeTellsRow : OpenClaim := { program := "ytbhnojbkinbomaadoor", sum := "a2bf08487db57b1be0b775d37301d9904367e4e1f7edd0481fa86863554d2c5d", func := "turnstone/turnstonelaw7.CodeTells", spec := "codeTells", inPlace := ["internal/bytealg.CountString", "internal/bytealg.IndexByteString", "internal/bytealg.IndexString"], named := ["unicode/utf8.first", "unicode/utf8.acceptRanges", "internal/bytealg.MaxLen", "turnstone/turnstoneref9.names"], apart := false, laid := [("unicode/utf8.acceptRanges", laid_unicode_utf8_acceptRanges), ("turnstone/turnstoneref9.names", laid_turnstone_turnstoneref9_names), ("unicode/utf8.first", laid_unicode_utf8_first)] }
def CodeTellsSaid : Prop := codeTellsRow.holds Tryd.pinned (OpenSpec.ofChange codeTellsSpec)

/-- ITS FALSE NEIGHBOUR: 'it returns false'. Refute it at one input. -/
def codeTellsWrong : ChangeSpec := { name := "codeTells", fn := fun _ => fun
  | [d1, d2, d3, d4, d5] => { results := [.lit (.bool false)], args := [d1, d2, d3, d4, d5] }
  | _ => none }
def CodeTellsWrongFalsely : Prop := codeTellsRow.holds Tryd.pinned (OpenSpec.ofChange codeTellsWrong)

/-- 'turnstonelaw7.CodeShows': WHATEVER THE INPUT: true; the input reads as it did. -/
def codeShowsSpec : ChangeSpec := { name := "codeShows", fn := fun _ => fun
  | [d1, d2] => { results := [.lit (.bool true)], args := [d1, d2] }
  | _ => none }
def codeShowsRow : OpenClaim := { program := "ytbhnojbkinbomaadoor", sum := "a2bf08487db57b1be0b775d37301d9904367e4e1f7edd0481fa86863554d2c5d", func := "turnstone/turnstonelaw7.CodeShows", spec := "codeShows", inPlace := ["internal/bytealg.CountString", "internal/bytealg.IndexByteString", "internal/bytealg.IndexString", "internal/abi.NoEscape"], recurses := true, named := ["unicode/utf8.first", "unicode/utf8.acceptRanges", "internal/bytealg.MaxLen", "internal/strconv.uint64pow10", "math/bits.deBruijn32tab", "math/bits.deBruijn64tab", "turnstone/turnstoneref9.names"], apart := false, laid := [("math/bits.deBruijn32tab", laid_math_bits_deBruijn32tab), ("math/bits.deBruijn64tab", laid_math_bits_deBruijn64tab), ("internal/strconv.uint64pow10", laid_internal_strconv_uint64pow10), ("unicode/utf8.acceptRanges", laid_unicode_utf8_acceptRanges), ("turnstone/turnstoneref9.names", laid_turnstone_turnstoneref9_names), ("unicode/utf8.first", laid_unicode_utf8_first)] }
def CodeShowsSaid : Prop := codeShowsRow.holds Tryd.pinned (OpenSpec.ofChange codeShowsSpec)

/-- ITS FALSE NEIGHBOUR: 'it returns false'. Refute it at one input. -/
def codeShowsWrong : ChangeSpec := { name := "codeShows", fn := fun _ => fun
  | [d1, d2] => { results := [.lit (.bool false)], args := [d1, d2] }
  | _ => none }
def CodeShowsWrongFalsely : Prop := codeShowsRow.holds Tryd.pinned (OpenSpec.ofChange codeShowsWrong)

/-- 'turnstonelaw7.CodeNames': WHATEVER THE INPUT: true; the input reads as it did. -/
def codeNamesSpec : ChangeSpec := { name := "codeNames", fn := fun _ => fun
  | [d1, d2] => { results := [.lit (.bool true)], args := [d1, d2] }
  | _ => none }
def codeNamesRow : OpenClaim := { program := "ytbhnojbkinbomaadoor", sum := "a2bf08487db57b1be0b775d37301d9904367e4e1f7edd0481fa86863554d2c5d", func := "turnstone/turnstonelaw7.CodeNames", spec := "codeNames", inPlace := ["internal/bytealg.CountString", "internal/bytealg.IndexByteString", "internal/bytealg.IndexString", "internal/abi.NoEscape"], named := ["unicode/utf8.first", "unicode/utf8.acceptRanges", "internal/bytealg.MaxLen", "internal/strconv.uint64pow10", "math/bits.deBruijn32tab", "math/bits.deBruijn64tab"], apart := false, laid := [("math/bits.deBruijn32tab", laid_math_bits_deBruijn32tab), ("math/bits.deBruijn64tab", laid_math_bits_deBruijn64tab), ("internal/strconv.uint64pow10", laid_internal_strconv_uint64pow10), ("unicode/utf8.acceptRanges", laid_unicode_utf8_acceptRanges), ("unicode/utf8.first", laid_unicode_utf8_first)] }
def CodeNamesSaid : Prop := codeNamesRow.holds Tryd.pinned (OpenSpec.ofChange codeNamesSpec)

/-- ITS FALSE NEIGHBOUR: 'it returns false'. Refute it at one input. -/
def codeNamesWrong : ChangeSpec := { name := "codeNames", fn := fun _ => fun
  | [d1, d2] => { results := [.lit (.bool false)], args := [d1, d2] }
  | _ => none }
def CodeNamesWrongFalsely : Prop := codeNamesRow.holds Tryd.pinned (OpenSpec.ofChange codeNamesWrong)

/-- 'turnstonelaw7.CodeKnown': WHATEVER THE INPUT: true; the input reads as it did. -/
def codeKnownSpec : ChangeSpec := { name := "codeKnown", fn := fun _ => fun
  | [] => { results := [.lit (.bool true)], args := [] }
  | _ => none }
def codeKnownRow : OpenClaim := { program := "ytbhnojbkinbomaadoor", sum := "a2bf08487db57b1be0b775d37301d9904367e4e1f7edd0481fa86863554d2c5d", func := "turnstone/turnstonelaw7.CodeKnown", spec := "codeKnown", inPlace := ["internal/bytealg.CountString", "internal/bytealg.IndexByteString", "internal/bytealg.IndexString", "internal/abi.NoEscape"], named := ["unicode/utf8.first", "unicode/utf8.acceptRanges", "internal/bytealg.MaxLen", "internal/strconv.uint64pow10", "math/bits.deBruijn32tab", "math/bits.deBruijn64tab"], apart := false, laid := [("math/bits.deBruijn32tab", laid_math_bits_deBruijn32tab), ("math/bits.deBruijn64tab", laid_math_bits_deBruijn64tab), ("internal/strconv.uint64pow10", laid_internal_strconv_uint64pow10), ("unicode/utf8.acceptRanges", laid_unicode_utf8_acceptRanges), ("unicode/utf8.first", laid_unicode_utf8_first)] }
def CodeKnownSaid : Prop := codeKnownRow.holds Tryd.pinned (OpenSpec.ofChange codeKnownSpec)

/-- ITS FALSE NEIGHBOUR: 'it returns false'. Refute it at one input. -/
def codeKnownWrong : ChangeSpec := { name := "codeKnown", fn := fun _ => fun
  | [] => { results := [.lit (.bool false)], args := [] }
  | _ => none }
def CodeKnownWrongFalsely : Prop := codeKnownRow.holds Tryd.pinned (OpenSpec.ofChange codeKnownWrong)

/- THE SECOND FORM. 'bulk': how many values and letters a reading holds, each counted each time it is reached (what is shared counts as often as it is met; a slice's spare places count too). A statement '..UptoSaid' is the law's where the arguments, and the package variables that the reading takes, are together of bulk at most 1048576: NARROWER than '..Said'. Prove '..Said' where nothing that the law and all that it calls make is longer than what came in: it says more and counts as full. Else prove '..UptoSaid'. A law counts once. -/
mutual
def uptoBulk {H : Type} : DataW H → Nat
  | .lit (.string bytes) => bytes.length + 1
  | .lit _ => 1
  | .nil => 1
  | .ptr d => uptoBulk d + 1
  | .slice elems spare => uptoBulkAll elems + uptoBulkAll spare + 1
  | .agg parts => uptoBulkAll parts + 1
  | .iface _ d => uptoBulk d + 1
  | .map entries => uptoBulkEntries entries + 1
  | .held _ => 1
def uptoBulkAll {H : Type} : List (DataW H) → Nat
  | [] => 0
  | d :: r => uptoBulk d + uptoBulkAll r
def uptoBulkEntries {H : Type} : List (Lit × DataW H) → Nat
  | [] => 0
  | x :: r => uptoBulkEntry x + uptoBulkEntries r
def uptoBulkEntry {H : Type} : Lit × DataW H → Nat
  | (.string bytes, d) => bytes.length + uptoBulk d + 1
  | (_, d) => uptoBulk d + 1
 end
def uptoSmall : (H : Type) → List (DataW H) → Bool := fun _ ds => decide (uptoBulkAll ds ≤ 1048576)
def OpenSpec.upto (s : _root_.Go.ChangeSpec) : _root_.Go.OpenSpec := { _root_.Go.OpenSpec.ofChange s with cond := some uptoSmall }

/-- 'turnstonelaw7.CodeTells', WHERE WHAT IT READS IS OF BULK AT MOST 1048576: true; the input reads as it did. -/
def codeTellsUptoRow : OpenClaim := { program := "ytbhnojbkinbomaadoor", sum := "a2bf08487db57b1be0b775d37301d9904367e4e1f7edd0481fa86863554d2c5d", func := "turnstone/turnstonelaw7.CodeTells", spec := "codeTells", inPlace := ["internal/bytealg.CountString", "internal/bytealg.IndexByteString", "internal/bytealg.IndexString"], named := ["unicode/utf8.first", "unicode/utf8.acceptRanges", "internal/bytealg.MaxLen", "turnstone/turnstoneref9.names"], apart := false, laid := [("unicode/utf8.acceptRanges", laid_unicode_utf8_acceptRanges), ("turnstone/turnstoneref9.names", laid_turnstone_turnstoneref9_names), ("unicode/utf8.first", laid_unicode_utf8_first)], narrowed := true }
def CodeTellsUptoSaid : Prop := codeTellsUptoRow.holds Tryd.pinned (OpenSpec.upto codeTellsSpec)

/-- 'turnstonelaw7.CodeShows', WHERE WHAT IT READS IS OF BULK AT MOST 1048576: true; the input reads as it did. -/
def codeShowsUptoRow : OpenClaim := { program := "ytbhnojbkinbomaadoor", sum := "a2bf08487db57b1be0b775d37301d9904367e4e1f7edd0481fa86863554d2c5d", func := "turnstone/turnstonelaw7.CodeShows", spec := "codeShows", inPlace := ["internal/bytealg.CountString", "internal/bytealg.IndexByteString", "internal/bytealg.IndexString", "internal/abi.NoEscape"], recurses := true, named := ["unicode/utf8.first", "unicode/utf8.acceptRanges", "internal/bytealg.MaxLen", "internal/strconv.uint64pow10", "math/bits.deBruijn32tab", "math/bits.deBruijn64tab", "turnstone/turnstoneref9.names"], apart := false, laid := [("math/bits.deBruijn32tab", laid_math_bits_deBruijn32tab), ("math/bits.deBruijn64tab", laid_math_bits_deBruijn64tab), ("internal/strconv.uint64pow10", laid_internal_strconv_uint64pow10), ("unicode/utf8.acceptRanges", laid_unicode_utf8_acceptRanges), ("turnstone/turnstoneref9.names", laid_turnstone_turnstoneref9_names), ("unicode/utf8.first", laid_unicode_utf8_first)], narrowed := true }
def CodeShowsUptoSaid : Prop := codeShowsUptoRow.holds Tryd.pinned (OpenSpec.upto codeShowsSpec)

/-- 'turnstonelaw7.CodeNames', WHERE WHAT IT READS IS OF BULK AT MOST 1048576: true; the input reads as it did. -/
def codeNamesUptoRow : OpenClaim := { program := "ytbhnojbkinbomaadoor", sum := "a2bf08487db57b1be0b775d37301d9904367e4e1f7edd0481fa86863554d2c5d", func := "turnstone/turnstonelaw7.CodeNames", spec := "codeNames", inPlace := ["internal/bytealg.CountString", "internal/bytealg.IndexByteString", "internal/bytealg.IndexString", "internal/abi.NoEscape"], named := ["unicode/utf8.first", "unicode/utf8.acceptRanges", "internal/bytealg.MaxLen", "internal/strconv.uint64pow10", "math/bits.deBruijn32tab", "math/bits.deBruijn64tab"], apart := false, laid := [("math/bits.deBruijn32tab", laid_math_bits_deBruijn32tab), ("math/bits.deBruijn64tab", laid_math_bits_deBruijn64tab), ("internal/strconv.uint64pow10", laid_internal_strconv_uint64pow10), ("unicode/utf8.acceptRanges", laid_unicode_utf8_acceptRanges), ("unicode/utf8.first", laid_unicode_utf8_first)], narrowed := true }
def CodeNamesUptoSaid : Prop := codeNamesUptoRow.holds Tryd.pinned (OpenSpec.upto codeNamesSpec)

/-- 'turnstonelaw7.CodeKnown', WHERE WHAT IT READS IS OF BULK AT MOST 1048576: true; the input reads as it did. -/
def codeKnownUptoRow : OpenClaim := { program := "ytbhnojbkinbomaadoor", sum := "a2bf08487db57b1be0b775d37301d9904367e4e1f7edd0481fa86863554d2c5d", func := "turnstone/turnstonelaw7.CodeKnown", spec := "codeKnown", inPlace := ["internal/bytealg.CountString", "internal/bytealg.IndexByteString", "internal/bytealg.IndexString", "internal/abi.NoEscape"], named := ["unicode/utf8.first", "unicode/utf8.acceptRanges", "internal/bytealg.MaxLen", "internal/strconv.uint64pow10", "math/bits.deBruijn32tab", "math/bits.deBruijn64tab"], apart := false, laid := [("math/bits.deBruijn32tab", laid_math_bits_deBruijn32tab), ("math/bits.deBruijn64tab", laid_math_bits_deBruijn64tab), ("internal/strconv.uint64pow10", laid_internal_strconv_uint64pow10), ("unicode/utf8.acceptRanges", laid_unicode_utf8_acceptRanges), ("unicode/utf8.first", laid_unicode_utf8_first)], narrowed := true }
def CodeKnownUptoSaid : Prop := codeKnownUptoRow.holds Tryd.pinned (OpenSpec.upto codeKnownSpec)

end Rows
end Go.Proofs.YtbhnojbkinbomaaDoor
