/-
  No cell of these rows narrows 'for every input' (looked for: loops, veiled, ifaces, maps, wideKeys, modest, calm, conditions, laid).
  DERIVED. THE GIVEN ROWS OF THIS SEAT. 6 by the template 'for every input the law returns true; each argument reads behind the call as it read before'; 0 by the template 'total and deterministic' (their statements: YtmehepbejckmlaaTotals.lean).
  GIVEN WITH THE SEED: the statements are not yours to turn. If you find one false, say at which input.
  Laid BY PROGRAM, IN A SANDBOX (cutbox-rows.mjs): the forced cells as the released guide's own fill.sh prints them over the translation daa057af4e52c902… (all of the seat's roots in one cut). By AI agents, Wed Nov 11 2026. No macro, syntax, notation, axiom, sorry.
-/
import Derived.Test.YtmehepbejckmlaaChecked
import GoSem.Claim
import GoSem.ClaimJoined
import GoSem.ClaimMapViews
import Derived.JoinedTies
import Derived.KernelRfl
namespace Go.Proofs.Ytmehepbejckmlaa
/- THE CELL 'sum', in the pinned program and in every row, IS THE sha256 OF THE DUMP (.gsa) THAT YtmehepbejckmlaaProg.lean LOADS. Nothing in Lean hashes anything: it is a label: what it is worth is what the hold of that sum in a sandbox is worth. -/
noncomputable def Try.pinned : Pinned := { name := "ytmehepbejckmlaa", sum := "daa057af4e52c9020cc2d757bacd0e0bcc79b8fac3ce5ef1ca45e23382caf94e", checked := Try.checked }
namespace Rows
def none {H : Type} : Left H := { results := [], args := [] }

/-- 'turnstonelaw1.HeapFull': WHATEVER THE INPUT: true; the input reads as it did. -/
def heapFullSpec : ChangeSpec := { name := "heapFull", fn := fun _ => fun
  | [d1, d2] => { results := [.lit (.bool true)], args := [d1, d2] }
  | _ => none }
def heapFullRow : OpenClaim := { program := "ytmehepbejckmlaa", sum := "daa057af4e52c9020cc2d757bacd0e0bcc79b8fac3ce5ef1ca45e23382caf94e", func := "turnstone/turnstonelaw1.HeapFull", spec := "heapFull", apart := false }
def HeapFullSaid : Prop := heapFullRow.holds Try.pinned (OpenSpec.ofChange heapFullSpec)

/-- ITS FALSE NEIGHBOUR: 'it returns false'. Refute it at one input. -/
def heapFullWrong : ChangeSpec := { name := "heapFull", fn := fun _ => fun
  | [d1, d2] => { results := [.lit (.bool false)], args := [d1, d2] }
  | _ => none }
def HeapFullWrongFalsely : Prop := heapFullRow.holds Try.pinned (OpenSpec.ofChange heapFullWrong)

/-- 'turnstonelaw1.HeapCopies': WHATEVER THE INPUT: true; the input reads as it did. -/
def heapCopiesSpec : ChangeSpec := { name := "heapCopies", fn := fun _ => fun
  | [d1, d2, d3] => { results := [.lit (.bool true)], args := [d1, d2, d3] }
  | _ => none }
def heapCopiesRow : OpenClaim := { program := "ytmehepbejckmlaa", sum := "daa057af4e52c9020cc2d757bacd0e0bcc79b8fac3ce5ef1ca45e23382caf94e", func := "turnstone/turnstonelaw1.HeapCopies", spec := "heapCopies", apart := false }
def HeapCopiesSaid : Prop := heapCopiesRow.holds Try.pinned (OpenSpec.ofChange heapCopiesSpec)

/-- ITS FALSE NEIGHBOUR: 'it returns false'. Refute it at one input. -/
def heapCopiesWrong : ChangeSpec := { name := "heapCopies", fn := fun _ => fun
  | [d1, d2, d3] => { results := [.lit (.bool false)], args := [d1, d2, d3] }
  | _ => none }
def HeapCopiesWrongFalsely : Prop := heapCopiesRow.holds Try.pinned (OpenSpec.ofChange heapCopiesWrong)

/-- 'turnstonelaw1.HeapKeeps': WHATEVER THE INPUT: true; the input reads as it did. -/
def heapKeepsSpec : ChangeSpec := { name := "heapKeeps", fn := fun _ => fun
  | [d1, d2, d3] => { results := [.lit (.bool true)], args := [d1, d2, d3] }
  | _ => none }
def heapKeepsRow : OpenClaim := { program := "ytmehepbejckmlaa", sum := "daa057af4e52c9020cc2d757bacd0e0bcc79b8fac3ce5ef1ca45e23382caf94e", func := "turnstone/turnstonelaw1.HeapKeeps", spec := "heapKeeps", apart := false }
def HeapKeepsSaid : Prop := heapKeepsRow.holds Try.pinned (OpenSpec.ofChange heapKeepsSpec)

/-- ITS FALSE NEIGHBOUR: 'it returns false'. Refute it at one input. -/
def heapKeepsWrong : ChangeSpec := { name := "heapKeeps", fn := fun _ => fun
  | [d1, d2, d3] => { results := [.lit (.bool false)], args := [d1, d2, d3] }
  | _ => none }
def HeapKeepsWrongFalsely : Prop := heapKeepsRow.holds Try.pinned (OpenSpec.ofChange heapKeepsWrong)

/-- 'turnstonelaw1.HeapTexts': WHATEVER THE INPUT: true; the input reads as it did. -/
def heapTextsSpec : ChangeSpec := { name := "heapTexts", fn := fun _ => fun
  | [d] => { results := [.lit (.bool true)], args := [d] }
  | _ => none }
def heapTextsRow : OpenClaim := { program := "ytmehepbejckmlaa", sum := "daa057af4e52c9020cc2d757bacd0e0bcc79b8fac3ce5ef1ca45e23382caf94e", func := "turnstone/turnstonelaw1.HeapTexts", spec := "heapTexts", unfollowed := true, recurses := true, apart := false }
def HeapTextsSaid : Prop := heapTextsRow.holds Try.pinned (OpenSpec.ofChange heapTextsSpec)

/-- ITS FALSE NEIGHBOUR: 'it returns false'. Refute it at one input. -/
def heapTextsWrong : ChangeSpec := { name := "heapTexts", fn := fun _ => fun
  | [d] => { results := [.lit (.bool false)], args := [d] }
  | _ => none }
def HeapTextsWrongFalsely : Prop := heapTextsRow.holds Try.pinned (OpenSpec.ofChange heapTextsWrong)

/-- 'turnstonelaw1.HeapKnown': WHATEVER THE INPUT: true; the input reads as it did. -/
def heapKnownSpec : ChangeSpec := { name := "heapKnown", fn := fun _ => fun
  | [] => { results := [.lit (.bool true)], args := [] }
  | _ => none }
def heapKnownRow : OpenClaim := { program := "ytmehepbejckmlaa", sum := "daa057af4e52c9020cc2d757bacd0e0bcc79b8fac3ce5ef1ca45e23382caf94e", func := "turnstone/turnstonelaw1.HeapKnown", spec := "heapKnown", unfollowed := true, recurses := true, apart := false }
def HeapKnownSaid : Prop := heapKnownRow.holds Try.pinned (OpenSpec.ofChange heapKnownSpec)

/-- ITS FALSE NEIGHBOUR: 'it returns false'. Refute it at one input. -/
def heapKnownWrong : ChangeSpec := { name := "heapKnown", fn := fun _ => fun
  | [] => { results := [.lit (.bool false)], args := [] }
  | _ => none }
def HeapKnownWrongFalsely : Prop := heapKnownRow.holds Try.pinned (OpenSpec.ofChange heapKnownWrong)

/-- 'turnstonelaw1.HeapPlays': WHATEVER THE INPUT: true; the input reads as it did. -/
def heapPlaysSpec : ChangeSpec := { name := "heapPlays", fn := fun _ => fun
  | [d1, d2] => { results := [.lit (.bool true)], args := [d1, d2] }
  | _ => none }
def heapPlaysRow : OpenClaim := { program := "ytmehepbejckmlaa", sum := "daa057af4e52c9020cc2d757bacd0e0bcc79b8fac3ce5ef1ca45e23382caf94e", func := "turnstone/turnstonelaw1.HeapPlays", spec := "heapPlays", unfollowed := true, recurses := true, apart := false }
def HeapPlaysSaid : Prop := heapPlaysRow.holds Try.pinned (OpenSpec.ofChange heapPlaysSpec)

/-- ITS FALSE NEIGHBOUR: 'it returns false'. Refute it at one input. -/
def heapPlaysWrong : ChangeSpec := { name := "heapPlays", fn := fun _ => fun
  | [d1, d2] => { results := [.lit (.bool false)], args := [d1, d2] }
  | _ => none }
def HeapPlaysWrongFalsely : Prop := heapPlaysRow.holds Try.pinned (OpenSpec.ofChange heapPlaysWrong)

/- THE SECOND FORM. 'bulk': how many values and letters a reading holds, each counted each time it is reached (what is shared counts as often as it is met; a slice's spare places count too). A statement '..UptoSaid' is the law's where the arguments, and the package variables that the reading takes, are together of bulk at most 1048576: NARROWER than '..Said'. Prove '..Said' where nothing that the law and all that it calls make is longer than what came in: it says more and counts as full. Else prove '..UptoSaid'. A law counts once. -/
mutual
def uptoBulk {H : Type} : DataW H → Nat
  | .lit (.string bytes) => bytes.length + 1
  | .lit _ => 1
  | .nil => 1
  | .ptr d => uptoBulk d + 1
  | .slice elems spare => uptoBulkAll elems + uptoBulkAll spare + 1
  | .agg parts => uptoBulkAll parts + 1
  | .iface _ d => uptoBulk d + 1
  | .map entries => uptoBulkEntries entries + 1
  | .held _ => 1
def uptoBulkAll {H : Type} : List (DataW H) → Nat
  | [] => 0
  | d :: r => uptoBulk d + uptoBulkAll r
def uptoBulkEntries {H : Type} : List (Lit × DataW H) → Nat
  | [] => 0
  | x :: r => uptoBulkEntry x + uptoBulkEntries r
def uptoBulkEntry {H : Type} : Lit × DataW H → Nat
  | (.string bytes, d) => bytes.length + uptoBulk d + 1
  | (_, d) => uptoBulk d + 1
 end
def uptoSmall : (H : Type) → List (DataW H) → Bool := fun _ ds => decide (uptoBulkAll ds ≤ 1048576)
def OpenSpec.upto (s : _root_.Go.ChangeSpec) : _root_.Go.OpenSpec := { _root_.Go.OpenSpec.ofChange s with cond := some uptoSmall }

/-- 'turnstonelaw1.HeapFull', WHERE WHAT IT READS IS OF BULK AT MOST 1048576: true; the input reads as it did. -/
def heapFullUptoRow : OpenClaim := { program := "ytmehepbejckmlaa", sum := "daa057af4e52c9020cc2d757bacd0e0bcc79b8fac3ce5ef1ca45e23382caf94e", func := "turnstone/turnstonelaw1.HeapFull", spec := "heapFull", apart := false, narrowed := true }
def HeapFullUptoSaid : Prop := heapFullUptoRow.holds Try.pinned (OpenSpec.upto heapFullSpec)

/-- 'turnstonelaw1.HeapCopies', WHERE WHAT IT READS IS OF BULK AT MOST 1048576: true; the input reads as it did. -/
def heapCopiesUptoRow : OpenClaim := { program := "ytmehepbejckmlaa", sum := "daa057af4e52c9020cc2d757bacd0e0bcc79b8fac3ce5ef1ca45e23382caf94e", func := "turnstone/turnstonelaw1.HeapCopies", spec := "heapCopies", apart := false, narrowed := true }
def HeapCopiesUptoSaid : Prop := heapCopiesUptoRow.holds Try.pinned (OpenSpec.upto heapCopiesSpec)

/-- 'turnstonelaw1.HeapKeeps', WHERE WHAT IT READS IS OF BULK AT MOST 1048576: true; the input reads as it did. -/
def heapKeepsUptoRow : OpenClaim := { program := "ytmehepbejckmlaa", sum := "daa057af4e52c9020cc2d757bacd0e0bcc79b8fac3ce5ef1ca45e23382caf94e", func := "turnstone/turnstonelaw1.HeapKeeps", spec := "heapKeeps", apart := false, narrowed := true }
def HeapKeepsUptoSaid : Prop := heapKeepsUptoRow.holds Try.pinned (OpenSpec.upto heapKeepsSpec)

/-- 'turnstonelaw1.HeapTexts', WHERE WHAT IT READS IS OF BULK AT MOST 1048576: true; the input reads as it did. -/
def heapTextsUptoRow : OpenClaim := { program := "ytmehepbejckmlaa", sum := "daa057af4e52c9020cc2d757bacd0e0bcc79b8fac3ce5ef1ca45e23382caf94e", func := "turnstone/turnstonelaw1.HeapTexts", spec := "heapTexts", unfollowed := true, recurses := true, apart := false, narrowed := true }
def HeapTextsUptoSaid : Prop := heapTextsUptoRow.holds Try.pinned (OpenSpec.upto heapTextsSpec)

/-- 'turnstonelaw1.HeapKnown', WHERE WHAT IT READS IS OF BULK AT MOST 1048576: true; the input reads as it did. -/
def heapKnownUptoRow : OpenClaim := { program := "ytmehepbejckmlaa", sum := "daa057af4e52c9020cc2d757bacd0e0bcc79b8fac3ce5ef1ca45e23382caf94e", func := "turnstone/turnstonelaw1.HeapKnown", spec := "heapKnown", unfollowed := true, recurses := true, apart := false, narrowed := true }
def HeapKnownUptoSaid : Prop := heapKnownUptoRow.holds Try.pinned (OpenSpec.upto heapKnownSpec)

/-- 'turnstonelaw1.HeapPlays', WHERE WHAT IT READS IS OF BULK AT MOST 1048576: true; the input reads as it did. -/
def heapPlaysUptoRow : OpenClaim := { program := "ytmehepbejckmlaa", sum := "daa057af4e52c9020cc2d757bacd0e0bcc79b8fac3ce5ef1ca45e23382caf94e", func := "turnstone/turnstonelaw1.HeapPlays", spec := "heapPlays", unfollowed := true, recurses := true, apart := false, narrowed := true }
def HeapPlaysUptoSaid : Prop := heapPlaysUptoRow.holds Try.pinned (OpenSpec.upto heapPlaysSpec)

end Rows
end Go.Proofs.Ytmehepbejckmlaa
