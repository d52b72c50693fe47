/-
  No cell of these rows narrows 'for every input' (looked for: loops, veiled, ifaces, maps, wideKeys, modest, calm, conditions, laid).
  DERIVED. THE GIVEN ROWS OF THIS SEAT. 4 by the template 'for every input the law returns true; each argument reads behind the call as it read before'; 0 by the template 'total and deterministic' (their statements: YtkeapfbemlclmaaTotals.lean).
  GIVEN WITH THE SEED: the statements are not yours to turn. If you find one false, say at which input.
  Laid BY PROGRAM, IN A SANDBOX (cutbox-rows.mjs): the forced cells as the released guide's own fill.sh prints them over the translation be6f516286bf6509… (all of the seat's roots in one cut). By AI agents, Wed Nov 11 2026. No macro, syntax, notation, axiom, sorry.
-/
import Derived.Test.YtkeapfbemlclmaaChecked
import GoSem.Claim
import GoSem.ClaimJoined
import GoSem.ClaimMapViews
import Derived.JoinedTies
import Derived.KernelRfl
namespace Go.Proofs.Ytkeapfbemlclmaa
/- THE CELL 'sum', in the pinned program and in every row, IS THE sha256 OF THE DUMP (.gsa) THAT YtkeapfbemlclmaaProg.lean LOADS. Nothing in Lean hashes anything: it is a label: what it is worth is what the hold of that sum in a sandbox is worth. -/
noncomputable def Try.pinned : Pinned := { name := "ytkeapfbemlclmaa", sum := "be6f516286bf65091bbd0c20c179625115173edf6a26a28f0973829148149e3d", checked := Try.checked }
namespace Rows
def none {H : Type} : Left H := { results := [], args := [] }

/-- 'turnstonelaw23.MovesKnown': WHATEVER THE INPUT: true; the input reads as it did. -/
def movesKnownSpec : ChangeSpec := { name := "movesKnown", fn := fun _ => fun
  | [] => { results := [.lit (.bool true)], args := [] }
  | _ => none }
def movesKnownRow : OpenClaim := { program := "ytkeapfbemlclmaa", sum := "be6f516286bf65091bbd0c20c179625115173edf6a26a28f0973829148149e3d", func := "turnstone/turnstonelaw23.MovesKnown", spec := "movesKnown", unfollowed := true, recurses := true, apart := false }
def MovesKnownSaid : Prop := movesKnownRow.holds Try.pinned (OpenSpec.ofChange movesKnownSpec)

/-- ITS FALSE NEIGHBOUR: 'it returns false'. Refute it at one input. -/
def movesKnownWrong : ChangeSpec := { name := "movesKnown", fn := fun _ => fun
  | [] => { results := [.lit (.bool false)], args := [] }
  | _ => none }
def MovesKnownWrongFalsely : Prop := movesKnownRow.holds Try.pinned (OpenSpec.ofChange movesKnownWrong)

/-- 'turnstonelaw23.MovesOrder': WHATEVER THE INPUT: true; the input reads as it did. -/
def movesOrderSpec : ChangeSpec := { name := "movesOrder", fn := fun _ => fun
  | [d1, d2, d3] => { results := [.lit (.bool true)], args := [d1, d2, d3] }
  | _ => none }
def movesOrderRow : OpenClaim := { program := "ytkeapfbemlclmaa", sum := "be6f516286bf65091bbd0c20c179625115173edf6a26a28f0973829148149e3d", func := "turnstone/turnstonelaw23.MovesOrder", spec := "movesOrder", unfollowed := true, recurses := true, apart := false }
def MovesOrderSaid : Prop := movesOrderRow.holds Try.pinned (OpenSpec.ofChange movesOrderSpec)

/-- ITS FALSE NEIGHBOUR: 'it returns false'. Refute it at one input. -/
def movesOrderWrong : ChangeSpec := { name := "movesOrder", fn := fun _ => fun
  | [d1, d2, d3] => { results := [.lit (.bool false)], args := [d1, d2, d3] }
  | _ => none }
def MovesOrderWrongFalsely : Prop := movesOrderRow.holds Try.pinned (OpenSpec.ofChange movesOrderWrong)

/-- 'turnstonelaw23.MovesRight': WHATEVER THE INPUT: true; the input reads as it did. -/
def movesRightSpec : ChangeSpec := { name := "movesRight", fn := fun _ => fun
  | [d1, d2, d3] => { results := [.lit (.bool true)], args := [d1, d2, d3] }
  | _ => none }
def movesRightRow : OpenClaim := { program := "ytkeapfbemlclmaa", sum := "be6f516286bf65091bbd0c20c179625115173edf6a26a28f0973829148149e3d", func := "turnstone/turnstonelaw23.MovesRight", spec := "movesRight", unfollowed := true, recurses := true, apart := false }
def MovesRightSaid : Prop := movesRightRow.holds Try.pinned (OpenSpec.ofChange movesRightSpec)

/-- ITS FALSE NEIGHBOUR: 'it returns false'. Refute it at one input. -/
def movesRightWrong : ChangeSpec := { name := "movesRight", fn := fun _ => fun
  | [d1, d2, d3] => { results := [.lit (.bool false)], args := [d1, d2, d3] }
  | _ => none }
def MovesRightWrongFalsely : Prop := movesRightRow.holds Try.pinned (OpenSpec.ofChange movesRightWrong)

/-- 'turnstonelaw23.MovesRing': WHATEVER THE INPUT: true; the input reads as it did. -/
def movesRingSpec : ChangeSpec := { name := "movesRing", fn := fun _ => fun
  | [d1, d2] => { results := [.lit (.bool true)], args := [d1, d2] }
  | _ => none }
def movesRingRow : OpenClaim := { program := "ytkeapfbemlclmaa", sum := "be6f516286bf65091bbd0c20c179625115173edf6a26a28f0973829148149e3d", func := "turnstone/turnstonelaw23.MovesRing", spec := "movesRing", unfollowed := true, recurses := true, apart := false }
def MovesRingSaid : Prop := movesRingRow.holds Try.pinned (OpenSpec.ofChange movesRingSpec)

/-- ITS FALSE NEIGHBOUR: 'it returns false'. Refute it at one input. -/
def movesRingWrong : ChangeSpec := { name := "movesRing", fn := fun _ => fun
  | [d1, d2] => { results := [.lit (.bool false)], args := [d1, d2] }
  | _ => none }
def MovesRingWrongFalsely : Prop := movesRingRow.holds Try.pinned (OpenSpec.ofChange movesRingWrong)

/- THE SECOND FORM. 'bulk': how many values and letters a reading holds, each counted each time it is reached (what is shared counts as often as it is met; a slice's spare places count too). A statement '..UptoSaid' is the law's where the arguments, and the package variables that the reading takes, are together of bulk at most 1048576: NARROWER than '..Said'. Prove '..Said' where nothing that the law and all that it calls make is longer than what came in: it says more and counts as full. Else prove '..UptoSaid'. A law counts once. -/
mutual
def uptoBulk {H : Type} : DataW H → Nat
  | .lit (.string bytes) => bytes.length + 1
  | .lit _ => 1
  | .nil => 1
  | .ptr d => uptoBulk d + 1
  | .slice elems spare => uptoBulkAll elems + uptoBulkAll spare + 1
  | .agg parts => uptoBulkAll parts + 1
  | .iface _ d => uptoBulk d + 1
  | .map entries => uptoBulkEntries entries + 1
  | .held _ => 1
def uptoBulkAll {H : Type} : List (DataW H) → Nat
  | [] => 0
  | d :: r => uptoBulk d + uptoBulkAll r
def uptoBulkEntries {H : Type} : List (Lit × DataW H) → Nat
  | [] => 0
  | x :: r => uptoBulkEntry x + uptoBulkEntries r
def uptoBulkEntry {H : Type} : Lit × DataW H → Nat
  | (.string bytes, d) => bytes.length + uptoBulk d + 1
  | (_, d) => uptoBulk d + 1
 end
def uptoSmall : (H : Type) → List (DataW H) → Bool := fun _ ds => decide (uptoBulkAll ds ≤ 1048576)
def OpenSpec.upto (s : _root_.Go.ChangeSpec) : _root_.Go.OpenSpec := { _root_.Go.OpenSpec.ofChange s with cond := some uptoSmall }

/-- 'turnstonelaw23.MovesKnown', WHERE WHAT IT READS IS OF BULK AT MOST 1048576: true; the input reads as it did. -/
def movesKnownUptoRow : OpenClaim := { program := "ytkeapfbemlclmaa", sum := "be6f516286bf65091bbd0c20c179625115173edf6a26a28f0973829148149e3d", func := "turnstone/turnstonelaw23.MovesKnown", spec := "movesKnown", unfollowed := true, recurses := true, apart := false, narrowed := true }
def MovesKnownUptoSaid : Prop := movesKnownUptoRow.holds Try.pinned (OpenSpec.upto movesKnownSpec)

/-- 'turnstonelaw23.MovesOrder', WHERE WHAT IT READS IS OF BULK AT MOST 1048576: true; the input reads as it did. -/
def movesOrderUptoRow : OpenClaim := { program := "ytkeapfbemlclmaa", sum := "be6f516286bf65091bbd0c20c179625115173edf6a26a28f0973829148149e3d", func := "turnstone/turnstonelaw23.MovesOrder", spec := "movesOrder", unfollowed := true, recurses := true, apart := false, narrowed := true }
def MovesOrderUptoSaid : Prop := movesOrderUptoRow.holds Try.pinned (OpenSpec.upto movesOrderSpec)

/-- 'turnstonelaw23.MovesRight', WHERE WHAT IT READS IS OF BULK AT MOST 1048576: true; the input reads as it did. -/
def movesRightUptoRow : OpenClaim := { program := "ytkeapfbemlclmaa", sum := "be6f516286bf65091bbd0c20c179625115173edf6a26a28f0973829148149e3d", func := "turnstone/turnstonelaw23.MovesRight", spec := "movesRight", unfollowed := true, recurses := true, apart := false, narrowed := true }
def MovesRightUptoSaid : Prop := movesRightUptoRow.holds Try.pinned (OpenSpec.upto movesRightSpec)

/-- 'turnstonelaw23.MovesRing', WHERE WHAT IT READS IS OF BULK AT MOST 1048576: true; the input reads as it did. -/
def movesRingUptoRow : OpenClaim := { program := "ytkeapfbemlclmaa", sum := "be6f516286bf65091bbd0c20c179625115173edf6a26a28f0973829148149e3d", func := "turnstone/turnstonelaw23.MovesRing", spec := "movesRing", unfollowed := true, recurses := true, apart := false, narrowed := true }
def MovesRingUptoSaid : Prop := movesRingUptoRow.holds Try.pinned (OpenSpec.upto movesRingSpec)

end Rows
end Go.Proofs.Ytkeapfbemlclmaa
