/-
  NARROWER THAN 'FOR EVERY INPUT', by the rows' own cells (each row's printed sentence says how): KindsSame: laid · KindsFits: laid.
  DERIVED. THE GIVEN ROWS OF THIS SEAT. 2 by the template 'for every input the law returns true; each argument reads behind the call as it read before'; 0 by the template 'total and deterministic' (their statements: YtllhpkhbcgfeeaaDoorTotals.lean).
  GIVEN WITH THE SEED: the statements are not yours to turn. If you find one false, say at which input.
  Laid BY PROGRAM, IN A SANDBOX (cutbox-rows.mjs): the forced cells as the released guide's own fill.sh prints them over the translation 61b0fed762621903… (all of the seat's roots in one cut). By AI agents, Wed Nov 11 2026. No macro, syntax, notation, axiom, sorry.
-/
import Derived.Test.YtllhpkhbcgfeeaaDoorChecked
import GoSem.Claim
import GoSem.ClaimJoined
import GoSem.ClaimMapViews
import Derived.JoinedTies
import Derived.KernelRfl
namespace Go.Proofs.YtllhpkhbcgfeeaaDoor
/- THE CELL 'sum', in the pinned program and in every row, IS THE sha256 OF THE DUMP (.gsa) THAT YtllhpkhbcgfeeaaDoorProg.lean LOADS. Nothing in Lean hashes anything: it is a label: what it is worth is what the hold of that sum in a sandbox is worth. -/
noncomputable def Tryd.pinned : Pinned := { name := "ytllhpkhbcgfeeaadoor", sum := "61b0fed762621903d4e10c92518cab8b62f8cef680764f00a0949b64f0067821", checked := Tryd.checked }
namespace Rows
def none {H : Type} : Left H := { results := [], args := [] }

/- WHAT THE LISTED PACKAGE-LEVEL VARIABLES READ AS WHEN THE CALL BEGINS. Each datum BY PROGRAM (the guide's laid-datum.mjs) off the statement by which the dump's own 'gosem.cut.vars' lays the variable. In a bare row this is a premise. The card (YtllhpkhbcgfeeaaDoorCards.lean) ties it to the program's text. -/
def laid_turnstone_turnstonelaw2_names {H : Type} : DataW H := .agg [.lit (.string [80]), .lit (.string [81]), .lit (.string [82]), .lit (.string [83]), .lit (.string [120]), .lit (.string [121]), .lit (.string [109]), .lit (.string [])]

/-- 'turnstonelaw2.KindsSame': WHATEVER THE INPUT: true; the input reads as it did. -/
def kindsSameSpec : ChangeSpec := { name := "kindsSame", fn := fun _ => fun
  | [d1, d2, d3, d4, d5, d6] => { results := [.lit (.bool true)], args := [d1, d2, d3, d4, d5, d6] }
  | _ => none }
def kindsSameRow : OpenClaim := { program := "ytllhpkhbcgfeeaadoor", sum := "61b0fed762621903d4e10c92518cab8b62f8cef680764f00a0949b64f0067821", func := "turnstone/turnstonelaw2.KindsSame", spec := "kindsSame", unfollowed := true, recurses := true, named := ["turnstone/turnstonelaw2.names"], apart := false, laid := [("turnstone/turnstonelaw2.names", laid_turnstone_turnstonelaw2_names)] }
def KindsSameSaid : Prop := kindsSameRow.holds Tryd.pinned (OpenSpec.ofChange kindsSameSpec)

/-- ITS FALSE NEIGHBOUR: 'it returns false'. Refute it at one input. -/
def kindsSameWrong : ChangeSpec := { name := "kindsSame", fn := fun _ => fun
  | [d1, d2, d3, d4, d5, d6] => { results := [.lit (.bool false)], args := [d1, d2, d3, d4, d5, d6] }
  | _ => none }
def KindsSameWrongFalsely : Prop := kindsSameRow.holds Tryd.pinned (OpenSpec.ofChange kindsSameWrong)

/-- 'turnstonelaw2.KindsFits': WHATEVER THE INPUT: true; the input reads as it did. -/
def kindsFitsSpec : ChangeSpec := { name := "kindsFits", fn := fun _ => fun
  | [d1, d2, d3] => { results := [.lit (.bool true)], args := [d1, d2, d3] }
  | _ => none }
def kindsFitsRow : OpenClaim := { program := "ytllhpkhbcgfeeaadoor", sum := "61b0fed762621903d4e10c92518cab8b62f8cef680764f00a0949b64f0067821", func := "turnstone/turnstonelaw2.KindsFits", spec := "kindsFits", unfollowed := true, recurses := true, named := ["turnstone/turnstonelaw2.names"], apart := false, laid := [("turnstone/turnstonelaw2.names", laid_turnstone_turnstonelaw2_names)] }
def KindsFitsSaid : Prop := kindsFitsRow.holds Tryd.pinned (OpenSpec.ofChange kindsFitsSpec)

/-- ITS FALSE NEIGHBOUR: 'it returns false'. Refute it at one input. -/
def kindsFitsWrong : ChangeSpec := { name := "kindsFits", fn := fun _ => fun
  | [d1, d2, d3] => { results := [.lit (.bool false)], args := [d1, d2, d3] }
  | _ => none }
def KindsFitsWrongFalsely : Prop := kindsFitsRow.holds Tryd.pinned (OpenSpec.ofChange kindsFitsWrong)

/- THE SECOND FORM. 'bulk': how many values and letters a reading holds, each counted each time it is reached (what is shared counts as often as it is met; a slice's spare places count too). A statement '..UptoSaid' is the law's where the arguments, and the package variables that the reading takes, are together of bulk at most 1048576: NARROWER than '..Said'. Prove '..Said' where nothing that the law and all that it calls make is longer than what came in: it says more and counts as full. Else prove '..UptoSaid'. A law counts once. -/
mutual
def uptoBulk {H : Type} : DataW H → Nat
  | .lit (.string bytes) => bytes.length + 1
  | .lit _ => 1
  | .nil => 1
  | .ptr d => uptoBulk d + 1
  | .slice elems spare => uptoBulkAll elems + uptoBulkAll spare + 1
  | .agg parts => uptoBulkAll parts + 1
  | .iface _ d => uptoBulk d + 1
  | .map entries => uptoBulkEntries entries + 1
  | .held _ => 1
def uptoBulkAll {H : Type} : List (DataW H) → Nat
  | [] => 0
  | d :: r => uptoBulk d + uptoBulkAll r
def uptoBulkEntries {H : Type} : List (Lit × DataW H) → Nat
  | [] => 0
  | x :: r => uptoBulkEntry x + uptoBulkEntries r
def uptoBulkEntry {H : Type} : Lit × DataW H → Nat
  | (.string bytes, d) => bytes.length + uptoBulk d + 1
  | (_, d) => uptoBulk d + 1
 end
def uptoSmall : (H : Type) → List (DataW H) → Bool := fun _ ds => decide (uptoBulkAll ds ≤ 1048576)
def OpenSpec.upto (s : _root_.Go.ChangeSpec) : _root_.Go.OpenSpec := { _root_.Go.OpenSpec.ofChange s with cond := some uptoSmall }

/-- 'turnstonelaw2.KindsSame', WHERE WHAT IT READS IS OF BULK AT MOST 1048576: true; the input reads as it did. -/
def kindsSameUptoRow : OpenClaim := { program := "ytllhpkhbcgfeeaadoor", sum := "61b0fed762621903d4e10c92518cab8b62f8cef680764f00a0949b64f0067821", func := "turnstone/turnstonelaw2.KindsSame", spec := "kindsSame", unfollowed := true, recurses := true, named := ["turnstone/turnstonelaw2.names"], apart := false, laid := [("turnstone/turnstonelaw2.names", laid_turnstone_turnstonelaw2_names)], narrowed := true }
def KindsSameUptoSaid : Prop := kindsSameUptoRow.holds Tryd.pinned (OpenSpec.upto kindsSameSpec)

/-- 'turnstonelaw2.KindsFits', WHERE WHAT IT READS IS OF BULK AT MOST 1048576: true; the input reads as it did. -/
def kindsFitsUptoRow : OpenClaim := { program := "ytllhpkhbcgfeeaadoor", sum := "61b0fed762621903d4e10c92518cab8b62f8cef680764f00a0949b64f0067821", func := "turnstone/turnstonelaw2.KindsFits", spec := "kindsFits", unfollowed := true, recurses := true, named := ["turnstone/turnstonelaw2.names"], apart := false, laid := [("turnstone/turnstonelaw2.names", laid_turnstone_turnstonelaw2_names)], narrowed := true }
def KindsFitsUptoSaid : Prop := kindsFitsUptoRow.holds Tryd.pinned (OpenSpec.upto kindsFitsSpec)

end Rows
end Go.Proofs.YtllhpkhbcgfeeaaDoor
