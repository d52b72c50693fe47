/-
  This text proves that chapter 10's 'known' returns true, over the abstract run.
  Condition: nothing is known of the calls ahead ('S f = []'); the table of powers of ten is laid.
-/
import Derived.Test.YtggbgelfgfmikaaDoorWorB
set_option maxRecDepth 100000
set_option linter.unusedSimpArgs false
set_option linter.unusedVariables false
namespace Go.Proofs.YtggbgelfgfmikaaDoor.base
open Go.Sh gen
variable {S : Sums} {m : Mem}
structure Nw (S : Sums) : Prop where
  h : Nh S
  f : Nf S
  prog : S 9 = []
  base : S 42 = []
  new : S 8 = []
  heap : S 19 = []
  lit : S 17 = []
  full : S 14 = []
  say : S 44 = []
  print : S 12 = []
  trace : S 13 = []
  used : S 43 = []
  known : S 10 = []
theorem made_run (hN : Nw S) {to : Option Addr} {to_f : Nat} {ts : List (List UInt8)} {room : Int} (hX : Rs m to ts.length (strC ts) 9 1 to_f) (hr : 1 ≤ room ∧ room ≤ 65536) (hts : ts.length ≤ 30) (h2k : ∀ l ∈ ts, l.length ≤ 2000) (hfit : ((1 + (ts.map fun l => l.length + 1).sum : Nat) : Int) ≤ room) :
    ∃ p m1 m2 xb hb wb wb' lo lf, callw Tryd.prog TT S 9 [.slice to ts.length ts.length] m = some (p, m1) ∧ callw Tryd.prog TT S 8 [p, .int .i64 room, .slice none 0 0] m1 = some (.tuple #[.pointer (some ⟨xb, 0, none⟩), .bool true], m2) ∧
      WAt m2 xb xb hb hb wb' wb (0 :: flatT ts) room lo none lf 0 (refsT 1 ts) [] ∧ m.next ≤ xb ∧ m.next ≤ hb ∧ m.next ≤ wb ∧ (lo ≠ none → m.next ≤ lf) ∧ Keeps m m2 [] := by
  obtain ⟨p, m1, c1, tb, fb, f, rfl, oT, oF, hf, k1⟩ := prog_run (m := m) hN.prog hN.base (to := to) (tn := ts.length)
  obtain ⟨_, m2, c2, ⟨xb, hb, wb, wb', lo, lf, rfl, hW, g1, g2, g3, g4⟩, k2⟩ := world_run hN.new hN.h oT.rdo oF.rdo (hX.keep k1 (by simp)) hr hts h2k hfit
  have := k1.1
  exact ⟨_, m1, m2, xb, hb, wb, wb', lo, lf, c1, c2, hW, by omega, by omega, by omega, fun h => by have := g4 h; omega, k1.trans k2⟩
theorem known_run (hN : Nw S) {e : TypeId} (hg : Rdo m 0 powC e 0) : ∃ v m1, callw Tryd.prog TT S 10 [] m = some (v, m1) ∧ v = .bool true ∧ Keeps m m1 [] := by
  refine fn_w 4 [20] k10 hN.known rfl ?_
  obtain ⟨o0, k0, n0⟩ := new_own (m := m) (cs := strC [[97], [97, 98]]) (e := 9) rfl
  obtain ⟨p, m1, m2, xb, hb, wb, wb', lo, lf, c1, c2, W2, g1, g2, g3, g4, k2⟩ := made_run (m := m.new (strC [[97], [97, 98]]) 9) hN (ts := [[97], [97, 98]]) (room := 20) (Sl.of (z := 1) (n := 2) o0 (by rfl)).rs (by omega) (by simp) (by simp) (by simp)
  have c1' : callw Tryd.prog TT S 9 [.slice (some ⟨m.next, 0, none⟩) 2 2] (m.new [.string ⟨#[97]⟩, .string ⟨#[97, 98]⟩] 9) = some (p, m1) := c1
  have hh := fun {m'} (h : WAt m' xb xb hb hb wb' wb (0 :: flatT [[97], [97, 98]]) 20 lo none lf 0 (refsT 1 [[97], [97, 98]]) []) => heap_run hN.heap h
  have c3 := hh W2
  obtain ⟨r4, m3, s3, rfl, j3⟩ := say_int (m := m2) hN.say hN.f (hg.keep (k0.trans k2) (by simp)) (p := .pointer (some ⟨xb, 0, none⟩)) 18446744073709551615
  obtain ⟨r5, m4, c4, ⟨no', nf', W4, _⟩, nq, k4, hnq⟩ := print_run hN.print hN.full W2 (by simp) s3 j3
  have e4 : fmt (i64of 18446744073709551615) = [45, 49] := by decide +kernel
  rw [e4] at W4
  simp at W4
  obtain ⟨_, m5, c5, ⟨tb, rfl, tf, oT, htf⟩, k5⟩ := trace_run hN.trace W4 (by simp)
  have W5 := W4.keep0 k5
  have l0 := lit_run (k := 0) hN.lit W5 (by simp [refsT]) (by simp [refsT])
  have l1 := lit_run (k := 1) hN.lit W5 (by simp [refsT]) (by simp [refsT])
  have c6 := heap_run hN.heap W5
  have c7 := used_run hN.used W5.heap
  have ltr := oT.load1 (off := 0) rfl
  simp [refsT, txt, flatT, byts] at l0 l1 c7
  simp [-Int.natCast_add, -BitVec.toNat_or, -BitVec.toNat_ofInt, -BitVec.toNat_and, buildSlice_of u28 bs9 rfl, bin_ptr u23, bin_ptr u44, len_slice u28, index_slice u28 sz9, load_of ld9, c1', c2, c3, c4, c5, c6, c7, l0, l1, ltr]
  have hnq2 : nq = xb := by
    rcases hnq with h | ⟨h, _⟩
    · exact h
    · exact absurd rfl h
  have e0 : m.next ≤ (m.new (strC [[97], [97, 98]]) 9).next := k0.1
  exact ((k0.trans k2).fresh k4 (by rw [hnq2]; simp; omega)).trans k5
theorem mixed : Tryd.prog.follows .mixedOrders = true := by kernel_rfl
def sums : Sums := noSums
theorem sumsOk : SumsOk Tryd.prog sums := noSums_ok _
end Go.Proofs.YtggbgelfgfmikaaDoor.base

