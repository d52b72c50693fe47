/-
  This text proves, in plain Lean, what the unit of EvalPuts comes to.
  No condition.
-/
import Derived.Test.YtlogdohlcdhepaaDoorEyB
set_option maxRecDepth 100000
set_option linter.unusedSimpArgs false
set_option linter.unusedVariables false
namespace Go.Proofs.YtlogdohlcdhepaaDoor.base
open Go.Sh gen
def uP (n : Int) : UnT.D := ((0 : Int), (0 : Int),
  [((1 : Int), (0 : Int), (0 : Int), (0 : Int), ([] : List Int), (0 : Int), ()), ((1 : Int), (0 : Int), (0 : Int), (1 : Int), ([] : List Int), (0 : Int), ()), ((1 : Int), (0 : Int), (0 : Int), (2 : Int), ([] : List Int), (0 : Int), ()),
   ((20 : Int), (0 : Int), (1 : Int), (0 : Int), ([2] : List Int), (0 : Int), ()), ((18 : Int), (0 : Int), (1 : Int), (0 : Int), ([] : List Int), (0 : Int), ()), ((17 : Int), (0 : Int), (0 : Int), n, ([] : List Int), (0 : Int), ()),
   ((16 : Int), (0 : Int), (0 : Int), (0 : Int), ([] : List Int), (0 : Int), ()), ((15 : Int), (0 : Int), (0 : Int), (0 : Int), ([] : List Int), (0 : Int), ())],
  [(([0, 1, 2, 3, 4, 5, 6, 7] : List Int), (3 : Int), (0 : Int), ([] : List Int), ([] : List Int), (0 : Int), ())],
  [([((0 : Int), (0 : Int), ([4, 5, 6, 7] : List Int), ([] : List Int), ())], ())], ())
theorem uP_size (n : Int) : SizeOk (uP n) := ⟨fun b hb => by simp [uP] at hb; subst hb; simp, fun s hs => by simp [uP] at hs; subst hs; simp, fun v hv => by simp [uP] at hv; rcases hv with rfl | rfl | rfl | rfl | rfl | rfl | rfl | rfl <;> simp⟩
theorem uP_pre (n : Int) : preF (uP n) = some ([0, 0, 0, 0, 0, 0, 0, 0], [0, 1, 2, 3, 4, 5, 6, 7], false, 8) := by kernel_rfl
theorem uP_ord (n : Int) : ordIt (uP n) 1 (ord0 (uP n)) = some [0] := by kernel_rfl
theorem uP_dom (n : Int) : domIt (uP n) (placeF (nb (uP n)) [0]) ([0].drop 1) 1 ((List.replicate (nb (uP n)) (-1)).set 0 0, true) = some [0] := by kernel_rfl
theorem uP_check (n : Int) {O I : List Int} (hT : TermH (uP n) O I) : checkP (uP n) O I = true := by
  rw [checkP_of (uP_pre n) hT (uP_ord n) rfl (uP_dom n)]
  kernel_rfl
theorem uP_ok {n : Int} (hn : 0 ≤ n ∧ n ≤ 100) : UOk (uP n) := by
  obtain ⟨h1, h2, h3, h4, h5, h6⟩ := preF_some (uP_pre n)
  exact uOk_of (uP_size n) h1 h2 h3 h4 h5 h6 (by show 0 < 8; decide) (fun x hx => by
    simp [uP] at hx
    rcases hx with rfl | rfl | rfl | rfl | rfl | rfl | rfl | rfl
    all_goals first
      | decide
      | exact ⟨by show (-9223372036854775808 : Int) ≤ n; omega, by show n ≤ (9223372036854775807 : Int); omega⟩)
theorem pu_run {hwb : Nat} {hw : List Int} {a v : Int} {i : Nat} (hi : i < 20) (ha : 0 ≤ a ∧ a ≤ 100000) :
    runF (uP (i + 1 : Nat)) 99 100 0 ⟨hwb, hw, (parF (uP (i + 1 : Nat)) [a, (i : Int), v] (blkD (uP (i + 1 : Nat)) 0).1 (List.replicate (nv (uP (i + 1 : Nat))) 0, 0)).1, -1, (parF (uP (i + 1 : Nat)) [a, (i : Int), v] (blkD (uP (i + 1 : Nat)) 0).1 (List.replicate (nv (uP (i + 1 : Nat))) 0, 0)).2⟩ =
      .left ⟨hwb, putF hw (a + 1 + i) v, [a, (i : Int), v, 0, (putF hw (a + 1 + i) v).getD (a + 1 + i).toNat 0, (putF hw (a + 1 + i) v).getD (a + 1 + i).toNat 0, (putF hw (a + 1 + i) v).getD a.toNat 0 % 4294967296, (putF hw (a + 1 + i) v).getD a.toNat 0 / 4294967296], -1, 9⟩ 0 (-1) := by
  have e0 : parF (uP (i + 1 : Nat)) [a, (i : Int), v] (blkD (uP (i + 1 : Nat)) 0).1 (List.replicate (nv (uP (i + 1 : Nat))) 0, 0) = ([a, (i : Int), v, 0, 0, 0, 0, 0], 3) := by
    simp [parF, parS, uP, blkD, valD, nv, List.replicate]
  have w1 : IntKind.u64.wrap (a + 1) = a + 1 := wrap_u64 (by omega) (by omega)
  have w2 : IntKind.u64.wrap (a + 1 + (i : Int)) = a + 1 + i := wrap_u64 (by omega) (by omega)
  have w3 : IntKind.u64.wrap ((i + 1 : Nat) : Int) = ((i + 1 : Nat) : Int) := wrap_u64 (by omega) (by omega)
  have w4 : IntKind.u64.wrap (a + ((i + 1 : Nat) : Int)) = a + 1 + i := by rw [wrap_u64 (by omega) (by omega)]; omega
  rw [e0, show (100 : Nat) = 99 + 1 from rfl, runF]
  simp [uP, blkD, valsF, valD, leavesB, leavesW, doesW, doesH, actW, actH, argA, argB, argC, usesF, isTwo, isOne, w1, w2, w3, w4, -Int.natCast_add]
end Go.Proofs.YtlogdohlcdhepaaDoor.base

