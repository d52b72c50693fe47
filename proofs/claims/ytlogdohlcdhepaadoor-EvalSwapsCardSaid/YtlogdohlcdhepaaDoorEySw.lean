/-
  This text proves, in plain Lean, what the unit of EvalSwaps comes to.
  No condition.
-/
import Derived.Test.YtlogdohlcdhepaaDoorEyB
set_option maxRecDepth 100000
set_option linter.unusedSimpArgs false
set_option linter.unusedVariables false
namespace Go.Proofs.YtlogdohlcdhepaaDoor.base
open Go.Sh gen
def uS : UnT.D := ((0 : Int), (0 : Int),
  [((1 : Int), (0 : Int), (0 : Int), (0 : Int), ([] : List Int), (0 : Int), ()), ((1 : Int), (0 : Int), (0 : Int), (1 : Int), ([] : List Int), (0 : Int), ()), ((1 : Int), (0 : Int), (0 : Int), (2 : Int), ([] : List Int), (0 : Int), ()),
   ((2 : Int), (0 : Int), (0 : Int), (1 : Int), ([] : List Int), (0 : Int), ()), ((21 : Int), (0 : Int), (0 : Int), (0 : Int), ([0, 5] : List Int), (0 : Int), ()), ((21 : Int), (0 : Int), (0 : Int), (0 : Int), ([1, 4] : List Int), (0 : Int), ()),
   ((21 : Int), (0 : Int), (0 : Int), (0 : Int), ([2, 7] : List Int), (0 : Int), ()), ((4 : Int), (6 : Int), (3 : Int), (0 : Int), ([] : List Int), (0 : Int), ())],
  [(([0, 1, 2, 3] : List Int), (1 : Int), (0 : Int), ([1] : List Int), ([] : List Int), (0 : Int), ()), (([4, 5, 6] : List Int), (2 : Int), (6 : Int), ([2, 3] : List Int), ([0, 2] : List Int), (0 : Int), ()),
   (([7] : List Int), (1 : Int), (0 : Int), ([1] : List Int), ([1] : List Int), (0 : Int), ()), (([] : List Int), (3 : Int), (0 : Int), ([] : List Int), ([1] : List Int), (0 : Int), ())],
  [([((0 : Int), (0 : Int), ([4, 5] : List Int), ([] : List Int), ())], ())], ())
theorem uS_size : SizeOk uS := ⟨fun b hb => by simp [uS] at hb; rcases hb with rfl | rfl | rfl | rfl <;> decide, fun s hs => by simp [uS] at hs; subst hs; simp, fun v hv => by simp [uS] at hv; rcases hv with rfl | rfl | rfl | rfl | rfl | rfl | rfl | rfl <;> decide⟩
theorem uS_pre : preF uS = some ([0, 0, 0, 0, 1, 1, 1, 2], [0, 1, 2, 3, 0, 1, 2, 0], true, 8) := by kernel_rfl
theorem uS_ord : ordIt uS 8 (ord0 uS) = some [2, 3, 1, 0] := by kernel_rfl
theorem uS_dom : domIt uS (placeF (nb uS) [0, 1, 3, 2]) ([0, 1, 3, 2].drop 1) 2 ((List.replicate (nb uS) (-1)).set 0 0, true) = some [0, 0, 1, 1] := by kernel_rfl
theorem uS_check {O I : List Int} (hT : TermH uS O I) : checkP uS O I = true := by
  rw [checkP_of uS_pre hT uS_ord rfl uS_dom]
  kernel_rfl
theorem uS_ok : UOk uS := by
  obtain ⟨h1, h2, h3, h4, h5, h6⟩ := preF_some uS_pre
  exact uOk_of uS_size h1 h2 h3 h4 h5 h6 (by decide) (fun x hx => by simp [uS] at hx; rcases hx with rfl | rfl | rfl | rfl | rfl | rfl | rfl | rfl <;> decide)
def wS (a b n x y k z : Int) : List Int := [a, b, n, 1, x, y, k, z]
theorem sw_wrap {k : Nat} (h : k ≤ 60) : IntKind.u64.wrap (((k + 1 : Nat) : Int) - 1) = (k : Int) := by rw [wrap_u64 (by omega) (by omega)]; omega
theorem sw_step {hwb : Nat} {hw : List Int} {a b n x y z st : Int} {k K : Nat} (hk : k ≤ 60) (hst : 0 ≤ st ∧ st + 10 ≤ 9999) :
    runF uS 9999 (K + 2) 1 ⟨hwb, hw, wS a b n x y ((k + 1 : Nat) : Int) z, -1, st⟩ = runF uS 9999 K 1 ⟨hwb, hw, wS a b n y x k k, -1, st + 6⟩ := by
  have hk0 : ¬ ((k + 1 : Nat) : Int) = 0 := by omega
  have h1 : ¬ (9999 : Int) ≤ st := by omega
  have h2 : ¬ (9999 : Int) ≤ st + 1 := by omega
  have h3 : ¬ (9999 : Int) ≤ st + 1 + 1 := by omega
  have e1 : runF uS 9999 (K + 2) 1 ⟨hwb, hw, wS a b n x y ((k + 1 : Nat) : Int) z, -1, st⟩ = runF uS 9999 (K + 1) 2 ⟨hwb, hw, wS a b n x y ((k + 1 : Nat) : Int) z, -1, st + 1⟩ := by
    rw [runF]
    simp [uS, blkD, valsF, valD, wS, whichF, h1, phiL, idxF, setN, -Int.natCast_add]
  have e2 : runF uS 9999 (K + 1) 2 ⟨hwb, hw, wS a b n x y ((k + 1 : Nat) : Int) z, -1, st + 1⟩ = runF uS 9999 K 1 ⟨hwb, hw, wS a b n y x k k, -1, st + 1 + 1 + 1 + 3⟩ := by
    rw [runF]
    simp [uS, blkD, valsF, valD, wS, whichF, h2, h3, leavesB, leavesW, doesW, doesH, actW, actH, argA, argB, usesF, isTwo, twoF, sw_wrap hk, phiL, idxF, setN, -Int.natCast_add]
  rw [e1, e2, show st + 1 + 1 + 1 + 3 = st + 6 by omega]
theorem sw_end {hwb : Nat} {hw : List Int} {a b n x y z st : Int} {K : Nat} (hst : 0 ≤ st ∧ st + 10 ≤ 9999) :
    runF uS 9999 (K + 2) 1 ⟨hwb, hw, wS a b n x y 0 z, -1, st⟩ = .left ⟨hwb, hw, wS a b n x y 0 z, -1, st + 2⟩ 0 (-1) := by
  have h1 : ¬ (9999 : Int) ≤ st := by omega
  have h2 : ¬ (9999 : Int) ≤ st + 1 := by omega
  have e1 : runF uS 9999 (K + 2) 1 ⟨hwb, hw, wS a b n x y 0 z, -1, st⟩ = runF uS 9999 (K + 1) 3 ⟨hwb, hw, wS a b n x y 0 z, -1, st + 1⟩ := by
    rw [runF]
    simp [uS, blkD, valsF, valD, wS, whichF, h1, phiL, idxF, setN]
  rw [e1, runF]
  simp [uS, blkD, valsF, wS, h2]
  omega
theorem sw_loop {hwb : Nat} {hw : List Int} {a b n : Int} : ∀ (k K : Nat) (x y z st : Int), k ≤ 60 → 0 ≤ st → st + 6 * k + 10 ≤ 9999 →
    ∃ z', runF uS 9999 (K + 2 * k + 2) 1 ⟨hwb, hw, wS a b n x y k z, -1, st⟩ = .left ⟨hwb, hw, wS a b n (if k % 2 = 1 then y else x) (if k % 2 = 1 then x else y) 0 z', -1, st + 6 * k + 2⟩ 0 (-1) := by
  intro k
  induction k with
  | zero =>
    intro K x y z st _ h0 h1
    refine ⟨z, ?_⟩
    have := sw_end (hwb := hwb) (hw := hw) (a := a) (b := b) (n := n) (x := x) (y := y) (z := z) (K := K) (st := st) (by omega)
    simpa using this
  | succ k ih =>
    intro K x y z st hk h0 h1
    obtain ⟨z', hz⟩ := ih K y x k (st + 6) (by omega) (by omega) (by omega)
    refine ⟨z', ?_⟩
    rw [show K + 2 * (k + 1) + 2 = K + 2 * k + 2 + 2 by omega, sw_step (by omega) (by omega), hz]
    have e6 : st + 6 + 6 * (k : Int) + 2 = st + 6 * ((k + 1 : Nat) : Int) + 2 := by omega
    rw [e6]
    by_cases hp : k % 2 = 1
    · rw [if_pos hp, if_pos hp, if_neg (by omega), if_neg (by omega)]
    · rw [if_neg hp, if_neg hp, if_pos (by omega), if_pos (by omega)]
theorem sw_run {hwb : Nat} {a b : Int} {n : Nat} (hn : n < 60) :
    ∃ z, runF uS 9999 10000 0 ⟨hwb, [0], (parF uS [a, b, (n : Int)] (blkD uS 0).1 (List.replicate (nv uS) 0, 0)).1, -1, (parF uS [a, b, (n : Int)] (blkD uS 0).1 (List.replicate (nv uS) 0, 0)).2⟩ =
      .left ⟨hwb, [0], wS a b n (if n % 2 = 1 then b else a) (if n % 2 = 1 then a else b) 0 z, -1, 10 + 6 * n⟩ 0 (-1) := by
  obtain ⟨z, hz⟩ := sw_loop (hwb := hwb) (hw := [0]) (a := a) (b := b) (n := n) n (9997 - 2 * n) a b 0 8 (by omega) (by omega) (by omega)
  refine ⟨z, ?_⟩
  have e0 : parF uS [a, b, (n : Int)] (blkD uS 0).1 (List.replicate (nv uS) 0, 0) = ([a, b, (n : Int), 0, 0, 0, 0, 0], 3) := by
    simp [parF, parS, uS, blkD, valD, nv, List.replicate]
  rw [e0]
  have e1 : runF uS 9999 10000 0 ⟨hwb, [0], [a, b, (n : Int), 0, 0, 0, 0, 0], -1, 3⟩ = runF uS 9999 9999 1 ⟨hwb, [0], wS a b n a b n 0, -1, 8⟩ := by
    rw [show (10000 : Nat) = 9999 + 1 from rfl, runF]
    simp [uS, blkD, valsF, valD, wS, whichF, leavesB, leavesW, doesW, doesH, actW, actH, phiL, idxF, setN]
    rfl
  rw [e1, show (9999 : Nat) = 9997 - 2 * n + 2 * n + 2 by omega, hz]
  rw [show 8 + 6 * (n : Int) + 2 = 10 + 6 * n by omega]
end Go.Proofs.YtlogdohlcdhepaaDoor.base

