/-
  This text proves what container/heap's down and Pop do over the abstract run with chapter 23's numbers: one of them is taken, the others stay.
  Condition: nothing is known of the calls ahead ('S f = []').
-/
import Derived.Test.YtkeapfbemlclmaaMovA
set_option maxRecDepth 100000
set_option linter.unusedSimpArgs false
set_option linter.unusedVariables false
namespace Go.Proofs.Ytkeapfbemlclmaa.base
open Go.Sh gen
variable {S : Sums} {m : Mem}
theorem swp_app {p r : List Int} {i j : Nat} (hi : i < p.length) (hj : j < p.length) : swp (p ++ r) i j = swp p i j ++ r := by
  simp only [swp, List.getD_eq_getElem?_getD]
  rw [List.getElem?_append_left hi, List.getElem?_append_left hj, List.set_append_left _ _ hi, List.set_append_left _ _ (by simpa using hj)]
set_option maxHeartbeats 2000000 in
theorem down_run (hN : Nh S) {ob f0 fa : Nat} {x0 x1 x3 : Value} {a : Option Addr} {p r : List Int} (h : OAt m ob f0 x0 x1 x3 a (p ++ r) fa) (ha : a ≠ none) (hl : (p ++ r).length ≤ 1000) :
    ∃ v m1, callw Try.prog TT S 23 [hif ob, .int .i64 0, .int .i64 p.length] m = some (v, m1) ∧ (∃ p', p'.Perm p ∧ OAt m1 ob f0 x0 x1 x3 a (p' ++ r) fa) ∧ Keeps m m1 [fa] := by
  refine fn_w 11 [21, 33, 39] k23 hN.down rfl ?_
  simp [-Int.natCast_add, -List.length_append, -BitVec.toNat_or, -BitVec.toNat_ofInt, -BitVec.toNat_and, id]
  refine wsem_loop 11 [21, 33, 39] (fun d E m2 => ∃ (i : Nat) (p' : List Int), p.length - i = d ∧ i ≤ p.length ∧ p'.Perm p ∧ OAt m2 ob f0 x0 x1 x3 a (p' ++ r) fa ∧ Keeps m m2 [fa] ∧ E = [(0, hif ob), (1, .int .i64 0), (2, .int .i64 p.length), (7, .int .i64 i)]) _ ⟨_, ⟨0, p, rfl, by omega, List.Perm.refl _, h, Keeps.refl _ _, rfl⟩, ⟨by rfl, by rfl, by rfl, by rfl, trivial⟩⟩ ?_
  rintro d E m2 ih ⟨i, p', hd, hi, hp, h2, k2, rfl⟩
  have hll := hp.length_eq
  have hap : (p' ++ r).length = p'.length + r.length := List.length_append
  have hap2 : (p ++ r).length = p.length + r.length := List.length_append
  have ld := h2.own.load1 (off := 2) rfl
  obtain ⟨j1, hj1⟩ : ∃ j1, j1 = 2 * i + 1 := ⟨_, rfl⟩
  obtain ⟨j2, hj2⟩ : ∃ j2, j2 = j1 + 1 := ⟨_, rfl⟩
  have w1 : IntKind.i64.wrap (2 * (i : Int)) = 2 * (i : Int) := wrap_i64 (by omega) (by omega)
  have w2 : IntKind.i64.wrap (2 * (i : Int) + 1) = (j1 : Int) := by rw [wrap_i64 (by omega) (by omega)]; omega
  have w3 : IntKind.i64.wrap ((j1 : Int) + 1) = (j2 : Int) := by rw [wrap_i64 (by omega) (by omega)]; omega
  have n0 : ¬ (j1 : Int) < 0 := by omega
  by_cases g1 : p.length ≤ j1
  · simp [-Int.natCast_add, -List.length_append, -BitVec.toNat_or, -BitVec.toNat_ofInt, -BitVec.toNat_and, id, w1, w2, w3, g1, n0]
    exact ⟨⟨p', hp, h2⟩, k2⟩
  · by_cases A : j2 < p.length
    · have cB := less_run (m := m2) hN.less h2.sl (i := j2) (j := j1) (by omega) (by omega) (by omega)
      by_cases B : (p' ++ r)[j2] < (p' ++ r)[j1]
      · have cC := less_run (m := m2) hN.less h2.sl (i := j2) (j := i) (by omega) (by omega) (by omega)
        obtain ⟨v3, m3, c3, s3, k3⟩ := swap_run (m := m2) hN.swap h2.sl (i := i) (j := j2) (by omega) (by omega) (by omega)
        by_cases C : (p' ++ r)[j2] < (p' ++ r)[i]
        · simp [-Int.natCast_add, -List.length_append, -List.getElem_append_left, -List.getElem_append_right, -BitVec.toNat_or, -BitVec.toNat_ofInt, -BitVec.toNat_and, id, w1, w2, w3, n0, g1, A, cB, B, inv_ld mLess, inv_ld mSwap, ld, cC, C, c3]
          have s4 := h2.swp (swp_len _ i j2) ha s3 k3
          rw [swp_app (by omega) (by omega)] at s4
          exact ih _ _ _ _ ⟨j2, _, rfl, by omega, (swp_perm (by omega) (by omega)).trans hp, s4, k2.trans k3, rfl⟩ (by omega) ⟨by rfl, by rfl, by rfl, by rfl, trivial⟩
        · simp [-Int.natCast_add, -List.length_append, -List.getElem_append_left, -List.getElem_append_right, -BitVec.toNat_or, -BitVec.toNat_ofInt, -BitVec.toNat_and, id, w1, w2, w3, n0, g1, A, cB, B, inv_ld mLess, inv_ld mSwap, ld, cC, C, c3]
          exact ⟨⟨p', hp, h2⟩, k2⟩
      · have cC := less_run (m := m2) hN.less h2.sl (i := j1) (j := i) (by omega) (by omega) (by omega)
        obtain ⟨v3, m3, c3, s3, k3⟩ := swap_run (m := m2) hN.swap h2.sl (i := i) (j := j1) (by omega) (by omega) (by omega)
        by_cases C : (p' ++ r)[j1] < (p' ++ r)[i]
        · simp [-Int.natCast_add, -List.length_append, -List.getElem_append_left, -List.getElem_append_right, -BitVec.toNat_or, -BitVec.toNat_ofInt, -BitVec.toNat_and, id, w1, w2, w3, n0, g1, A, cB, B, inv_ld mLess, inv_ld mSwap, ld, cC, C, c3]
          have s4 := h2.swp (swp_len _ i j1) ha s3 k3
          rw [swp_app (by omega) (by omega)] at s4
          exact ih _ _ _ _ ⟨j1, _, rfl, by omega, (swp_perm (by omega) (by omega)).trans hp, s4, k2.trans k3, rfl⟩ (by omega) ⟨by rfl, by rfl, by rfl, by rfl, trivial⟩
        · simp [-Int.natCast_add, -List.length_append, -List.getElem_append_left, -List.getElem_append_right, -BitVec.toNat_or, -BitVec.toNat_ofInt, -BitVec.toNat_and, id, w1, w2, w3, n0, g1, A, cB, B, inv_ld mLess, inv_ld mSwap, ld, cC, C, c3]
          exact ⟨⟨p', hp, h2⟩, k2⟩
    · have cC := less_run (m := m2) hN.less h2.sl (i := j1) (j := i) (by omega) (by omega) (by omega)
      obtain ⟨v3, m3, c3, s3, k3⟩ := swap_run (m := m2) hN.swap h2.sl (i := i) (j := j1) (by omega) (by omega) (by omega)
      by_cases C : (p' ++ r)[j1] < (p' ++ r)[i]
      · simp [-Int.natCast_add, -List.length_append, -List.getElem_append_left, -List.getElem_append_right, -BitVec.toNat_or, -BitVec.toNat_ofInt, -BitVec.toNat_and, id, w1, w2, w3, n0, g1, A, inv_ld mLess, inv_ld mSwap, ld, cC, C, c3]
        have s4 := h2.swp (swp_len _ i j1) ha s3 k3
        rw [swp_app (by omega) (by omega)] at s4
        exact ih _ _ _ _ ⟨j1, _, rfl, by omega, (swp_perm (by omega) (by omega)).trans hp, s4, k2.trans k3, rfl⟩ (by omega) ⟨by rfl, by rfl, by rfl, by rfl, trivial⟩
      · simp [-Int.natCast_add, -List.length_append, -List.getElem_append_left, -List.getElem_append_right, -BitVec.toNat_or, -BitVec.toNat_ofInt, -BitVec.toNat_and, id, w1, w2, w3, n0, g1, A, inv_ld mLess, inv_ld mSwap, ld, cC, C, c3]
        exact ⟨⟨p', hp, h2⟩, k2⟩
/-- one of them is taken -/
theorem hpop_run (hN : Nh S) {ob f0 fa : Nat} {x0 x1 x3 : Value} {a : Option Addr} {l : List Int} (h : OAt m ob f0 x0 x1 x3 a l fa) (hl : l.length ≤ 900) (h0 : 0 < l.length) :
    ∃ v m1, callw Try.prog TT S 22 [hif ob] m = some (v, m1) ∧ (∃ x l', v = .iface 3 (.int .i64 x) ∧ l.Perm (x :: l') ∧ OAt m1 ob f0 x0 x1 x3 a l' fa) ∧ Keeps m m1 [f0, fa] := by
  have ld := h.own.load1 (off := 2) rfl
  have ha : a ≠ none := by
    obtain ⟨b, _, h0, _⟩ := h.sl.own (by omega)
    rw [h0]; simp
  obtain ⟨n, hn⟩ : ∃ n, n + 1 = l.length := ⟨l.length - 1, by omega⟩
  have cl := len_run (m := m) (S := S) hN.len (ao := a) (n := l.length) (c := l.length)
  have e1 : IntKind.i64.wrap ((l.length : Int) - 1) = n := by rw [wrap_i64 (by omega) (by omega)]; omega
  obtain ⟨v1, m1, c1, s1, k1⟩ := swap_run (m := m) hN.swap h.sl (i := 0) (j := n) (by omega) (by omega) (by omega)
  have h1 := h.swp (swp_len l 0 n) ha s1 k1
  have pm := swp_perm (l := l) (i := 0) (j := n) (by omega) (by omega)
  obtain ⟨p, x, hpx, hpl⟩ : ∃ p x, swp l 0 n = p ++ [x] ∧ p.length = n := by
    have hne : swp l 0 n ≠ [] := fun e => by have := congrArg List.length e; rw [swp_len] at this; simp only [List.length_nil] at this; omega
    refine ⟨(swp l 0 n).dropLast, (swp l 0 n).getLast hne, (List.dropLast_concat_getLast hne).symm, ?_⟩
    rw [List.length_dropLast, swp_len]; omega
  rw [hpx] at h1 pm
  obtain ⟨v2, m2, c2, ⟨p', hp', h2⟩, k2⟩ := down_run hN h1 ha (by rw [pm.length_eq]; omega)
  obtain ⟨v3, m3, c3, rfl, h3, k3⟩ := pop_run hN h2 (by rw [hp'.length_eq, hpl]; omega)
  rw [hpl] at c2
  refine fn_w 4 [] k22 hN.hpop rfl ?_
  have c1' : callw Try.prog TT S 42 [.slice a l.length l.length, .int .i64 0, .int .i64 n] m = some (v1, m1) := c1
  simp [-Int.natCast_add, -List.length_append, -BitVec.toNat_or, -BitVec.toNat_ofInt, -BitVec.toNat_and, id, inv_ptr mPop, inv_ld mLen, inv_ld mSwap, ld, cl, e1, c1', c2, c3]
  exact ⟨⟨p', pm.symm.trans ((List.perm_append_comm (l₁ := p) (l₂ := [x])).trans (hp'.symm.cons x)), h3⟩, ((k1.mono (by simp)).trans (k2.mono (by simp))).trans (k3.mono (by simp))⟩
end Go.Proofs.Ytkeapfbemlclmaa.base

