/-
  This text proves what turnstonelaw25.same and .list answer over the abstract run.
  Condition: of their calls nothing is known ahead but Name's at the ops ('nmL').
-/
import Derived.Test.YtkcehgajpalgnaaDoorMacD
set_option maxRecDepth 100000
set_option linter.unusedSimpArgs false
set_option linter.unusedVariables false
namespace Go.Proofs.YtkcehgajpalgnaaDoor.base
open Go.Sh gen
variable {S : Sums} {m : Mem}
theorem take_ne {α : Type} {a b : List α} {i : Nat} (ha : i < a.length) (hb : i < b.length) (h : a[i] ≠ b[i]) : a ≠ b := fun e => by subst e; exact h rfl
set_option maxHeartbeats 4000000 in
theorem same_run (hS : S 24 = []) {ao bo : Option Addr} {a b : List In5} {af bf ae be : Nat} (ha : Rs m ao a.length (icv a) ae 5 af) (hb : Rs m bo b.length (icv b) be 5 bf) (hal : a.length ≤ 4611686018427387904) (hbl : b.length ≤ 4611686018427387904) :
    ∃ q : Bool, callw Tryd.prog TT S 24 [.slice ao a.length a.length, .slice bo b.length b.length] m = some (.bool q, m) ∧ (q = true ↔ a = b) := by
  suffices h : ∃ v m1, callw Tryd.prog TT S 24 [.slice ao a.length a.length, .slice bo b.length b.length] m = some (v, m1) ∧ ∃ q : Bool, v = .bool q ∧ (q = true ↔ a = b) ∧ m1 = m by
    obtain ⟨_, _, h, q, rfl, hq, rfl⟩ := h
    exact ⟨q, h, hq⟩
  refine fn_w 6 [10, 14, 25] k24 hS rfl ?_
  by_cases hll : a.length = b.length
  · have hll' : (a.length : Int) = (b.length : Int) := by omega
    simp [-Int.natCast_add, -BitVec.toNat_or, -BitVec.toNat_ofInt, -BitVec.toNat_and, len_slice u22, index_slice u22 sz52, load_agg ld52, bin_agg ag52 .neq (Or.inr rfl), scal_int u3, scal_int u2, hll]
    rw [hll] at ha
    refine wsem_loop 6 [10, 14, 25] (fun d E m2 => ∃ i : Nat, b.length - i = d ∧ i ≤ b.length ∧ a.take i = b.take i ∧ m2 = m ∧ E = [(0, .slice ao b.length b.length), (1, .slice bo b.length b.length), (5, .int .i64 i)]) _ ⟨_, ⟨0, rfl, by omega, by simp, rfl, rfl⟩, ⟨by rfl, by rfl, by rfl, trivial⟩⟩ ?_
    rintro d E m2 ih ⟨i, hd, hi, heq, rfl, rfl⟩
    by_cases hlt : i < b.length
    · have em : (i : Int) ≤ 9223372036854775807 := by omega
      have hlt' : (i : Int) < b.length := by omega
      have wi : IntKind.i64.wrap ((i : Int) + 1) = ((i + 1 : Nat) : Int) := by rw [wrap_i64 (by omega) (by omega)]; omega
      have hla : i < a.length := by omega
      obtain ⟨ab, rfl, oa⟩ := ha.rdo (by omega)
      obtain ⟨bb, rfl, ob⟩ := hb.rdo (by omega)
      have la : loadRow m2 ⟨ab, i * 5, none⟩ 5 = some (icl a[i]) := by rw [oa.load 5 (by rw [icv_len]; omega), icv_win hla]
      have lb : loadRow m2 ⟨bb, i * 5, none⟩ 5 = some (icl b[i]) := by rw [ob.load 5 (by rw [icv_len]; omega), icv_win hlt]
      have ta : a.take (i + 1) = a.take i ++ [a[i]] := List.take_succ_eq_append_getElem hla
      have tb : b.take (i + 1) = b.take i ++ [b[i]] := List.take_succ_eq_append_getElem hlt
      have hne := take_ne hla hlt
      generalize a[i] = x at *
      generalize b[i] = y at *
      obtain ⟨x0, x1, x2, x3, x4⟩ := x
      obtain ⟨y0, y1, y2, y3, y4⟩ := y
      by_cases c : x0 = y0 ∧ x1 = y1 ∧ x2 = y2 ∧ x3 = y3 ∧ x4 = y4
      · obtain ⟨rfl, rfl, rfl, rfl, rfl⟩ := c
        simp [-Int.natCast_add, -BitVec.toNat_or, -BitVec.toNat_ofInt, -BitVec.toNat_and, len_slice u22, index_slice u22 sz52, load_agg ld52, bin_agg ag52 .neq (Or.inr rfl), scal_int u3, scal_int u2, hlt, hlt', em, la, lb, wi]
        exact ih _ _ _ _ ⟨i + 1, rfl, by omega, by rw [ta, tb, heq], rfl, rfl⟩ (by omega) ⟨by rfl, by rfl, by rfl, trivial⟩
      · have hne2 := hne (fun e => c (by simpa using e))
        by_cases c0 : x0 = y0 <;> by_cases c1 : x1 = y1 <;> by_cases c2 : x2 = y2 <;> by_cases c3 : x3 = y3 <;> by_cases c4 : x4 = y4 <;> first
          | (simp [-Int.natCast_add, -BitVec.toNat_or, -BitVec.toNat_ofInt, -BitVec.toNat_and, len_slice u22, index_slice u22 sz52, load_agg ld52, bin_agg ag52 .neq (Or.inr rfl), scal_int u3, scal_int u2, hlt, hlt', em, la, lb, c0, c1, c2, c3, c4]; exact hne2)
          | exact absurd (And.intro c0 (And.intro c1 (And.intro c2 (And.intro c3 c4)))) c
    · have hlt' : ¬ (i : Int) < b.length := by omega
      have e1 : a = b := by
        have h1 : a.take i = a := List.take_of_length_le (by omega)
        have h2 : b.take i = b := List.take_of_length_le (by omega)
        rw [← h1, heq, h2]
      simp [-Int.natCast_add, -BitVec.toNat_or, -BitVec.toNat_ofInt, -BitVec.toNat_and, len_slice u22, index_slice u22 sz52, load_agg ld52, bin_agg ag52 .neq (Or.inr rfl), scal_int u3, scal_int u2, hlt']
      exact e1
  · have hll' : ¬ (a.length : Int) = (b.length : Int) := by omega
    simp [-Int.natCast_add, -BitVec.toNat_or, -BitVec.toNat_ofInt, -BitVec.toNat_and, len_slice u22, index_slice u22 sz52, load_agg ld52, bin_agg ag52 .neq (Or.inr rfl), scal_int u3, scal_int u2, hll, hll']
    exact fun e => hll (by rw [e])
end Go.Proofs.YtkcehgajpalgnaaDoor.base

