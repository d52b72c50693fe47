/-
  This text proves what slices.Equal of numbers answers, over the abstract run.
  Condition: nothing is known of the calls ahead ('S f = []').
-/
import Derived.Test.YtlogdohlcdhepaaDoorEwC
set_option maxRecDepth 100000
set_option linter.unusedSimpArgs false
set_option linter.unusedVariables false
namespace Go.Proofs.YtlogdohlcdhepaaDoor.base
open Go.Sh gen
variable {S : Sums} {m : Mem}
def eqF (a b : List Int) : Bool := decide (a = b)
theorem drop_getD {l : List Int} {i : Nat} (h : i < l.length) : l.drop i = l.getD i 0 :: l.drop (i + 1) := by
  rw [List.drop_eq_getElem_cons h, List.getD_eq_getElem?_getD, List.getElem?_eq_getElem h]; rfl
set_option maxHeartbeats 4000000 in
theorem equal_run (hS : S 71 = []) {Q Q2 : Nat → Prop} {a b : List Int} {ao bo : Option Addr} (ha : IntsAt Q m ao a) (hb : IntsAt Q2 m bo b) (hal : a.length ≤ 20000000000000) (hbl : b.length ≤ 20000000000000) :
    callw Tryd.prog TT S 71 [.slice ao a.length a.length, .slice bo b.length b.length] m = some (.bool (eqF a b), m) := by
  refine fn_eq 14 [14, 24] k71 hS rfl ?_
  by_cases hl : a.length = b.length
  case neg =>
    have hl' : ¬ (a.length : Int) = b.length := by omega
    have : eqF a b = false := by unfold eqF; exact decide_eq_false fun e => hl (by rw [e])
    simp [-Int.natCast_add, len_slice u36, hl', this]
  have hl' : (a.length : Int) = b.length ↔ True := by simp; omega
  have hl2 : (b.length : Int) = a.length ↔ True := by simp; omega
  simp [-Int.natCast_add, len_slice u36, hl']
  obtain ⟨R, hR⟩ : ∃ R, eqF a b = R := ⟨_, rfl⟩
  rw [hR]
  have im2 : (b.length : Int) ≤ 9223372036854775807 := by omega
  refine wsem_loop 14 [14, 24] (fun d E mF => ∃ (i : Nat), a.length - i = d ∧ i ≤ a.length ∧ mF = m ∧ eqF (a.drop i) (b.drop i) = R ∧
    E = [(0, .slice ao a.length a.length), (1, .slice bo b.length b.length), (12, .int .i64 a.length), (13, .int .i64 (i : Int))]) _ ⟨_, ⟨0, rfl, by omega, rfl, by rw [List.drop_zero, List.drop_zero]; exact hR, rfl⟩, ⟨by rfl, by rfl, by rfl, by rfl, trivial⟩⟩ ?_
  rintro d E mF ih ⟨i, hd, hi, rfl, hr, rfl⟩
  have im : (i : Int) ≤ 9223372036854775807 := by omega
  by_cases hlt : i < a.length
  · have i1 : (i : Int) < a.length := by omega
    have i2 : (i : Int) < b.length := by omega
    have hlt2 : i < b.length := by omega
    have wi : IntKind.i64.wrap ((i : Int) + 1) = ((i + 1 : Nat) : Int) := by rw [wrap_i64 (by omega) (by omega)]; omega
    obtain ⟨xa, rfl, la⟩ := ha.get hlt
    obtain ⟨xb, rfl, lb⟩ := hb.get hlt2
    rw [drop_getD hlt, drop_getD hlt2] at hr
    obtain ⟨x, hx⟩ : ∃ x, a.getD i 0 = x := ⟨_, rfl⟩
    obtain ⟨y, hy⟩ : ∃ x, b.getD i 0 = x := ⟨_, rfl⟩
    rw [hx] at la hr
    rw [hy] at lb hr
    by_cases hxy : x = y
    · subst hxy
      simp [-Int.natCast_add, index_slice u36 sz3, load_of ld3, i1, im, hlt, hlt2, la, lb, wi]
      exact ih _ _ _ _ ⟨i + 1, rfl, by omega, rfl, by rw [← hr]; unfold eqF; simp, rfl⟩ (by omega) ⟨by rfl, by rfl, by rfl, by rfl, trivial⟩
    · have : R = false := by rw [← hr]; unfold eqF; simp [hxy]
      simp [-Int.natCast_add, index_slice u36 sz3, load_of ld3, i1, im, hlt, hlt2, la, lb, hxy, this]
  clear ih
  have i1 : ¬ (i : Int) < a.length := by omega
  rw [List.drop_of_length_le (by omega), List.drop_of_length_le (by omega)] at hr
  have : R = true := by rw [← hr]; rfl
  simp [-Int.natCast_add, i1, this]
end Go.Proofs.YtlogdohlcdhepaaDoor.base

