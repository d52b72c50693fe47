/-
  This text proves what the small functions of chapter 25 answer over the abstract run: Name, regs, number, shape, Pick.
  Condition: of their calls nothing is known ahead but Name's at the ops ('nmL').
-/
import Derived.Test.YtkcehgajpalgnaaDoorMacP
import Derived.Test.YtkcehgajpalgnaaDoorMacN
set_option maxRecDepth 100000
set_option linter.unusedSimpArgs false
set_option linter.unusedVariables false
namespace Go.Proofs.YtkcehgajpalgnaaDoor.base
open Go.Sh gen
variable {S : Sums} {m : Mem}
theorem op_cases (op : Int) : (op = 1 ∨ op = 2 ∨ op = 3 ∨ op = 4 ∨ op = 5 ∨ op = 6 ∨ op = 7 ∨ op = 8 ∨ op = 9 ∨ op = 10 ∨ op = 11 ∨ op = 12 ∨ op = 13 ∨ op = 14 ∨ op = 15 ∨ op = 16 ∨ op = 17 ∨ op = 18 ∨ op = 19 ∨ op = 20 ∨ op = 21 ∨ op = 22 ∨ op = 23 ∨ op = 24 ∨ op = 25 ∨ op = 26 ∨ op = 27) ∨ ¬ (1 ≤ op ∧ op ≤ 27) := by omega
theorem op_in {op : Int} (h : 1 ≤ op ∧ op ≤ 27) : op = 1 ∨ op = 2 ∨ op = 3 ∨ op = 4 ∨ op = 5 ∨ op = 6 ∨ op = 7 ∨ op = 8 ∨ op = 9 ∨ op = 10 ∨ op = 11 ∨ op = 12 ∨ op = 13 ∨ op = 14 ∨ op = 15 ∨ op = 16 ∨ op = 17 ∨ op = 18 ∨ op = 19 ∨ op = 20 ∨ op = 21 ∨ op = 22 ∨ op = 23 ∨ op = 24 ∨ op = 25 ∨ op = 26 ∨ op = 27 := by omega
theorem emod_tmod (x k : Int) (hk : 0 < k) : x % k = if x.tmod k < 0 then x.tmod k + k else x.tmod k := by
  have hx := Int.emod_nonneg x (by omega : k ≠ 0)
  have hx2 := Int.emod_lt_of_pos x hk
  split
  · rename_i h
    have : (x.tmod k + k) % k = x % k := by
      rw [Int.add_emod_right]
      have h3 := Int.tmod_add_mul_tdiv x k
      have : x.tmod k = x - k * x.tdiv k := by omega
      rw [this, Int.sub_mul_emod_self_left]
    rw [← this]
    have := Int.lt_tmod_of_pos x hk
    exact Int.emod_eq_of_lt (by omega) (by omega)
  · rename_i h
    have : (x.tmod k) % k = x % k := by
      have h3 := Int.tmod_add_mul_tdiv x k
      have : x.tmod k = x - k * x.tdiv k := by omega
      rw [this, Int.sub_mul_emod_self_left]
    rw [← this]
    have := Int.tmod_lt_of_pos x hk
    exact Int.emod_eq_of_lt (by omega) (by omega)
theorem pick_run (hS : S 11 = []) (x k : Int) (hk : 0 < k) (hk2 : k < 4611686018427387904) : callw Tryd.prog TT S 11 [.int .i64 x, .int .i64 k] m = some (.int .i64 (x % k), m) := by
  have hx := Int.emod_nonneg x (by omega : k ≠ 0)
  have hx2 := Int.emod_lt_of_pos x hk
  have hk0 : k ≠ 0 := by omega
  have hw : IntKind.i64.wrap (x % k) = x % k := wrap_i64 (by omega) (by omega)
  have e := emod_tmod x k hk
  refine fn_eq 5 [9] k11 hS rfl ?_
  by_cases h : x.tmod k < 0
  · rw [if_pos h] at e
    rw [e] at hw ⊢
    simp [-BitVec.toNat_or, -BitVec.toNat_ofInt, -BitVec.toNat_and, id, hk0, h, hw]
  · rw [if_neg h] at e
    rw [e]
    simp [-BitVec.toNat_or, -BitVec.toNat_ofInt, -BitVec.toNat_and, id, hk0, h]
def nameF (op : Int) : List UInt8 := if 1 ≤ op ∧ op ≤ 27 then opsL.getD op.toNat [] else []
theorem nameF_ne (op : Int) : (nameF op = []) ↔ ¬ (1 ≤ op ∧ op ≤ 27) := by
  rcases op_cases op with (rfl | rfl | rfl | rfl | rfl | rfl | rfl | rfl | rfl | rfl | rfl | rfl | rfl | rfl | rfl | rfl | rfl | rfl | rfl | rfl | rfl | rfl | rfl | rfl | rfl | rfl | rfl) | hno
  all_goals first
    | (simp [nameF, opsL]; done)
    | (unfold nameF; rw [if_neg (by omega)]; simp; omega)
theorem name_run (hS : S 19 = nmL) (op : Int) : callw Tryd.prog TT S 19 [.int .i64 op] m = some (.string ⟨(nameF op).toArray⟩, m) := by
  rcases op_cases op with (rfl | rfl | rfl | rfl | rfl | rfl | rfl | rfl | rfl | rfl | rfl | rfl | rfl | rfl | rfl | rfl | rfl | rfl | rfl | rfl | rfl | rfl | rfl | rfl | rfl | rfl | rfl) | hno
  · exact sum_at (p := ([.int .i64 1], .string ⟨(nameF 1).toArray⟩)) (by rw [hS]; rfl)
  · exact sum_at (p := ([.int .i64 2], .string ⟨(nameF 2).toArray⟩)) (by rw [hS]; rfl)
  · exact sum_at (p := ([.int .i64 3], .string ⟨(nameF 3).toArray⟩)) (by rw [hS]; rfl)
  · exact sum_at (p := ([.int .i64 4], .string ⟨(nameF 4).toArray⟩)) (by rw [hS]; rfl)
  · exact sum_at (p := ([.int .i64 5], .string ⟨(nameF 5).toArray⟩)) (by rw [hS]; rfl)
  · exact sum_at (p := ([.int .i64 6], .string ⟨(nameF 6).toArray⟩)) (by rw [hS]; rfl)
  · exact sum_at (p := ([.int .i64 7], .string ⟨(nameF 7).toArray⟩)) (by rw [hS]; rfl)
  · exact sum_at (p := ([.int .i64 8], .string ⟨(nameF 8).toArray⟩)) (by rw [hS]; rfl)
  · exact sum_at (p := ([.int .i64 9], .string ⟨(nameF 9).toArray⟩)) (by rw [hS]; rfl)
  · exact sum_at (p := ([.int .i64 10], .string ⟨(nameF 10).toArray⟩)) (by rw [hS]; rfl)
  · exact sum_at (p := ([.int .i64 11], .string ⟨(nameF 11).toArray⟩)) (by rw [hS]; rfl)
  · exact sum_at (p := ([.int .i64 12], .string ⟨(nameF 12).toArray⟩)) (by rw [hS]; rfl)
  · exact sum_at (p := ([.int .i64 13], .string ⟨(nameF 13).toArray⟩)) (by rw [hS]; rfl)
  · exact sum_at (p := ([.int .i64 14], .string ⟨(nameF 14).toArray⟩)) (by rw [hS]; rfl)
  · exact sum_at (p := ([.int .i64 15], .string ⟨(nameF 15).toArray⟩)) (by rw [hS]; rfl)
  · exact sum_at (p := ([.int .i64 16], .string ⟨(nameF 16).toArray⟩)) (by rw [hS]; rfl)
  · exact sum_at (p := ([.int .i64 17], .string ⟨(nameF 17).toArray⟩)) (by rw [hS]; rfl)
  · exact sum_at (p := ([.int .i64 18], .string ⟨(nameF 18).toArray⟩)) (by rw [hS]; rfl)
  · exact sum_at (p := ([.int .i64 19], .string ⟨(nameF 19).toArray⟩)) (by rw [hS]; rfl)
  · exact sum_at (p := ([.int .i64 20], .string ⟨(nameF 20).toArray⟩)) (by rw [hS]; rfl)
  · exact sum_at (p := ([.int .i64 21], .string ⟨(nameF 21).toArray⟩)) (by rw [hS]; rfl)
  · exact sum_at (p := ([.int .i64 22], .string ⟨(nameF 22).toArray⟩)) (by rw [hS]; rfl)
  · exact sum_at (p := ([.int .i64 23], .string ⟨(nameF 23).toArray⟩)) (by rw [hS]; rfl)
  · exact sum_at (p := ([.int .i64 24], .string ⟨(nameF 24).toArray⟩)) (by rw [hS]; rfl)
  · exact sum_at (p := ([.int .i64 25], .string ⟨(nameF 25).toArray⟩)) (by rw [hS]; rfl)
  · exact sum_at (p := ([.int .i64 26], .string ⟨(nameF 26).toArray⟩)) (by rw [hS]; rfl)
  · exact sum_at (p := ([.int .i64 27], .string ⟨(nameF 27).toArray⟩)) (by rw [hS]; rfl)
  · have hf : (S 19).find? (fun p => eqL p.1 [Value.int .i64 op]) = none := by
      rw [hS, List.find?_eq_none]
      intro p hp
      simp only [nmL, List.mem_cons, List.not_mem_nil, or_false] at hp
      rcases hp with rfl | rfl | rfl | rfl | rfl | rfl | rfl | rfl | rfl | rfl | rfl | rfl | rfl | rfl | rfl | rfl | rfl | rfl | rfl | rfl | rfl | rfl | rfl | rfl | rfl | rfl | rfl
      all_goals (simp [eqL, eqV]; omega)
    have e0 : nameF op = [] := (nameF_ne op).2 hno
    rw [e0]
    refine fn_eq2 3 [8] k19 hf rfl ?_
    by_cases h : op < 1
    · simp [-BitVec.toNat_or, -BitVec.toNat_ofInt, -BitVec.toNat_and, index_slice u76 sz9, load_of ld9, h]
    · have h1 : 27 < op := by omega
      simp [-BitVec.toNat_or, -BitVec.toNat_ofInt, -BitVec.toNat_and, index_slice u76 sz9, load_of ld9, h, h1]
theorem regs_run (hS : S 43 = []) {op : Int} (h : 1 ≤ op ∧ op ≤ 27) : callw Tryd.prog TT S 43 [.int .i64 op] m = some (.int .i64 (regsP op : Nat), m) := by
  refine fn_eq 4 [4, 4, 4, 4, 4, 10, 10, 10, 10, 10, 10, 10, 18, 18, 18, 18, 18, 18, 18, 18, 18, 18, 18, 18] k43 hS rfl ?_
  rcases op_in h with rfl | rfl | rfl | rfl | rfl | rfl | rfl | rfl | rfl | rfl | rfl | rfl | rfl | rfl | rfl | rfl | rfl | rfl | rfl | rfl | rfl | rfl | rfl | rfl | rfl | rfl | rfl
  all_goals simp [-BitVec.toNat_or, -BitVec.toNat_ofInt, -BitVec.toNat_and, id, regsP]
def hasN (op : Int) : Bool := decide (op = 1 ∨ op = 3 ∨ op = 4 ∨ op = 24 ∨ op = 25 ∨ op = 19 ∨ op = 21 ∨ op = 23 ∨ op = 26 ∨ op = 27)
theorem shape_run (hS : S 41 = []) {op : Int} (h : 1 ≤ op ∧ op ≤ 27) : callw Tryd.prog TT S 41 [.int .i64 op] m = some (.tuple #[.int .i64 (regsP op : Nat), .bool (hasN op)], m) := by
  refine fn_eq 5 [5, 5, 5, 5, 5, 11, 11, 11, 11, 11, 17, 17, 20, 20, 20] k41 hS rfl ?_
  rcases op_in h with rfl | rfl | rfl | rfl | rfl | rfl | rfl | rfl | rfl | rfl | rfl | rfl | rfl | rfl | rfl | rfl | rfl | rfl | rfl | rfl | rfl | rfl | rfl | rfl | rfl | rfl | rfl
  all_goals simp [-BitVec.toNat_or, -BitVec.toNat_ofInt, -BitVec.toNat_and, id, regsP, hasN]
theorem number_run (hS : S 42 = []) {op : Int} (h : 1 ≤ op ∧ op ≤ 27) (n : Int) {size : Nat} (hs : size ≤ 4611686018427387904) : ∃ b : Bool, callw Tryd.prog TT S 42 [.int .i64 op, .int .i64 n, .int .i64 size] m = some (.bool b, m) ∧ (b = true ↔ numP op n size) := by
  have ws : IntKind.i64.wrap (size : Int) = (size : Int) := wrap_i64 (by omega) (by omega)
  suffices h : ∃ v m1, callw Tryd.prog TT S 42 [.int .i64 op, .int .i64 n, .int .i64 size] m = some (v, m1) ∧ ∃ b : Bool, v = .bool b ∧ (b = true ↔ numP op n size) ∧ m1 = m by
    obtain ⟨_, _, h, b, rfl, hb, rfl⟩ := h
    exact ⟨b, h, hb⟩
  refine fn_w 8 [8, 8, 8, 12, 12, 21, 21, 31, 31, 31] k42 hS rfl ?_
  rcases op_in h with rfl | rfl | rfl | rfl | rfl | rfl | rfl | rfl | rfl | rfl | rfl | rfl | rfl | rfl | rfl | rfl | rfl | rfl | rfl | rfl | rfl | rfl | rfl | rfl | rfl | rfl | rfl
  · simp [-BitVec.toNat_or, -BitVec.toNat_ofInt, -BitVec.toNat_and, id, numP]
  · by_cases c1 : n = 0
    · simp [-BitVec.toNat_or, -BitVec.toNat_ofInt, -BitVec.toNat_and, id, numP, c1]
    · simp [-BitVec.toNat_or, -BitVec.toNat_ofInt, -BitVec.toNat_and, id, numP, c1]
  · by_cases c1 : 0 ≤ n
    · by_cases c2 : n < 400
      · simp [-BitVec.toNat_or, -BitVec.toNat_ofInt, -BitVec.toNat_and, id, numP, c1, c2, ws]
      · simp [-BitVec.toNat_or, -BitVec.toNat_ofInt, -BitVec.toNat_and, id, numP, c1, c2, ws]
    · simp [-BitVec.toNat_or, -BitVec.toNat_ofInt, -BitVec.toNat_and, id, numP, c1, ws]
  · by_cases c1 : 0 ≤ n
    · by_cases c2 : n < 400
      · simp [-BitVec.toNat_or, -BitVec.toNat_ofInt, -BitVec.toNat_and, id, numP, c1, c2, ws]
      · simp [-BitVec.toNat_or, -BitVec.toNat_ofInt, -BitVec.toNat_and, id, numP, c1, c2, ws]
    · simp [-BitVec.toNat_or, -BitVec.toNat_ofInt, -BitVec.toNat_and, id, numP, c1, ws]
  · by_cases c1 : n = 0
    · simp [-BitVec.toNat_or, -BitVec.toNat_ofInt, -BitVec.toNat_and, id, numP, c1]
    · simp [-BitVec.toNat_or, -BitVec.toNat_ofInt, -BitVec.toNat_and, id, numP, c1]
  · by_cases c1 : n = 0
    · simp [-BitVec.toNat_or, -BitVec.toNat_ofInt, -BitVec.toNat_and, id, numP, c1]
    · simp [-BitVec.toNat_or, -BitVec.toNat_ofInt, -BitVec.toNat_and, id, numP, c1]
  · by_cases c1 : n = 0
    · simp [-BitVec.toNat_or, -BitVec.toNat_ofInt, -BitVec.toNat_and, id, numP, c1]
    · simp [-BitVec.toNat_or, -BitVec.toNat_ofInt, -BitVec.toNat_and, id, numP, c1]
  · by_cases c1 : n = 0
    · simp [-BitVec.toNat_or, -BitVec.toNat_ofInt, -BitVec.toNat_and, id, numP, c1]
    · simp [-BitVec.toNat_or, -BitVec.toNat_ofInt, -BitVec.toNat_and, id, numP, c1]
  · by_cases c1 : n = 0
    · simp [-BitVec.toNat_or, -BitVec.toNat_ofInt, -BitVec.toNat_and, id, numP, c1]
    · simp [-BitVec.toNat_or, -BitVec.toNat_ofInt, -BitVec.toNat_and, id, numP, c1]
  · by_cases c1 : n = 0
    · simp [-BitVec.toNat_or, -BitVec.toNat_ofInt, -BitVec.toNat_and, id, numP, c1]
    · simp [-BitVec.toNat_or, -BitVec.toNat_ofInt, -BitVec.toNat_and, id, numP, c1]
  · by_cases c1 : n = 0
    · simp [-BitVec.toNat_or, -BitVec.toNat_ofInt, -BitVec.toNat_and, id, numP, c1]
    · simp [-BitVec.toNat_or, -BitVec.toNat_ofInt, -BitVec.toNat_and, id, numP, c1]
  · by_cases c1 : n = 0
    · simp [-BitVec.toNat_or, -BitVec.toNat_ofInt, -BitVec.toNat_and, id, numP, c1]
    · simp [-BitVec.toNat_or, -BitVec.toNat_ofInt, -BitVec.toNat_and, id, numP, c1]
  · by_cases c1 : n = 0
    · simp [-BitVec.toNat_or, -BitVec.toNat_ofInt, -BitVec.toNat_and, id, numP, c1]
    · simp [-BitVec.toNat_or, -BitVec.toNat_ofInt, -BitVec.toNat_and, id, numP, c1]
  · by_cases c1 : n = 0
    · simp [-BitVec.toNat_or, -BitVec.toNat_ofInt, -BitVec.toNat_and, id, numP, c1]
    · simp [-BitVec.toNat_or, -BitVec.toNat_ofInt, -BitVec.toNat_and, id, numP, c1]
  · by_cases c1 : n = 0
    · simp [-BitVec.toNat_or, -BitVec.toNat_ofInt, -BitVec.toNat_and, id, numP, c1]
    · simp [-BitVec.toNat_or, -BitVec.toNat_ofInt, -BitVec.toNat_and, id, numP, c1]
  · by_cases c1 : n = 0
    · simp [-BitVec.toNat_or, -BitVec.toNat_ofInt, -BitVec.toNat_and, id, numP, c1]
    · simp [-BitVec.toNat_or, -BitVec.toNat_ofInt, -BitVec.toNat_and, id, numP, c1]
  · by_cases c1 : n = 0
    · simp [-BitVec.toNat_or, -BitVec.toNat_ofInt, -BitVec.toNat_and, id, numP, c1]
    · simp [-BitVec.toNat_or, -BitVec.toNat_ofInt, -BitVec.toNat_and, id, numP, c1]
  · by_cases c1 : n = 0
    · simp [-BitVec.toNat_or, -BitVec.toNat_ofInt, -BitVec.toNat_and, id, numP, c1]
    · simp [-BitVec.toNat_or, -BitVec.toNat_ofInt, -BitVec.toNat_and, id, numP, c1]
  · simp [-BitVec.toNat_or, -BitVec.toNat_ofInt, -BitVec.toNat_and, id, numP]
  · by_cases c1 : n = 0
    · simp [-BitVec.toNat_or, -BitVec.toNat_ofInt, -BitVec.toNat_and, id, numP, c1]
    · simp [-BitVec.toNat_or, -BitVec.toNat_ofInt, -BitVec.toNat_and, id, numP, c1]
  · simp [-BitVec.toNat_or, -BitVec.toNat_ofInt, -BitVec.toNat_and, id, numP]
  · by_cases c1 : n = 0
    · simp [-BitVec.toNat_or, -BitVec.toNat_ofInt, -BitVec.toNat_and, id, numP, c1]
    · simp [-BitVec.toNat_or, -BitVec.toNat_ofInt, -BitVec.toNat_and, id, numP, c1]
  · by_cases c1 : 0 ≤ n
    · by_cases c2 : n ≤ size
      · simp [-BitVec.toNat_or, -BitVec.toNat_ofInt, -BitVec.toNat_and, id, numP, c1, c2, ws]
      · simp [-BitVec.toNat_or, -BitVec.toNat_ofInt, -BitVec.toNat_and, id, numP, c1, c2, ws]
    · simp [-BitVec.toNat_or, -BitVec.toNat_ofInt, -BitVec.toNat_and, id, numP, c1, ws]
  · by_cases c1 : 0 ≤ n
    · by_cases c2 : n ≤ size
      · simp [-BitVec.toNat_or, -BitVec.toNat_ofInt, -BitVec.toNat_and, id, numP, c1, c2, ws]
      · simp [-BitVec.toNat_or, -BitVec.toNat_ofInt, -BitVec.toNat_and, id, numP, c1, c2, ws]
    · simp [-BitVec.toNat_or, -BitVec.toNat_ofInt, -BitVec.toNat_and, id, numP, c1, ws]
  · by_cases c1 : 0 ≤ n
    · by_cases c2 : n ≤ 1048576
      · simp [-BitVec.toNat_or, -BitVec.toNat_ofInt, -BitVec.toNat_and, id, numP, c1, c2, ws]
      · simp [-BitVec.toNat_or, -BitVec.toNat_ofInt, -BitVec.toNat_and, id, numP, c1, c2, ws]
    · simp [-BitVec.toNat_or, -BitVec.toNat_ofInt, -BitVec.toNat_and, id, numP, c1, ws]
  · by_cases c1 : 0 ≤ n
    · by_cases c2 : n ≤ 1048576
      · simp [-BitVec.toNat_or, -BitVec.toNat_ofInt, -BitVec.toNat_and, id, numP, c1, c2, ws]
      · simp [-BitVec.toNat_or, -BitVec.toNat_ofInt, -BitVec.toNat_and, id, numP, c1, c2, ws]
    · simp [-BitVec.toNat_or, -BitVec.toNat_ofInt, -BitVec.toNat_and, id, numP, c1, ws]
  · by_cases c1 : 0 ≤ n
    · by_cases c2 : n ≤ 1048576
      · simp [-BitVec.toNat_or, -BitVec.toNat_ofInt, -BitVec.toNat_and, id, numP, c1, c2, ws]
      · simp [-BitVec.toNat_or, -BitVec.toNat_ofInt, -BitVec.toNat_and, id, numP, c1, c2, ws]
    · simp [-BitVec.toNat_or, -BitVec.toNat_ofInt, -BitVec.toNat_and, id, numP, c1, ws]
end Go.Proofs.YtkcehgajpalgnaaDoor.base

