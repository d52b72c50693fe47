/-
  This text proves that eval.Two and the document's Value make the same of two words, for an op of a machine, over the abstract run.
  Condition: nothing is known of their calls ahead ('S f = []').
-/
import Derived.Test.YtkcehgajpalgnaaDoorMacH
set_option maxRecDepth 100000
set_option linter.unusedSimpArgs false
set_option linter.unusedVariables false
namespace Go.Proofs.YtkcehgajpalgnaaDoor.base
open Go.Sh gen
variable {S : Sums} {m : Mem}
structure Tw (S : Sums) : Prop where
  two : S 44 = []
  div : S 52 = []
  bit : S 53 = []
  val : S 38 = []
  flag : S 50 = []
  op : S 45 = []
  rop : S 39 = []
theorem bit_run (h : S 53 = []) (b : Bool) : callw Tryd.prog TT S 53 [.bool b] m = some (.int .u64 (if b then 1 else 0), m) := by
  refine fn_eq 3 [3] k53 h rfl ?_
  cases b <;> simp [-BitVec.toNat_or, -BitVec.toNat_ofInt, -BitVec.toNat_and, id]
theorem flag_run (h : S 50 = []) (b : Bool) : callw Tryd.prog TT S 50 [.bool b] m = some (.int .u64 (if b then 1 else 0), m) := by
  refine fn_eq 3 [3] k50 h rfl ?_
  cases b <;> simp [-BitVec.toNat_or, -BitVec.toNat_ofInt, -BitVec.toNat_and, id]
theorem mop_run (h : S 45 = []) {k : Int} (hk : 1 ≤ k ∧ k ≤ 27) : callw Tryd.prog TT S 45 [.int .i64 k] m = some (.int .i64 (k - 2), m) := by
  have w1 : IntKind.i64.wrap (3 + k) = 3 + k := wrap_i64 (by omega) (by omega)
  have w2 : IntKind.i64.wrap (3 + k - 5) = k - 2 := by rw [wrap_i64 (by omega) (by omega)]; omega
  refine fn_eq 3 [] k45 h rfl ?_
  simp [-BitVec.toNat_or, -BitVec.toNat_ofInt, -BitVec.toNat_and, id, w1, w2]
theorem rop_run (h : S 39 = []) {k : Int} (hk : 5 ≤ k ∧ k ≤ 16) : callw Tryd.prog TT S 39 [.int .i64 k] m = some (.int .i64 (k - 2), m) := by
  refine fn_eq 4 [4, 6, 8, 10, 12, 14, 16, 18, 20, 22, 24] k39 h rfl ?_
  rcases (by omega : k = 5 ∨ k = 6 ∨ k = 7 ∨ k = 8 ∨ k = 9 ∨ k = 10 ∨ k = 11 ∨ k = 12 ∨ k = 13 ∨ k = 14 ∨ k = 15 ∨ k = 16) with rfl | rfl | rfl | rfl | rfl | rfl | rfl | rfl | rfl | rfl | rfl | rfl
  all_goals simp [-BitVec.toNat_or, -BitVec.toNat_ofInt, -BitVec.toNat_and, id]
def wd (x : Int) : Prop := 0 ≤ x ∧ x ≤ 18446744073709551615
theorem wd_wrap (z : Int) : wd (IntKind.u64.wrap z) := by
  rw [u64_mod]; unfold wd; omega
theorem wd_ite (c : Prop) [Decidable c] : wd (if c then 1 else 0) := by unfold wd; split <;> omega
theorem uw (z : Int) : IntKind.u64.wrap (IntKind.i64.wrap z) = IntKind.u64.wrap z := by rw [i64_mod, u64_mod, u64_mod]; split <;> omega
theorem u0 : IntKind.u64.wrap 0 = 0 := by rw [u64_mod]; rfl
theorem umin : IntKind.u64.wrap (-9223372036854775808) = IntKind.u64.wrap 9223372036854775808 := by rw [u64_mod, u64_mod]; rfl
def divR (x y : Int) : Int := if y = 0 then 0 else if y = -1 then IntKind.u64.wrap (-x) else IntKind.u64.wrap (x.tdiv y)
def remR (x y : Int) : Int := if y = 0 then 0 else if y = -1 then 0 else IntKind.u64.wrap (x.tmod y)
theorem wd_div (x y : Int) : wd (divR x y) := by
  unfold divR
  split
  · unfold wd; omega
  · split <;> exact wd_wrap _
theorem wd_rem (x y : Int) : wd (remR x y) := by
  unfold remR
  split
  · unfold wd; omega
  · split
    · unfold wd; omega
    · exact wd_wrap _
theorem div_run (hT : Tw S) {x y : Int} (hx : -9223372036854775808 ≤ x ∧ x ≤ 9223372036854775807) (hy : -9223372036854775808 ≤ y ∧ y ≤ 9223372036854775807) :
    (∀ m : Mem, callw Tryd.prog TT S 52 [.int .i64 6, .int .i64 x, .int .i64 y] m = some (.int .u64 (divR x y), m)) ∧ (∀ m : Mem, callw Tryd.prog TT S 52 [.int .i64 7, .int .i64 x, .int .i64 y] m = some (.int .u64 (remR x y), m)) := by
  refine ⟨fun m => ?_, fun m => ?_⟩
  · refine fn_eq 7 [12, 13, 16] k52 hT.div rfl ?_
    unfold divR
    by_cases x1 : x = -9223372036854775808
    · by_cases y1 : y = -1
      · simp [-BitVec.toNat_or, -BitVec.toNat_ofInt, -BitVec.toNat_and, conv_i u2 u33, uw, u0, umin, x1, y1]
      · by_cases y0 : y = 0
        · simp [-BitVec.toNat_or, -BitVec.toNat_ofInt, -BitVec.toNat_and, conv_i u2 u33, uw, u0, umin, x1, y0]
        · simp [-BitVec.toNat_or, -BitVec.toNat_ofInt, -BitVec.toNat_and, conv_i u2 u33, uw, u0, umin, x1, y1, y0]
    · by_cases y1 : y = -1
      · simp [-BitVec.toNat_or, -BitVec.toNat_ofInt, -BitVec.toNat_and, conv_i u2 u33, uw, u0, umin, x1, y1]
      · by_cases y0 : y = 0
        · simp [-BitVec.toNat_or, -BitVec.toNat_ofInt, -BitVec.toNat_and, conv_i u2 u33, uw, u0, umin, x1, y0]
        · simp [-BitVec.toNat_or, -BitVec.toNat_ofInt, -BitVec.toNat_and, conv_i u2 u33, uw, u0, umin, x1, y1, y0]
  · refine fn_eq 7 [12, 13, 16] k52 hT.div rfl ?_
    unfold remR
    by_cases x1 : x = -9223372036854775808
    · by_cases y1 : y = -1
      · simp [-BitVec.toNat_or, -BitVec.toNat_ofInt, -BitVec.toNat_and, conv_i u2 u33, uw, u0, umin, x1, y1]
      · by_cases y0 : y = 0
        · simp [-BitVec.toNat_or, -BitVec.toNat_ofInt, -BitVec.toNat_and, conv_i u2 u33, uw, u0, umin, x1, y0]
        · simp [-BitVec.toNat_or, -BitVec.toNat_ofInt, -BitVec.toNat_and, conv_i u2 u33, uw, u0, umin, x1, y1, y0]
    · by_cases y1 : y = -1
      · simp [-BitVec.toNat_or, -BitVec.toNat_ofInt, -BitVec.toNat_and, conv_i u2 u33, uw, u0, umin, x1, y1]
      · by_cases y0 : y = 0
        · simp [-BitVec.toNat_or, -BitVec.toNat_ofInt, -BitVec.toNat_and, conv_i u2 u33, uw, u0, umin, x1, y0]
        · simp [-BitVec.toNat_or, -BitVec.toNat_ofInt, -BitVec.toNat_and, conv_i u2 u33, uw, u0, umin, x1, y1, y0]
set_option maxHeartbeats 4000000 in
theorem tv_run (hT : Tw S) {k : Int} (hk : 3 ≤ k ∧ k ≤ 14) {a b : Int} (ha : wd a) (hb : wd b) :
    ∃ r, wd r ∧ (∀ m : Mem, callw Tryd.prog TT S 44 [.int .i64 k, .int .u64 a, .int .u64 b] m = some (.int .u64 r, m)) ∧ (∀ m : Mem, callw Tryd.prog TT S 38 [.int .i64 k, .int .u64 a, .int .u64 b] m = some (.tuple #[.int .u64 r, .bool true], m)) := by
  have hbit := fun (m : Mem) b => bit_run (m := m) hT.bit b
  have hflag := fun (m : Mem) b => flag_run (m := m) hT.flag b
  rcases (by omega : k = 3 ∨ k = 4 ∨ k = 5 ∨ k = 8 ∨ k = 9 ∨ k = 10 ∨ k = 11 ∨ k = 12 ∨ k = 13 ∨ k = 14 ∨ k = 6 ∨ k = 7) with rfl | rfl | rfl | rfl | rfl | rfl | rfl | rfl | rfl | rfl | rfl | rfl
  · refine ⟨IntKind.u64.wrap (a + b), wd_wrap _, fun m => ?_, fun m => ?_⟩
    · refine fn_eq 14 [14, 19, 24, 29, 29, 36, 40, 45, 51, 57, 63, 69] k44 hT.two rfl ?_
      simp [-BitVec.toNat_or, -BitVec.toNat_ofInt, -BitVec.toNat_and, conv_i u33 u2, un_neg, hbit]
    · refine fn_eq 15 [15, 20, 25, 30, 33, 35, 42, 49, 54, 58, 63, 69, 75, 81, 87] k38 hT.val rfl ?_
      simp [-BitVec.toNat_or, -BitVec.toNat_ofInt, -BitVec.toNat_and, conv_i u33 u2, un_neg, conv_i u2 u33, hflag]
  · refine ⟨IntKind.u64.wrap (a - b), wd_wrap _, fun m => ?_, fun m => ?_⟩
    · refine fn_eq 14 [14, 19, 24, 29, 29, 36, 40, 45, 51, 57, 63, 69] k44 hT.two rfl ?_
      simp [-BitVec.toNat_or, -BitVec.toNat_ofInt, -BitVec.toNat_and, conv_i u33 u2, un_neg, hbit]
    · refine fn_eq 15 [15, 20, 25, 30, 33, 35, 42, 49, 54, 58, 63, 69, 75, 81, 87] k38 hT.val rfl ?_
      simp [-BitVec.toNat_or, -BitVec.toNat_ofInt, -BitVec.toNat_and, conv_i u33 u2, un_neg, conv_i u2 u33, hflag]
  · refine ⟨IntKind.u64.wrap (a * b), wd_wrap _, fun m => ?_, fun m => ?_⟩
    · refine fn_eq 14 [14, 19, 24, 29, 29, 36, 40, 45, 51, 57, 63, 69] k44 hT.two rfl ?_
      simp [-BitVec.toNat_or, -BitVec.toNat_ofInt, -BitVec.toNat_and, conv_i u33 u2, un_neg, hbit]
    · refine fn_eq 15 [15, 20, 25, 30, 33, 35, 42, 49, 54, 58, 63, 69, 75, 81, 87] k38 hT.val rfl ?_
      simp [-BitVec.toNat_or, -BitVec.toNat_ofInt, -BitVec.toNat_and, conv_i u33 u2, un_neg, conv_i u2 u33, hflag]
  · refine ⟨IntKind.u64.wrap (-a), wd_wrap _, fun m => ?_, fun m => ?_⟩
    · refine fn_eq 14 [14, 19, 24, 29, 29, 36, 40, 45, 51, 57, 63, 69] k44 hT.two rfl ?_
      simp [-BitVec.toNat_or, -BitVec.toNat_ofInt, -BitVec.toNat_and, conv_i u33 u2, un_neg, hbit]
    · refine fn_eq 15 [15, 20, 25, 30, 33, 35, 42, 49, 54, 58, 63, 69, 75, 81, 87] k38 hT.val rfl ?_
      simp [-BitVec.toNat_or, -BitVec.toNat_ofInt, -BitVec.toNat_and, conv_i u33 u2, un_neg, conv_i u2 u33, hflag]
  · refine ⟨if a = 0 then 1 else 0, wd_ite _, fun m => ?_, fun m => ?_⟩
    · refine fn_eq 14 [14, 19, 24, 29, 29, 36, 40, 45, 51, 57, 63, 69] k44 hT.two rfl ?_
      simp [-BitVec.toNat_or, -BitVec.toNat_ofInt, -BitVec.toNat_and, conv_i u33 u2, un_neg, hbit]
    · refine fn_eq 15 [15, 20, 25, 30, 33, 35, 42, 49, 54, 58, 63, 69, 75, 81, 87] k38 hT.val rfl ?_
      simp [-BitVec.toNat_or, -BitVec.toNat_ofInt, -BitVec.toNat_and, conv_i u33 u2, un_neg, conv_i u2 u33, hflag]
  · refine ⟨if a = b then 1 else 0, wd_ite _, fun m => ?_, fun m => ?_⟩
    · refine fn_eq 14 [14, 19, 24, 29, 29, 36, 40, 45, 51, 57, 63, 69] k44 hT.two rfl ?_
      simp [-BitVec.toNat_or, -BitVec.toNat_ofInt, -BitVec.toNat_and, conv_i u33 u2, un_neg, hbit]
    · refine fn_eq 15 [15, 20, 25, 30, 33, 35, 42, 49, 54, 58, 63, 69, 75, 81, 87] k38 hT.val rfl ?_
      simp [-BitVec.toNat_or, -BitVec.toNat_ofInt, -BitVec.toNat_and, conv_i u33 u2, un_neg, conv_i u2 u33, hflag]
  · refine ⟨if a ≠ b then 1 else 0, wd_ite _, fun m => ?_, fun m => ?_⟩
    · refine fn_eq 14 [14, 19, 24, 29, 29, 36, 40, 45, 51, 57, 63, 69] k44 hT.two rfl ?_
      simp [-BitVec.toNat_or, -BitVec.toNat_ofInt, -BitVec.toNat_and, conv_i u33 u2, un_neg, hbit]
    · refine fn_eq 15 [15, 20, 25, 30, 33, 35, 42, 49, 54, 58, 63, 69, 75, 81, 87] k38 hT.val rfl ?_
      simp [-BitVec.toNat_or, -BitVec.toNat_ofInt, -BitVec.toNat_and, conv_i u33 u2, un_neg, conv_i u2 u33, hflag]
  · refine ⟨if IntKind.i64.wrap a < IntKind.i64.wrap b then 1 else 0, wd_ite _, fun m => ?_, fun m => ?_⟩
    · refine fn_eq 14 [14, 19, 24, 29, 29, 36, 40, 45, 51, 57, 63, 69] k44 hT.two rfl ?_
      simp [-BitVec.toNat_or, -BitVec.toNat_ofInt, -BitVec.toNat_and, conv_i u33 u2, un_neg, hbit]
    · refine fn_eq 15 [15, 20, 25, 30, 33, 35, 42, 49, 54, 58, 63, 69, 75, 81, 87] k38 hT.val rfl ?_
      simp [-BitVec.toNat_or, -BitVec.toNat_ofInt, -BitVec.toNat_and, conv_i u33 u2, un_neg, conv_i u2 u33, hflag]
  · refine ⟨if IntKind.i64.wrap a ≤ IntKind.i64.wrap b then 1 else 0, wd_ite _, fun m => ?_, fun m => ?_⟩
    · refine fn_eq 14 [14, 19, 24, 29, 29, 36, 40, 45, 51, 57, 63, 69] k44 hT.two rfl ?_
      simp [-BitVec.toNat_or, -BitVec.toNat_ofInt, -BitVec.toNat_and, conv_i u33 u2, un_neg, hbit]
    · refine fn_eq 15 [15, 20, 25, 30, 33, 35, 42, 49, 54, 58, 63, 69, 75, 81, 87] k38 hT.val rfl ?_
      simp [-BitVec.toNat_or, -BitVec.toNat_ofInt, -BitVec.toNat_and, conv_i u33 u2, un_neg, conv_i u2 u33, hflag]
  · refine ⟨if a < b then 1 else 0, wd_ite _, fun m => ?_, fun m => ?_⟩
    · refine fn_eq 14 [14, 19, 24, 29, 29, 36, 40, 45, 51, 57, 63, 69] k44 hT.two rfl ?_
      simp [-BitVec.toNat_or, -BitVec.toNat_ofInt, -BitVec.toNat_and, conv_i u33 u2, un_neg, hbit]
    · refine fn_eq 15 [15, 20, 25, 30, 33, 35, 42, 49, 54, 58, 63, 69, 75, 81, 87] k38 hT.val rfl ?_
      simp [-BitVec.toNat_or, -BitVec.toNat_ofInt, -BitVec.toNat_and, conv_i u33 u2, un_neg, conv_i u2 u33, hflag]
  · obtain ⟨hd, _⟩ := div_run hT (wrap_in a) (wrap_in b)
    have hax : IntKind.u64.wrap (-IntKind.i64.wrap a) = IntKind.u64.wrap (-a) := by rw [i64_mod, u64_mod, u64_mod]; split <;> omega
    obtain ⟨x, hxe⟩ : ∃ x, IntKind.i64.wrap a = x := ⟨_, rfl⟩
    obtain ⟨y, hye⟩ : ∃ y, IntKind.i64.wrap b = y := ⟨_, rfl⟩
    rw [hxe] at hax hd
    rw [hye] at hd
    refine ⟨divR x y, wd_div _ _, fun m => ?_, fun m => ?_⟩
    · refine fn_eq 14 [14, 19, 24, 29, 29, 36, 40, 45, 51, 57, 63, 69] k44 hT.two rfl ?_
      simp [-BitVec.toNat_or, -BitVec.toNat_ofInt, -BitVec.toNat_and, conv_i u33 u2, un_neg, hxe, hye, hd]
    · refine fn_eq 15 [15, 20, 25, 30, 33, 35, 42, 49, 54, 58, 63, 69, 75, 81, 87] k38 hT.val rfl ?_
      unfold divR
      by_cases y0 : y = 0
      · simp [-BitVec.toNat_or, -BitVec.toNat_ofInt, -BitVec.toNat_and, conv_i u33 u2, un_neg, conv_i u2 u33, hxe, hye, y0]
      · by_cases y1 : y = -1
        · simp [-BitVec.toNat_or, -BitVec.toNat_ofInt, -BitVec.toNat_and, conv_i u33 u2, un_neg, conv_i u2 u33, hxe, hye, y1, hax]
        · simp [-BitVec.toNat_or, -BitVec.toNat_ofInt, -BitVec.toNat_and, conv_i u33 u2, un_neg, conv_i u2 u33, uw, hxe, hye, y0, y1]
  · obtain ⟨_, hd⟩ := div_run hT (wrap_in a) (wrap_in b)
    obtain ⟨x, hxe⟩ : ∃ x, IntKind.i64.wrap a = x := ⟨_, rfl⟩
    obtain ⟨y, hye⟩ : ∃ y, IntKind.i64.wrap b = y := ⟨_, rfl⟩
    rw [hxe, hye] at hd
    refine ⟨remR x y, wd_rem _ _, fun m => ?_, fun m => ?_⟩
    · refine fn_eq 14 [14, 19, 24, 29, 29, 36, 40, 45, 51, 57, 63, 69] k44 hT.two rfl ?_
      simp [-BitVec.toNat_or, -BitVec.toNat_ofInt, -BitVec.toNat_and, conv_i u33 u2, un_neg, hxe, hye, hd]
    · refine fn_eq 15 [15, 20, 25, 30, 33, 35, 42, 49, 54, 58, 63, 69, 75, 81, 87] k38 hT.val rfl ?_
      unfold remR
      by_cases y0 : y = 0
      · simp [-BitVec.toNat_or, -BitVec.toNat_ofInt, -BitVec.toNat_and, conv_i u33 u2, un_neg, conv_i u2 u33, hxe, hye, y0]
      · by_cases y1 : y = -1
        · simp [-BitVec.toNat_or, -BitVec.toNat_ofInt, -BitVec.toNat_and, conv_i u33 u2, un_neg, conv_i u2 u33, hxe, hye, y1]
        · simp [-BitVec.toNat_or, -BitVec.toNat_ofInt, -BitVec.toNat_and, conv_i u33 u2, un_neg, conv_i u2 u33, uw, hxe, hye, y0, y1]
end Go.Proofs.YtkcehgajpalgnaaDoor.base

