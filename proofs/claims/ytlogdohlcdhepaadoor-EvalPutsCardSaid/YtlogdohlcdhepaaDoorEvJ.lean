/-
  This text proves that eval.Two and the document's Value make the same of two words, for an op of a machine, over the abstract run.
  Condition: nothing is known of their calls ahead ('S f = []').
-/
import Derived.Test.YtlogdohlcdhepaaDoorEvH
set_option maxRecDepth 100000
set_option linter.unusedSimpArgs false
set_option linter.unusedVariables false
namespace Go.Proofs.YtlogdohlcdhepaaDoor.base
open Go.Sh gen
variable {S : Sums} {m : Mem}
theorem u64_mod (z : Int) : IntKind.u64.wrap z = z % 18446744073709551616 := by
  have e1 : (2 : Int) ^ IntKind.u64.bits = 18446744073709551616 := by decide
  have e3 : IntKind.u64.signed = false := rfl
  simp only [IntKind.wrap, e1, e3]
  simp
theorem i64_mod (z : Int) : IntKind.i64.wrap z = if z % 18446744073709551616 < 9223372036854775808 then z % 18446744073709551616 else z % 18446744073709551616 - 18446744073709551616 := by
  have e1 : (2 : Int) ^ IntKind.i64.bits = 18446744073709551616 := by decide
  have e2 : (2 : Int) ^ (IntKind.i64.bits - 1) = 9223372036854775808 := by decide
  have e3 : IntKind.i64.signed = true := rfl
  simp only [IntKind.wrap, e1, e2, e3, Bool.true_and, decide_eq_true_eq]
  split <;> split <;> omega
theorem wrap_in (z : Int) : -9223372036854775808 ≤ IntKind.i64.wrap z ∧ IntKind.i64.wrap z ≤ 9223372036854775807 := by
  rw [i64_mod]; split <;> omega
structure Tw (S : Sums) : Prop where
  two : S 61 = []
  div : S 78 = []
  bit : S 79 = []
  val : S 44 = []
  flag : S 62 = []
theorem bit_run (h : S 79 = []) (b : Bool) : callw Tryd.prog TT S 79 [.bool b] m = some (.int .u64 (if b then 1 else 0), m) := by
  refine fn_eq 3 [3] k79 h rfl ?_
  cases b <;> simp
theorem flag_run (h : S 62 = []) (b : Bool) : callw Tryd.prog TT S 62 [.bool b] m = some (.int .u64 (if b then 1 else 0), m) := by
  refine fn_eq 3 [3] k62 h rfl ?_
  cases b <;> simp
def wd (x : Int) : Prop := 0 ≤ x ∧ x ≤ 18446744073709551615
theorem wd_wrap (z : Int) : wd (IntKind.u64.wrap z) := by
  rw [u64_mod]; unfold wd; omega
theorem wd_ite (c : Prop) [Decidable c] : wd (if c then 1 else 0) := by unfold wd; split <;> omega
theorem uw (z : Int) : IntKind.u64.wrap (IntKind.i64.wrap z) = IntKind.u64.wrap z := by rw [i64_mod, u64_mod, u64_mod]; split <;> omega
theorem u0 : IntKind.u64.wrap 0 = 0 := by rw [u64_mod]; rfl
theorem umin : IntKind.u64.wrap (-9223372036854775808) = IntKind.u64.wrap 9223372036854775808 := by rw [u64_mod, u64_mod]; rfl
def divR (x y : Int) : Int := if y = 0 then 0 else if y = -1 then IntKind.u64.wrap (-x) else IntKind.u64.wrap (x.tdiv y)
def remR (x y : Int) : Int := if y = 0 then 0 else if y = -1 then 0 else IntKind.u64.wrap (x.tmod y)
theorem wd_div (x y : Int) : wd (divR x y) := by
  unfold divR
  split
  · unfold wd; omega
  · split <;> exact wd_wrap _
theorem wd_rem (x y : Int) : wd (remR x y) := by
  unfold remR
  split
  · unfold wd; omega
  · split
    · unfold wd; omega
    · exact wd_wrap _
theorem div_run (hT : Tw S) {x y : Int} (hx : -9223372036854775808 ≤ x ∧ x ≤ 9223372036854775807) (hy : -9223372036854775808 ≤ y ∧ y ≤ 9223372036854775807) :
    (∀ m : Mem, callw Tryd.prog TT S 78 [.int .i64 6, .int .i64 x, .int .i64 y] m = some (.int .u64 (divR x y), m)) ∧ (∀ m : Mem, callw Tryd.prog TT S 78 [.int .i64 7, .int .i64 x, .int .i64 y] m = some (.int .u64 (remR x y), m)) := by
  refine ⟨fun m => ?_, fun m => ?_⟩
  · refine fn_eq 7 [12, 13, 16] k78 hT.div rfl ?_
    unfold divR
    by_cases x1 : x = -9223372036854775808
    · by_cases y1 : y = -1
      · simp [conv_i u2 u45, uw, umin, x1, y1]
      · by_cases y0 : y = 0
        · simp [x1, y0]
        · simp [conv_i u2 u45, uw, x1, y1, y0]
    · by_cases y1 : y = -1
      · simp [conv_i u2 u45, uw, x1, y1]
      · by_cases y0 : y = 0
        · simp [x1, y0]
        · simp [conv_i u2 u45, uw, x1, y1, y0]
  · refine fn_eq 7 [12, 13, 16] k78 hT.div rfl ?_
    unfold remR
    by_cases x1 : x = -9223372036854775808
    · by_cases y1 : y = -1
      · simp [conv_i u2 u45, u0, x1, y1]
      · by_cases y0 : y = 0
        · simp [x1, y0]
        · simp [conv_i u2 u45, x1, y1, y0]
    · by_cases y1 : y = -1
      · simp [conv_i u2 u45, u0, x1, y1]
      · by_cases y0 : y = 0
        · simp [x1, y0]
        · simp [conv_i u2 u45, x1, y1, y0]
def twoF (k a b : Int) : Int :=
  if k = 3 then (IntKind.u64.wrap (a + b)) else
  if k = 4 then (IntKind.u64.wrap (a - b)) else
  if k = 5 then (IntKind.u64.wrap (a * b)) else
  if k = 8 then (IntKind.u64.wrap (-a)) else
  if k = 9 then (if a = 0 then 1 else 0) else
  if k = 10 then (if a = b then 1 else 0) else
  if k = 11 then (if a ≠ b then 1 else 0) else
  if k = 12 then (if IntKind.i64.wrap a < IntKind.i64.wrap b then 1 else 0) else
  if k = 13 then (if IntKind.i64.wrap a ≤ IntKind.i64.wrap b then 1 else 0) else
  if k = 14 then (if a < b then 1 else 0) else
  if k = 6 then (divR (IntKind.i64.wrap a) (IntKind.i64.wrap b)) else
  if k = 7 then (remR (IntKind.i64.wrap a) (IntKind.i64.wrap b)) else
  0
theorem tv_of {k a b r : Int} (e : twoF k a b = r) (h : wd r ∧ (∀ m : Mem, callw Tryd.prog TT S 61 [.int .i64 k, .int .u64 a, .int .u64 b] m = some (.int .u64 r, m)) ∧ (∀ m : Mem, callw Tryd.prog TT S 44 [.int .i64 k, .int .u64 a, .int .u64 b] m = some (.tuple #[.int .u64 r, .bool true], m))) :
    wd (twoF k a b) ∧ (∀ m : Mem, callw Tryd.prog TT S 61 [.int .i64 k, .int .u64 a, .int .u64 b] m = some (.int .u64 (twoF k a b), m)) ∧ (∀ m : Mem, callw Tryd.prog TT S 44 [.int .i64 k, .int .u64 a, .int .u64 b] m = some (.tuple #[.int .u64 (twoF k a b), .bool true], m)) := by rw [e]; exact h
set_option maxHeartbeats 4000000 in
theorem tv_run (hT : Tw S) {k : Int} (hk : 3 ≤ k ∧ k ≤ 14) {a b : Int} (ha : wd a) (hb : wd b) :
    wd (twoF k a b) ∧ (∀ m : Mem, callw Tryd.prog TT S 61 [.int .i64 k, .int .u64 a, .int .u64 b] m = some (.int .u64 (twoF k a b), m)) ∧ (∀ m : Mem, callw Tryd.prog TT S 44 [.int .i64 k, .int .u64 a, .int .u64 b] m = some (.tuple #[.int .u64 (twoF k a b), .bool true], m)) := by
  have hbit := fun (m : Mem) b => bit_run (m := m) hT.bit b
  have hflag := fun (m : Mem) b => flag_run (m := m) hT.flag b
  rcases (by omega : k = 3 ∨ k = 4 ∨ k = 5 ∨ k = 8 ∨ k = 9 ∨ k = 10 ∨ k = 11 ∨ k = 12 ∨ k = 13 ∨ k = 14 ∨ k = 6 ∨ k = 7) with rfl | rfl | rfl | rfl | rfl | rfl | rfl | rfl | rfl | rfl | rfl | rfl
  · refine tv_of (r := IntKind.u64.wrap (a + b)) (by rfl) ⟨wd_wrap _, fun m => ?_, fun m => ?_⟩
    · refine fn_eq 14 [14, 19, 24, 29, 29, 36, 40, 45, 51, 57, 63, 69] k61 hT.two rfl ?_
      simp [conv_i u45 u2]
    · refine fn_eq 15 [15, 20, 25, 30, 33, 35, 42, 49, 54, 58, 63, 69, 75, 81, 87] k44 hT.val rfl ?_
      simp [conv_i u45 u2]
  · refine tv_of (r := IntKind.u64.wrap (a - b)) (by rfl) ⟨wd_wrap _, fun m => ?_, fun m => ?_⟩
    · refine fn_eq 14 [14, 19, 24, 29, 29, 36, 40, 45, 51, 57, 63, 69] k61 hT.two rfl ?_
      simp [conv_i u45 u2]
    · refine fn_eq 15 [15, 20, 25, 30, 33, 35, 42, 49, 54, 58, 63, 69, 75, 81, 87] k44 hT.val rfl ?_
      simp [conv_i u45 u2]
  · refine tv_of (r := IntKind.u64.wrap (a * b)) (by rfl) ⟨wd_wrap _, fun m => ?_, fun m => ?_⟩
    · refine fn_eq 14 [14, 19, 24, 29, 29, 36, 40, 45, 51, 57, 63, 69] k61 hT.two rfl ?_
      simp [conv_i u45 u2]
    · refine fn_eq 15 [15, 20, 25, 30, 33, 35, 42, 49, 54, 58, 63, 69, 75, 81, 87] k44 hT.val rfl ?_
      simp [conv_i u45 u2]
  · refine tv_of (r := IntKind.u64.wrap (-a)) (by rfl) ⟨wd_wrap _, fun m => ?_, fun m => ?_⟩
    · refine fn_eq 14 [14, 19, 24, 29, 29, 36, 40, 45, 51, 57, 63, 69] k61 hT.two rfl ?_
      simp [conv_i u45 u2, un_neg]
    · refine fn_eq 15 [15, 20, 25, 30, 33, 35, 42, 49, 54, 58, 63, 69, 75, 81, 87] k44 hT.val rfl ?_
      simp [conv_i u45 u2, un_neg]
  · refine tv_of (r := if a = 0 then 1 else 0) (by rfl) ⟨wd_ite _, fun m => ?_, fun m => ?_⟩
    · refine fn_eq 14 [14, 19, 24, 29, 29, 36, 40, 45, 51, 57, 63, 69] k61 hT.two rfl ?_
      simp [conv_i u45 u2, hbit]
    · refine fn_eq 15 [15, 20, 25, 30, 33, 35, 42, 49, 54, 58, 63, 69, 75, 81, 87] k44 hT.val rfl ?_
      simp [conv_i u45 u2, hflag]
  · refine tv_of (r := if a = b then 1 else 0) (by rfl) ⟨wd_ite _, fun m => ?_, fun m => ?_⟩
    · refine fn_eq 14 [14, 19, 24, 29, 29, 36, 40, 45, 51, 57, 63, 69] k61 hT.two rfl ?_
      simp [conv_i u45 u2, hbit]
    · refine fn_eq 15 [15, 20, 25, 30, 33, 35, 42, 49, 54, 58, 63, 69, 75, 81, 87] k44 hT.val rfl ?_
      simp [conv_i u45 u2, hflag]
  · refine tv_of (r := if a ≠ b then 1 else 0) (by rfl) ⟨wd_ite _, fun m => ?_, fun m => ?_⟩
    · refine fn_eq 14 [14, 19, 24, 29, 29, 36, 40, 45, 51, 57, 63, 69] k61 hT.two rfl ?_
      simp [conv_i u45 u2, hbit]
    · refine fn_eq 15 [15, 20, 25, 30, 33, 35, 42, 49, 54, 58, 63, 69, 75, 81, 87] k44 hT.val rfl ?_
      simp [conv_i u45 u2, hflag]
  · refine tv_of (r := if IntKind.i64.wrap a < IntKind.i64.wrap b then 1 else 0) (by rfl) ⟨wd_ite _, fun m => ?_, fun m => ?_⟩
    · refine fn_eq 14 [14, 19, 24, 29, 29, 36, 40, 45, 51, 57, 63, 69] k61 hT.two rfl ?_
      simp [conv_i u45 u2, hbit]
    · refine fn_eq 15 [15, 20, 25, 30, 33, 35, 42, 49, 54, 58, 63, 69, 75, 81, 87] k44 hT.val rfl ?_
      simp [conv_i u45 u2, hflag]
  · refine tv_of (r := if IntKind.i64.wrap a ≤ IntKind.i64.wrap b then 1 else 0) (by rfl) ⟨wd_ite _, fun m => ?_, fun m => ?_⟩
    · refine fn_eq 14 [14, 19, 24, 29, 29, 36, 40, 45, 51, 57, 63, 69] k61 hT.two rfl ?_
      simp [conv_i u45 u2, hbit]
    · refine fn_eq 15 [15, 20, 25, 30, 33, 35, 42, 49, 54, 58, 63, 69, 75, 81, 87] k44 hT.val rfl ?_
      simp [conv_i u45 u2, hflag]
  · refine tv_of (r := if a < b then 1 else 0) (by rfl) ⟨wd_ite _, fun m => ?_, fun m => ?_⟩
    · refine fn_eq 14 [14, 19, 24, 29, 29, 36, 40, 45, 51, 57, 63, 69] k61 hT.two rfl ?_
      simp [conv_i u45 u2, hbit]
    · refine fn_eq 15 [15, 20, 25, 30, 33, 35, 42, 49, 54, 58, 63, 69, 75, 81, 87] k44 hT.val rfl ?_
      simp [conv_i u45 u2, hflag]
  · obtain ⟨hd, _⟩ := div_run hT (wrap_in a) (wrap_in b)
    have hax : IntKind.u64.wrap (-IntKind.i64.wrap a) = IntKind.u64.wrap (-a) := by rw [i64_mod, u64_mod, u64_mod]; split <;> omega
    obtain ⟨x, hxe⟩ : ∃ x, IntKind.i64.wrap a = x := ⟨_, rfl⟩
    obtain ⟨y, hye⟩ : ∃ y, IntKind.i64.wrap b = y := ⟨_, rfl⟩
    rw [hxe] at hax hd
    rw [hye] at hd
    refine tv_of (r := divR x y) (by rw [← hxe, ← hye]; rfl) ⟨wd_div _ _, fun m => ?_, fun m => ?_⟩
    · refine fn_eq 14 [14, 19, 24, 29, 29, 36, 40, 45, 51, 57, 63, 69] k61 hT.two rfl ?_
      simp [conv_i u45 u2, hxe, hye, hd]
    · refine fn_eq 15 [15, 20, 25, 30, 33, 35, 42, 49, 54, 58, 63, 69, 75, 81, 87] k44 hT.val rfl ?_
      unfold divR
      by_cases y0 : y = 0
      · simp [conv_i u45 u2, hxe, hye, y0]
      · by_cases y1 : y = -1
        · simp [conv_i u45 u2, un_neg, hxe, hye, y1, hax]
        · simp [conv_i u45 u2, conv_i u2 u45, uw, hxe, hye, y0, y1]
  · obtain ⟨_, hd⟩ := div_run hT (wrap_in a) (wrap_in b)
    obtain ⟨x, hxe⟩ : ∃ x, IntKind.i64.wrap a = x := ⟨_, rfl⟩
    obtain ⟨y, hye⟩ : ∃ y, IntKind.i64.wrap b = y := ⟨_, rfl⟩
    rw [hxe, hye] at hd
    refine tv_of (r := remR x y) (by rw [← hxe, ← hye]; rfl) ⟨wd_rem _ _, fun m => ?_, fun m => ?_⟩
    · refine fn_eq 14 [14, 19, 24, 29, 29, 36, 40, 45, 51, 57, 63, 69] k61 hT.two rfl ?_
      simp [conv_i u45 u2, hxe, hye, hd]
    · refine fn_eq 15 [15, 20, 25, 30, 33, 35, 42, 49, 54, 58, 63, 69, 75, 81, 87] k44 hT.val rfl ?_
      unfold remR
      by_cases y0 : y = 0
      · simp [conv_i u45 u2, hxe, hye, y0]
      · by_cases y1 : y = -1
        · simp [conv_i u45 u2, hxe, hye, y1]
        · simp [conv_i u45 u2, conv_i u2 u45, hxe, hye, y0, y1]
end Go.Proofs.YtlogdohlcdhepaaDoor.base

