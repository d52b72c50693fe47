/-
  This text proves how many bits and decimal digits a number has, as Go's library reckons it.
  Condition: nothing is known of the calls ahead ('S f = []'); the table of powers of ten is laid.
-/
import Derived.Test.YtbhnojbkinbomaaDoorGen
set_option maxRecDepth 100000
set_option linter.unusedSimpArgs false
set_option linter.unusedVariables false
namespace Go.Proofs.YtbhnojbkinbomaaDoor.base
open Go.Sh gen
variable {S : Sums} {m : Mem}
theorem fdiv_nn (x : Nat) (k : Nat) : Int.fdiv (x : Int) (k : Int) = ((x / k : Nat) : Int) := by
  rw [Int.fdiv_eq_ediv_of_nonneg _ (by omega)]; rfl
theorem s32 (x : Nat) : Int.fdiv (x : Int) (2 ^ min 32 IntKind.u64.bits) = ((x / 4294967296 : Nat) : Int) := fdiv_nn x 4294967296
theorem s16 (x : Nat) : Int.fdiv (x : Int) (2 ^ min 16 IntKind.u64.bits) = ((x / 65536 : Nat) : Int) := fdiv_nn x 65536
theorem s8 (x : Nat) : Int.fdiv (x : Int) (2 ^ min 8 IntKind.u64.bits) = ((x / 256 : Nat) : Int) := fdiv_nn x 256
/-- how many bits a byte has -/
def lenL : List UInt8 := [0, 1, 2, 2, 3, 3, 3, 3, 4, 4, 4, 4, 4, 4, 4, 4, 5, 5, 5, 5, 5, 5, 5, 5, 5, 5, 5, 5, 5, 5, 5, 5, 6, 6, 6, 6, 6, 6, 6, 6, 6, 6, 6, 6, 6, 6, 6, 6, 6, 6, 6, 6, 6, 6, 6, 6, 6, 6, 6, 6, 6, 6, 6, 6, 7, 7, 7, 7, 7, 7, 7, 7, 7, 7, 7, 7, 7, 7, 7, 7, 7, 7, 7, 7, 7, 7, 7, 7, 7, 7, 7, 7, 7, 7, 7, 7, 7, 7, 7, 7, 7, 7, 7, 7, 7, 7, 7, 7, 7, 7, 7, 7, 7, 7, 7, 7, 7, 7, 7, 7, 7, 7, 7, 7, 7, 7, 7, 7, 8, 8, 8, 8, 8, 8, 8, 8, 8, 8, 8, 8, 8, 8, 8, 8, 8, 8, 8, 8, 8, 8, 8, 8, 8, 8, 8, 8, 8, 8, 8, 8, 8, 8, 8, 8, 8, 8, 8, 8, 8, 8, 8, 8, 8, 8, 8, 8, 8, 8, 8, 8, 8, 8, 8, 8, 8, 8, 8, 8, 8, 8, 8, 8, 8, 8, 8, 8, 8, 8, 8, 8, 8, 8, 8, 8, 8, 8, 8, 8, 8, 8, 8, 8, 8, 8, 8, 8, 8, 8, 8, 8, 8, 8, 8, 8, 8, 8, 8, 8, 8, 8, 8, 8, 8, 8, 8, 8, 8, 8, 8, 8, 8, 8, 8, 8, 8, 8, 8, 8, 8, 8, 8, 8, 8, 8, 8, 8]
theorem lenL_at : ∀ i : Fin 256, i.val = 0 ∨ (1 ≤ (lenL.getD i.val 0).toNat ∧ (lenL.getD i.val 0).toNat ≤ 8 ∧ 2 ^ ((lenL.getD i.val 0).toNat - 1) ≤ i.val ∧ i.val < 2 ^ (lenL.getD i.val 0).toNat) := by decide +kernel
theorem lenL_get (x : Nat) (h : x < 256) : (#[0, 1, 2, 2, 3, 3, 3, 3, 4, 4, 4, 4, 4, 4, 4, 4, 5, 5, 5, 5, 5, 5, 5, 5, 5, 5, 5, 5, 5, 5, 5, 5, 6, 6, 6, 6, 6, 6, 6, 6, 6, 6, 6, 6, 6, 6, 6, 6, 6, 6, 6, 6, 6, 6, 6, 6, 6, 6, 6, 6, 6, 6, 6, 6, 7, 7, 7, 7, 7, 7, 7, 7, 7, 7, 7, 7, 7, 7, 7, 7, 7, 7, 7, 7, 7, 7, 7, 7, 7, 7, 7, 7, 7, 7, 7, 7, 7, 7, 7, 7, 7, 7, 7, 7, 7, 7, 7, 7, 7, 7, 7, 7, 7, 7, 7, 7, 7, 7, 7, 7, 7, 7, 7, 7, 7, 7, 7, 7, 8, 8, 8, 8, 8, 8, 8, 8, 8, 8, 8, 8, 8, 8, 8, 8, 8, 8, 8, 8, 8, 8, 8, 8, 8, 8, 8, 8, 8, 8, 8, 8, 8, 8, 8, 8, 8, 8, 8, 8, 8, 8, 8, 8, 8, 8, 8, 8, 8, 8, 8, 8, 8, 8, 8, 8, 8, 8, 8, 8, 8, 8, 8, 8, 8, 8, 8, 8, 8, 8, 8, 8, 8, 8, 8, 8, 8, 8, 8, 8, 8, 8, 8, 8, 8, 8, 8, 8, 8, 8, 8, 8, 8, 8, 8, 8, 8, 8, 8, 8, 8, 8, 8, 8, 8, 8, 8, 8, 8, 8, 8, 8, 8, 8, 8, 8, 8, 8, 8, 8, 8, 8, 8, 8, 8, 8, 8, 8] : Array UInt8)[x]? = some (lenL.getD x 0) := by
  have e : (#[0, 1, 2, 2, 3, 3, 3, 3, 4, 4, 4, 4, 4, 4, 4, 4, 5, 5, 5, 5, 5, 5, 5, 5, 5, 5, 5, 5, 5, 5, 5, 5, 6, 6, 6, 6, 6, 6, 6, 6, 6, 6, 6, 6, 6, 6, 6, 6, 6, 6, 6, 6, 6, 6, 6, 6, 6, 6, 6, 6, 6, 6, 6, 6, 7, 7, 7, 7, 7, 7, 7, 7, 7, 7, 7, 7, 7, 7, 7, 7, 7, 7, 7, 7, 7, 7, 7, 7, 7, 7, 7, 7, 7, 7, 7, 7, 7, 7, 7, 7, 7, 7, 7, 7, 7, 7, 7, 7, 7, 7, 7, 7, 7, 7, 7, 7, 7, 7, 7, 7, 7, 7, 7, 7, 7, 7, 7, 7, 8, 8, 8, 8, 8, 8, 8, 8, 8, 8, 8, 8, 8, 8, 8, 8, 8, 8, 8, 8, 8, 8, 8, 8, 8, 8, 8, 8, 8, 8, 8, 8, 8, 8, 8, 8, 8, 8, 8, 8, 8, 8, 8, 8, 8, 8, 8, 8, 8, 8, 8, 8, 8, 8, 8, 8, 8, 8, 8, 8, 8, 8, 8, 8, 8, 8, 8, 8, 8, 8, 8, 8, 8, 8, 8, 8, 8, 8, 8, 8, 8, 8, 8, 8, 8, 8, 8, 8, 8, 8, 8, 8, 8, 8, 8, 8, 8, 8, 8, 8, 8, 8, 8, 8, 8, 8, 8, 8, 8, 8, 8, 8, 8, 8, 8, 8, 8, 8, 8, 8, 8, 8, 8, 8, 8, 8, 8, 8] : Array UInt8) = lenL.toArray := rfl
  rw [e, List.getElem?_toArray, List.getElem?_eq_getElem (by simpa [lenL] using h), List.getD_eq_getElem?_getD, List.getElem?_eq_getElem (by simpa [lenL] using h)]
  rfl
theorem wrap_u8 {x : Int} (h1 : 0 ≤ x) (h2 : x ≤ 255) : IntKind.u8.wrap x = x := by
  have e1 : (2 : Int) ^ IntKind.u8.bits = 256 := by decide
  have e3 : IntKind.u8.signed = false := rfl
  simp only [IntKind.wrap, e1, e3, Bool.false_and]
  simp
  omega
set_option maxHeartbeats 1000000 in
theorem len64_run (hS : S 49 = []) {x : Nat} (h1 : 1 ≤ x) (h2 : x < 18446744073709551616) : ∃ v m1, callw Tryd.prog TT S 49 [.int .u64 (x : Int)] m = some (v, m1) ∧ (∃ L : Nat, v = .int .i64 L ∧ 1 ≤ L ∧ L ≤ 64 ∧ 2 ^ (L - 1) ≤ x ∧ x < 2 ^ L) ∧ m1 = m := by
  refine fn_w 3 [4, 8, 14] k49 hS rfl ?_
  -- the last step
  have fin : ∀ (y n : Nat), 1 ≤ y → y < 256 → n ≤ 56 → x / 2 ^ n = y → ∃ k : Nat, (lenL[y]?.getD 0).toNat = k ∧ k ≤ 8 ∧ 1 ≤ n + k ∧ n + k ≤ 64 ∧ 2 ^ (n + k - 1) ≤ x ∧ x < 2 ^ (n + k) := by
    intro y n hy hy2 hn hxy
    rcases lenL_at ⟨y, hy2⟩ with h | ⟨g1, g2, g3, g4⟩
    · simp at h; omega
    · simp only at g1 g2 g3 g4
      obtain ⟨k, hk⟩ : ∃ k, (lenL.getD y 0).toNat = k := ⟨_, rfl⟩
      rw [hk] at g1 g2 g3 g4
      refine ⟨k, by rw [← hk, List.getD_eq_getElem?_getD], g2, by omega, by omega, ?_, ?_⟩
      · have e : 2 ^ (n + k - 1) = 2 ^ n * 2 ^ (k - 1) := by rw [← Nat.pow_add]; congr 1; omega
        rw [e]
        have := Nat.div_mul_le_self x (2 ^ n)
        rw [hxy] at this
        calc 2 ^ n * 2 ^ (k - 1) ≤ 2 ^ n * y := Nat.mul_le_mul_left _ g3
          _ = y * 2 ^ n := Nat.mul_comm ..
          _ ≤ x := this
      · rw [Nat.pow_add]
        have h3 : x < 2 ^ n * (y + 1) := by
          have := Nat.lt_mul_div_succ x (Nat.two_pow_pos n)
          rwa [hxy] at this
        calc x < 2 ^ n * (y + 1) := h3
          _ ≤ 2 ^ n * 2 ^ k := Nat.mul_le_mul_left _ g4
  by_cases a : 4294967296 ≤ x
  · have a' : (4294967296 : Int) ≤ x := by omega
    obtain ⟨y0, hy0⟩ : ∃ z, x / 4294967296 = z := ⟨_, rfl⟩
    by_cases b : 65536 ≤ y0
    · have b' : (65536 : Int) ≤ y0 := by omega
      obtain ⟨y0q, hy0q⟩ : ∃ z, y0 / 65536 = z := ⟨_, rfl⟩
      by_cases c : 256 ≤ y0q
      · have c' : (256 : Int) ≤ y0q := by omega
        obtain ⟨y0qq, hy0qq⟩ : ∃ z, y0q / 256 = z := ⟨_, rfl⟩
        obtain ⟨k, hk, k8, r1, r2, r3, r4⟩ := fin y0qq 56 (by omega) (by omega) (by omega) (by omega)
        have q := wrap_u8 (x := (y0qq : Int)) (by omega) (by omega)
        have q2 : (y0qq : Int) ≤ 9223372036854775807 := by omega
        simp [-Int.natCast_add, -BitVec.toNat_or, -BitVec.toNat_ofInt, -BitVec.toNat_and, conv_i u65 u5, index_str u9, conv_i u5 u3, a, a', hy0, b, b', hy0q, c, c', hy0qq, s32, s16, s8, q, q2, lenL_get y0qq (by omega), hk]
        exact ⟨56 + k, by simp (disch := omega) only [wrap_i64]; omega, r1, r2, r3, r4⟩
      · have c' : ¬ (256 : Int) ≤ y0q := by omega
        obtain ⟨k, hk, k8, r1, r2, r3, r4⟩ := fin y0q 48 (by omega) (by omega) (by omega) (by omega)
        have q := wrap_u8 (x := (y0q : Int)) (by omega) (by omega)
        have q2 : (y0q : Int) ≤ 9223372036854775807 := by omega
        simp [-Int.natCast_add, -BitVec.toNat_or, -BitVec.toNat_ofInt, -BitVec.toNat_and, conv_i u65 u5, index_str u9, conv_i u5 u3, a, a', hy0, b, b', hy0q, c, c', s32, s16, s8, q, q2, lenL_get y0q (by omega), hk]
        exact ⟨48 + k, by simp (disch := omega) only [wrap_i64]; omega, r1, r2, r3, r4⟩
    · have b' : ¬ (65536 : Int) ≤ y0 := by omega
      by_cases c : 256 ≤ y0
      · have c' : (256 : Int) ≤ y0 := by omega
        obtain ⟨y0q, hy0q⟩ : ∃ z, y0 / 256 = z := ⟨_, rfl⟩
        obtain ⟨k, hk, k8, r1, r2, r3, r4⟩ := fin y0q 40 (by omega) (by omega) (by omega) (by omega)
        have q := wrap_u8 (x := (y0q : Int)) (by omega) (by omega)
        have q2 : (y0q : Int) ≤ 9223372036854775807 := by omega
        simp [-Int.natCast_add, -BitVec.toNat_or, -BitVec.toNat_ofInt, -BitVec.toNat_and, conv_i u65 u5, index_str u9, conv_i u5 u3, a, a', hy0, b, b', c, c', hy0q, s32, s16, s8, q, q2, lenL_get y0q (by omega), hk]
        exact ⟨40 + k, by simp (disch := omega) only [wrap_i64]; omega, r1, r2, r3, r4⟩
      · have c' : ¬ (256 : Int) ≤ y0 := by omega
        obtain ⟨k, hk, k8, r1, r2, r3, r4⟩ := fin y0 32 (by omega) (by omega) (by omega) (by omega)
        have q := wrap_u8 (x := (y0 : Int)) (by omega) (by omega)
        have q2 : (y0 : Int) ≤ 9223372036854775807 := by omega
        simp [-Int.natCast_add, -BitVec.toNat_or, -BitVec.toNat_ofInt, -BitVec.toNat_and, conv_i u65 u5, index_str u9, conv_i u5 u3, a, a', hy0, b, b', c, c', s32, s16, s8, q, q2, lenL_get y0 (by omega), hk]
        exact ⟨32 + k, by simp (disch := omega) only [wrap_i64]; omega, r1, r2, r3, r4⟩
  · have a' : ¬ (4294967296 : Int) ≤ x := by omega
    by_cases b : 65536 ≤ x
    · have b' : (65536 : Int) ≤ x := by omega
      obtain ⟨y1, hy1⟩ : ∃ z, x / 65536 = z := ⟨_, rfl⟩
      by_cases c : 256 ≤ y1
      · have c' : (256 : Int) ≤ y1 := by omega
        obtain ⟨y1q, hy1q⟩ : ∃ z, y1 / 256 = z := ⟨_, rfl⟩
        obtain ⟨k, hk, k8, r1, r2, r3, r4⟩ := fin y1q 24 (by omega) (by omega) (by omega) (by omega)
        have q := wrap_u8 (x := (y1q : Int)) (by omega) (by omega)
        have q2 : (y1q : Int) ≤ 9223372036854775807 := by omega
        simp [-Int.natCast_add, -BitVec.toNat_or, -BitVec.toNat_ofInt, -BitVec.toNat_and, conv_i u65 u5, index_str u9, conv_i u5 u3, a, a', b, b', hy1, c, c', hy1q, s32, s16, s8, q, q2, lenL_get y1q (by omega), hk]
        exact ⟨24 + k, by simp (disch := omega) only [wrap_i64]; omega, r1, r2, r3, r4⟩
      · have c' : ¬ (256 : Int) ≤ y1 := by omega
        obtain ⟨k, hk, k8, r1, r2, r3, r4⟩ := fin y1 16 (by omega) (by omega) (by omega) (by omega)
        have q := wrap_u8 (x := (y1 : Int)) (by omega) (by omega)
        have q2 : (y1 : Int) ≤ 9223372036854775807 := by omega
        simp [-Int.natCast_add, -BitVec.toNat_or, -BitVec.toNat_ofInt, -BitVec.toNat_and, conv_i u65 u5, index_str u9, conv_i u5 u3, a, a', b, b', hy1, c, c', s32, s16, s8, q, q2, lenL_get y1 (by omega), hk]
        exact ⟨16 + k, by simp (disch := omega) only [wrap_i64]; omega, r1, r2, r3, r4⟩
    · have b' : ¬ (65536 : Int) ≤ x := by omega
      by_cases c : 256 ≤ x
      · have c' : (256 : Int) ≤ x := by omega
        obtain ⟨y2, hy2⟩ : ∃ z, x / 256 = z := ⟨_, rfl⟩
        obtain ⟨k, hk, k8, r1, r2, r3, r4⟩ := fin y2 8 (by omega) (by omega) (by omega) (by omega)
        have q := wrap_u8 (x := (y2 : Int)) (by omega) (by omega)
        have q2 : (y2 : Int) ≤ 9223372036854775807 := by omega
        simp [-Int.natCast_add, -BitVec.toNat_or, -BitVec.toNat_ofInt, -BitVec.toNat_and, conv_i u65 u5, index_str u9, conv_i u5 u3, a, a', b, b', c, c', hy2, s32, s16, s8, q, q2, lenL_get y2 (by omega), hk]
        exact ⟨8 + k, by simp (disch := omega) only [wrap_i64]; omega, r1, r2, r3, r4⟩
      · have c' : ¬ (256 : Int) ≤ x := by omega
        obtain ⟨k, hk, k8, r1, r2, r3, r4⟩ := fin x 0 (by omega) (by omega) (by omega) (by omega)
        have q := wrap_u8 (x := (x : Int)) (by omega) (by omega)
        have q2 : (x : Int) ≤ 9223372036854775807 := by omega
        simp [-Int.natCast_add, -BitVec.toNat_or, -BitVec.toNat_ofInt, -BitVec.toNat_and, conv_i u65 u5, index_str u9, conv_i u5 u3, a, a', b, b', c, c', s32, s16, s8, q, q2, lenL_get x (by omega), hk]
        exact ⟨0 + k, by simp (disch := omega) only [wrap_i64]; omega, r1, r2, r3, r4⟩
theorem log_run (hS : S 48 = []) (L : Nat) (hL : L ≤ 64) : callw Tryd.prog TT S 48 [.int .i64 (L : Int)] m = some (.int .i64 ((L * 78913 / 262144 : Nat) : Int), m) := by
  refine fn_eq 3 [] k48 hS rfl ?_
  have e : IntKind.i64.wrap ((L : Int) * 78913) = ((L * 78913 : Nat) : Int) := by rw [wrap_i64 (by omega) (by omega)]; omega
  have e2 : Int.fdiv ((L * 78913 : Nat) : Int) (2 ^ min 18 IntKind.i64.bits) = ((L * 78913 / 262144 : Nat) : Int) := fdiv_nn _ 262144
  simp [-Int.natCast_add, -Int.natCast_mul, -Int.natCast_ediv, -BitVec.toNat_or, -BitVec.toNat_ofInt, -BitVec.toNat_and, id, e, e2]
theorem b2_run (hS : S 50 = []) (b : Bool) : callw Tryd.prog TT S 50 [.bool b] m = some (.int .i64 (if b = true then 1 else 0), m) := by
  refine fn_eq 3 [3] k50 hS rfl ?_
  cases b
  · simp [-BitVec.toNat_or, -BitVec.toNat_ofInt, -BitVec.toNat_and, id]
  · simp [-BitVec.toNat_or, -BitVec.toNat_ofInt, -BitVec.toNat_and, id]
/-- the powers of ten -/
def powL : List Nat := (List.range 20).map (10 ^ ·)
def powC : List Value := powL.map fun (n : Nat) => Value.int .u64 (n : Int)
/-- how many digits -/
def nd (u : Nat) : Nat := if u < 10 then 1 else if u < 100 then 2 else if u < 1000 then 3 else if u < 10000 then 4 else if u < 100000 then 5 else if u < 1000000 then 6 else if u < 10000000 then 7 else if u < 100000000 then 8 else if u < 1000000000 then 9 else if u < 10000000000 then 10 else if u < 100000000000 then 11 else if u < 1000000000000 then 12 else if u < 10000000000000 then 13 else if u < 100000000000000 then 14 else if u < 1000000000000000 then 15 else if u < 10000000000000000 then 16 else if u < 100000000000000000 then 17 else if u < 1000000000000000000 then 18 else if u < 10000000000000000000 then 19 else 20
theorem nd_of {u k : Nat} (h1 : 1 ≤ k) (h2 : k ≤ 20) (h3 : u = 0 ∧ k = 1 ∨ 10 ^ (k - 1) ≤ u) (h4 : u < 10 ^ k) : nd u = k := by
  have : k = 1 ∨ k = 2 ∨ k = 3 ∨ k = 4 ∨ k = 5 ∨ k = 6 ∨ k = 7 ∨ k = 8 ∨ k = 9 ∨ k = 10 ∨ k = 11 ∨ k = 12 ∨ k = 13 ∨ k = 14 ∨ k = 15 ∨ k = 16 ∨ k = 17 ∨ k = 18 ∨ k = 19 ∨ k = 20 := by omega
  unfold nd
  rcases this with rfl | rfl | rfl | rfl | rfl | rfl | rfl | rfl | rfl | rfl | rfl | rfl | rfl | rfl | rfl | rfl | rfl | rfl | rfl | rfl
  all_goals
    simp only [Nat.reducePow, Nat.reduceSub] at h3 h4
    repeat (first | rw [if_neg (by omega)] | rw [if_pos (by omega)])
theorem pow_le (L x : Nat) (h1 : 1 ≤ L) (h2 : L ≤ 64) (h3 : 2 ^ (L - 1) ≤ x) (h4 : x < 2 ^ L) : L * 78913 / 262144 < 20 ∧ nd x = L * 78913 / 262144 + (if 10 ^ (L * 78913 / 262144) ≤ x then 1 else 0) := by
  have hL : L * 78913 / 262144 < 20 := by omega
  refine ⟨hL, ?_⟩
  obtain ⟨p, hp⟩ : ∃ p, L * 78913 / 262144 = p := ⟨_, rfl⟩
  have key : ∀ i : Fin 64, (2 ^ (i.val + 1) ≤ 10 ^ ((i.val + 1) * 78913 / 262144 + 1)) ∧ ((i.val + 1) * 78913 / 262144 = 0 ∨ 10 ^ ((i.val + 1) * 78913 / 262144 - 1) ≤ 2 ^ i.val) := by decide +kernel
  obtain ⟨k1, k2⟩ := key ⟨L - 1, by omega⟩
  simp only [show L - 1 + 1 = L by omega] at k1 k2
  rw [hp] at k1 k2 hL ⊢
  split
  · rename_i h
    exact nd_of (by omega) (by omega) (Or.inr (by simpa using h)) (by omega)
  · rename_i h
    rcases Nat.eq_zero_or_pos p with h0 | h0
    · subst h0
      simp at h
      have := Nat.one_le_two_pow (n := L - 1)
      omega
    · rw [Nat.add_zero]
      exact nd_of (by omega) (by omega) (Or.inr (by rcases k2 with k2 | k2; omega; omega)) (by omega)
theorem digits_run (hS : S 40 = []) (h1 : S 49 = []) (h2 : S 48 = []) (h3 : S 50 = []) {e : TypeId} (hg : Rdo m 2 powC e 2) {x : Nat} (hx : 1 ≤ x) (hx2 : x < 18446744073709551616) :
    callw Tryd.prog TT S 40 [.int .u64 (x : Int)] m = some (.int .i64 (nd x : Int), m) := by
  obtain ⟨_, m1, hc, ⟨L, rfl, L1, L2, L3, L4⟩, hm1⟩ := len64_run (m := m) h1 hx hx2
  rw [hm1] at hc
  clear hm1
  obtain ⟨p1, p2⟩ := pow_le L x L1 L2 L3 L4
  have hl := fun m' => log_run (m := m') h2 L L2
  obtain ⟨p, hp⟩ : ∃ p, L * 78913 / 262144 = p := ⟨_, rfl⟩
  rw [hp] at p1 p2 hl
  have hb := fun m' b => b2_run (m := m') h3 b
  have ld : loadRow m ⟨2, p, none⟩ 1 = some [.int .u64 ((10 ^ p : Nat) : Int)] := by
    rw [hg.load (off := p) 1 (by simp [powC, powL]; omega)]
    simp only [window, powC, powL, ← List.map_drop, ← List.map_take, List.map_map]
    have : ((List.range 20).drop p).take 1 = [p] := by
      rw [List.drop_eq_getElem_cons (by simpa using p1)]
      simp
    rw [this]
    rfl
  refine fn_eq 4 [] k40 hS rfl ?_
  have pm : (p : Int) ≤ 9223372036854775807 := by omega
  obtain ⟨t, ht⟩ : ∃ t : Nat, 10 ^ p = t := ⟨_, rfl⟩
  rw [ht] at ld p2
  rw [p2]
  by_cases h : t ≤ x
  · have h' : (t : Int) ≤ x := by omega
    have w : IntKind.i64.wrap ((p : Int) + 1) = ((p + 1 : Nat) : Int) := by rw [wrap_i64 (by omega) (by omega)]; omega
    rw [if_pos h]
    simp [-Int.natCast_add, -BitVec.toNat_or, -BitVec.toNat_ofInt, -BitVec.toNat_and, indexAddr_arr u72 sz65, load_of ld65, hc, hl, hb, ld, pm, p1, h', w]
  · have h' : ¬ (t : Int) ≤ x := by omega
    have w : IntKind.i64.wrap (p : Int) = (p : Int) := by rw [wrap_i64 (by omega) (by omega)]
    rw [if_neg h]
    simp [-Int.natCast_add, -BitVec.toNat_or, -BitVec.toNat_ofInt, -BitVec.toNat_and, indexAddr_arr u72 sz65, load_of ld65, hc, hl, hb, ld, pm, p1, h', w]
end Go.Proofs.YtbhnojbkinbomaaDoor.base

