/-
  This text proves what Go's library prints of a number.
  Condition: nothing is known of the calls ahead ('S f = []'); the table of powers of ten is laid.
-/
import Derived.Test.YtbhnojbkinbomaaDoorFmtA
set_option maxRecDepth 100000
set_option linter.unusedSimpArgs false
set_option linter.unusedVariables false
namespace Go.Proofs.YtbhnojbkinbomaaDoor.base
open Go.Sh gen
variable {S : Sums} {m : Mem}
def dgt (k : Nat) : UInt8 := UInt8.ofNat (48 + k)
/-- so many digits -/
def fw : Nat → Nat → List UInt8
  | 0, _ => []
  | w + 1, u => fw w (u / 10) ++ [dgt (u % 10)]
theorem fw_len : ∀ (w u : Nat), (fw w u).length = w
  | 0, _ => rfl
  | w + 1, u => by simp [fw, fw_len w]
theorem fw_two (w u : Nat) : fw (w + 2) u = fw w (u / 100) ++ [dgt (u / 10 % 10), dgt (u % 10)] := by
  simp only [fw, List.append_assoc, List.cons_append, List.nil_append, Nat.div_div_eq_div_mul]
def bytC (l : List UInt8) : List Value := l.map fun b => Value.int .u8 b.toNat
theorem bytC_len (l : List UInt8) : (bytC l).length = l.length := by simp [bytC]
theorem dgt_nat {k : Nat} (h : k < 10) : (dgt k).toNat = 48 + k := by
  unfold dgt
  rw [UInt8.toNat_ofNat']
  omega
/-- a store just ahead of what has been written -/
theorem over_tail {cells : List Value} {p : Nat} {R : List Value} {v : Value} (h : p < cells.length) : over (cells.take (p + 1) ++ R) p [v] = cells.take p ++ v :: R := by
  have e : cells.take (p + 1) = cells.take p ++ [cells[p]] := List.take_succ_eq_append_getElem h
  obtain ⟨A, hA⟩ : ∃ A, cells.take p = A := ⟨_, rfl⟩
  have hl : p = A.length := by rw [← hA, List.length_take]; omega
  obtain ⟨x, hx⟩ : ∃ x, cells[p] = x := ⟨_, rfl⟩
  rw [hA, hx] at e
  rw [e, hA, hl]
  simp [over]
def smL : List UInt8 := (List.range 100).flatMap fun r => [dgt (r / 10), dgt (r % 10)]
theorem smL_at (r : Nat) (h : r < 100) : smL[2 * r]? = some (dgt (r / 10)) ∧ smL[2 * r + 1]? = some (dgt (r % 10)) := by
  have : ∀ r : Fin 100, smL[2 * r.val]? = some (dgt (r.val / 10)) ∧ smL[2 * r.val + 1]? = some (dgt (r.val % 10)) := by decide +kernel
  exact this ⟨r, h⟩
theorem smL_lit : (#[48, 48, 48, 49, 48, 50, 48, 51, 48, 52, 48, 53, 48, 54, 48, 55, 48, 56, 48, 57, 49, 48, 49, 49, 49, 50, 49, 51, 49, 52, 49, 53, 49, 54, 49, 55, 49, 56, 49, 57, 50, 48, 50, 49, 50, 50, 50, 51, 50, 52, 50, 53, 50, 54, 50, 55, 50, 56, 50, 57, 51, 48, 51, 49, 51, 50, 51, 51, 51, 52, 51, 53, 51, 54, 51, 55, 51, 56, 51, 57, 52, 48, 52, 49, 52, 50, 52, 51, 52, 52, 52, 53, 52, 54, 52, 55, 52, 56, 52, 57, 53, 48, 53, 49, 53, 50, 53, 51, 53, 52, 53, 53, 53, 54, 53, 55, 53, 56, 53, 57, 54, 48, 54, 49, 54, 50, 54, 51, 54, 52, 54, 53, 54, 54, 54, 55, 54, 56, 54, 57, 55, 48, 55, 49, 55, 50, 55, 51, 55, 52, 55, 53, 55, 54, 55, 55, 55, 56, 55, 57, 56, 48, 56, 49, 56, 50, 56, 51, 56, 52, 56, 53, 56, 54, 56, 55, 56, 56, 56, 57, 57, 48, 57, 49, 57, 50, 57, 51, 57, 52, 57, 53, 57, 54, 57, 55, 57, 56, 57, 57] : Array UInt8) = smL.toArray := by decide +kernel
theorem sm_get (r : Nat) (h : r < 100) : (#[48, 48, 48, 49, 48, 50, 48, 51, 48, 52, 48, 53, 48, 54, 48, 55, 48, 56, 48, 57, 49, 48, 49, 49, 49, 50, 49, 51, 49, 52, 49, 53, 49, 54, 49, 55, 49, 56, 49, 57, 50, 48, 50, 49, 50, 50, 50, 51, 50, 52, 50, 53, 50, 54, 50, 55, 50, 56, 50, 57, 51, 48, 51, 49, 51, 50, 51, 51, 51, 52, 51, 53, 51, 54, 51, 55, 51, 56, 51, 57, 52, 48, 52, 49, 52, 50, 52, 51, 52, 52, 52, 53, 52, 54, 52, 55, 52, 56, 52, 57, 53, 48, 53, 49, 53, 50, 53, 51, 53, 52, 53, 53, 53, 54, 53, 55, 53, 56, 53, 57, 54, 48, 54, 49, 54, 50, 54, 51, 54, 52, 54, 53, 54, 54, 54, 55, 54, 56, 54, 57, 55, 48, 55, 49, 55, 50, 55, 51, 55, 52, 55, 53, 55, 54, 55, 55, 55, 56, 55, 57, 56, 48, 56, 49, 56, 50, 56, 51, 56, 52, 56, 53, 56, 54, 56, 55, 56, 56, 56, 57, 57, 48, 57, 49, 57, 50, 57, 51, 57, 52, 57, 53, 57, 54, 57, 55, 57, 56, 57, 57] : Array UInt8)[2 * r]? = some (dgt (r / 10)) ∧ (#[48, 48, 48, 49, 48, 50, 48, 51, 48, 52, 48, 53, 48, 54, 48, 55, 48, 56, 48, 57, 49, 48, 49, 49, 49, 50, 49, 51, 49, 52, 49, 53, 49, 54, 49, 55, 49, 56, 49, 57, 50, 48, 50, 49, 50, 50, 50, 51, 50, 52, 50, 53, 50, 54, 50, 55, 50, 56, 50, 57, 51, 48, 51, 49, 51, 50, 51, 51, 51, 52, 51, 53, 51, 54, 51, 55, 51, 56, 51, 57, 52, 48, 52, 49, 52, 50, 52, 51, 52, 52, 52, 53, 52, 54, 52, 55, 52, 56, 52, 57, 53, 48, 53, 49, 53, 50, 53, 51, 53, 52, 53, 53, 53, 54, 53, 55, 53, 56, 53, 57, 54, 48, 54, 49, 54, 50, 54, 51, 54, 52, 54, 53, 54, 54, 54, 55, 54, 56, 54, 57, 55, 48, 55, 49, 55, 50, 55, 51, 55, 52, 55, 53, 55, 54, 55, 55, 55, 56, 55, 57, 56, 48, 56, 49, 56, 50, 56, 51, 56, 52, 56, 53, 56, 54, 56, 55, 56, 56, 56, 57, 57, 48, 57, 49, 57, 50, 57, 51, 57, 52, 57, 53, 57, 54, 57, 55, 57, 56, 57, 57] : Array UInt8)[2 * r + 1]? = some (dgt (r % 10)) := by
  rw [smL_lit, List.getElem?_toArray, List.getElem?_toArray]
  exact smL_at r h
theorem sm_getl (r : Nat) (h : r < 100) : ([48, 48, 48, 49, 48, 50, 48, 51, 48, 52, 48, 53, 48, 54, 48, 55, 48, 56, 48, 57, 49, 48, 49, 49, 49, 50, 49, 51, 49, 52, 49, 53, 49, 54, 49, 55, 49, 56, 49, 57, 50, 48, 50, 49, 50, 50, 50, 51, 50, 52, 50, 53, 50, 54, 50, 55, 50, 56, 50, 57, 51, 48, 51, 49, 51, 50, 51, 51, 51, 52, 51, 53, 51, 54, 51, 55, 51, 56, 51, 57, 52, 48, 52, 49, 52, 50, 52, 51, 52, 52, 52, 53, 52, 54, 52, 55, 52, 56, 52, 57, 53, 48, 53, 49, 53, 50, 53, 51, 53, 52, 53, 53, 53, 54, 53, 55, 53, 56, 53, 57, 54, 48, 54, 49, 54, 50, 54, 51, 54, 52, 54, 53, 54, 54, 54, 55, 54, 56, 54, 57, 55, 48, 55, 49, 55, 50, 55, 51, 55, 52, 55, 53, 55, 54, 55, 55, 55, 56, 55, 57, 56, 48, 56, 49, 56, 50, 56, 51, 56, 52, 56, 53, 56, 54, 56, 55, 56, 56, 56, 57, 57, 48, 57, 49, 57, 50, 57, 51, 57, 52, 57, 53, 57, 54, 57, 55, 57, 56, 57, 57] : List UInt8)[2 * r]? = some (dgt (r / 10)) ∧ ([48, 48, 48, 49, 48, 50, 48, 51, 48, 52, 48, 53, 48, 54, 48, 55, 48, 56, 48, 57, 49, 48, 49, 49, 49, 50, 49, 51, 49, 52, 49, 53, 49, 54, 49, 55, 49, 56, 49, 57, 50, 48, 50, 49, 50, 50, 50, 51, 50, 52, 50, 53, 50, 54, 50, 55, 50, 56, 50, 57, 51, 48, 51, 49, 51, 50, 51, 51, 51, 52, 51, 53, 51, 54, 51, 55, 51, 56, 51, 57, 52, 48, 52, 49, 52, 50, 52, 51, 52, 52, 52, 53, 52, 54, 52, 55, 52, 56, 52, 57, 53, 48, 53, 49, 53, 50, 53, 51, 53, 52, 53, 53, 53, 54, 53, 55, 53, 56, 53, 57, 54, 48, 54, 49, 54, 50, 54, 51, 54, 52, 54, 53, 54, 54, 54, 55, 54, 56, 54, 57, 55, 48, 55, 49, 55, 50, 55, 51, 55, 52, 55, 53, 55, 54, 55, 55, 55, 56, 55, 57, 56, 48, 56, 49, 56, 50, 56, 51, 56, 52, 56, 53, 56, 54, 56, 55, 56, 56, 56, 57, 57, 48, 57, 49, 57, 50, 57, 51, 57, 52, 57, 53, 57, 54, 57, 55, 57, 56, 57, 57] : List UInt8)[2 * r + 1]? = some (dgt (r % 10)) := by
  have h2 := sm_get r h
  simpa using h2
theorem tdiv_nn (x k : Nat) : Int.tdiv (x : Int) (k : Int) = ((x / k : Nat) : Int) := rfl
theorem tmod_nn (x k : Nat) : Int.tmod (x : Int) (k : Int) = ((x % k : Nat) : Int) := rfl
theorem wrap_u32 {x : Int} (h1 : 0 ≤ x) (h2 : x ≤ 4294967295) : IntKind.u32.wrap x = x := by
  have e1 : (2 : Int) ^ IntKind.u32.bits = 4294967296 := by decide
  have e3 : IntKind.u32.signed = false := rfl
  simp only [IntKind.wrap, e1, e3, Bool.false_and]
  simp
  omega
theorem put_digit {eb : TypeId} {ab fam o n n1 : Nat} {cells T : List Value} {R : List UInt8} {d : UInt8} {r : Option Mem} (hr : storeRow m ⟨ab, o + n1, none⟩ [.int .u8 (d.toNat : Int)] = r) (hO : Own m ab (cells.take (o + n) ++ (bytC R ++ T)) eb fam) (hn : n = n1 + 1) (hl : o + n ≤ cells.length) :
    ∃ m1, r = some m1 ∧ Own m1 ab (cells.take (o + n1) ++ (bytC (d :: R) ++ T)) eb fam ∧ Keeps m m1 [fam] := by
  subst hn
  rw [← Nat.add_assoc] at hO
  obtain ⟨m1, h1, h2, h3⟩ := store_own hr hO (by simp; omega) (by simp [one_int])
  rw [over_tail (by omega)] at h2
  exact ⟨m1, h1, h2, h3⟩
set_option maxHeartbeats 4000000 in
theorem base10_run {eb : TypeId} (hS : S 41 = []) {ab fam o w c : Nat} {cells : List Value} {u : Nat} (hO : Own m ab cells eb fam) (hw : o + w ≤ cells.length) (hc : cells.length ≤ 1000) (hu : u < 10 ^ w) (hu2 : u < 18446744073709551616) :
    ∃ v m1, callw Tryd.prog TT S 41 [.slice (some ⟨ab, o, none⟩) w c, .int .u64 (u : Int)] m = some (v, m1) ∧ Own m1 ab (cells.take o ++ bytC (fw w u) ++ cells.drop (o + w)) eb fam ∧ Keeps m m1 [fam] := by
  refine fn_w 17 [20, 99, 139, 161] k41 hS rfl ?_
  simp [-Int.natCast_add, -BitVec.toNat_or, -BitVec.toNat_ofInt, -BitVec.toNat_and, len_slice u43, conv_i u65 u73, index_str u9, index_slice u43 sz5, store_of sz5, conv_i u73 u5]
  have cell0 : cells = cells.take (o + w) ++ (bytC [] ++ cells.drop (o + w)) := by simp [bytC]
  refine wsem_loop 17 [20, 99, 139, 161] (fun d E mC => ∃ (n N : Nat) (R : List UInt8), n = d ∧ n ≤ w ∧ N < 10 ^ n ∧ N ≤ u ∧ fw w u = fw n N ++ R ∧ R.length = w - n ∧ Own mC ab (cells.take (o + n) ++ (bytC R ++ cells.drop (o + w))) eb fam ∧ Keeps m mC [fam] ∧
    E = [(0, .slice (some ⟨ab, o, none⟩) w c), (1, .int .u64 N), (4, .int .i64 n)]) _ ⟨_, ⟨w, u, [], rfl, by omega, hu, by omega, by simp, by simp, by rw [← cell0]; exact hO, .refl _ _, rfl⟩, ⟨by rfl, by rfl, by simp [lget], trivial⟩⟩ ?_
  rintro d E mC ih ⟨n, N, R, rfl, hn, hN, hNu, hfw, hR, oC, kC, rfl⟩
  by_cases h8 : 8 ≤ n
  · have h8' : (8 : Int) ≤ n := by omega
    obtain ⟨a, ha⟩ : ∃ a, N % 100000000 = a := ⟨_, rfl⟩
    obtain ⟨N2, hN2⟩ : ∃ a, N / 100000000 = a := ⟨_, rfl⟩
    obtain ⟨x32, hx32⟩ : ∃ x, a / 10000 = x := ⟨_, rfl⟩
    obtain ⟨x10, hx10⟩ : ∃ x, a % 10000 = x := ⟨_, rfl⟩
    obtain ⟨r0, hr0⟩ : ∃ r, a % 100 = r := ⟨_, rfl⟩
    obtain ⟨r1, hr1⟩ : ∃ r, x10 / 100 = r := ⟨_, rfl⟩
    obtain ⟨r2, hr2⟩ : ∃ r, x32 % 100 = r := ⟨_, rfl⟩
    obtain ⟨r3, hr3⟩ : ∃ r, x32 / 100 = r := ⟨_, rfl⟩
    have f0 : IntKind.u32.wrap (Int.tmod (N : Int) 100000000) = (a : Int) := by rw [show Int.tmod (N : Int) 100000000 = ((N % 100000000 : Nat) : Int) from rfl, ha]; exact wrap_u32 (by omega) (by omega)
    have f1 : IntKind.u64.wrap ((N : Int) / 100000000) = (N2 : Int) := by rw [wrap_u64 (by omega) (by omega)]; omega
    have f2 : IntKind.u32.wrap (Int.tdiv (a : Int) 10000) = (x32 : Int) := by rw [show Int.tdiv (a : Int) 10000 = ((a / 10000 : Nat) : Int) from rfl, hx32]; exact wrap_u32 (by omega) (by omega)
    have f2' : IntKind.u32.wrap ((a : Int) / 10000) = (x32 : Int) := by rw [wrap_u32 (by omega) (by omega)]; omega
    have f3 : Int.tmod (a : Int) 10000 = (x10 : Int) := by rw [show Int.tmod (a : Int) 10000 = ((a % 10000 : Nat) : Int) from rfl, hx10]
    have f4 : Int.tmod (a : Int) 100 = (r0 : Int) := by rw [show Int.tmod (a : Int) 100 = ((a % 100 : Nat) : Int) from rfl, hr0]
    have f4' : Int.tmod (x10 : Int) 100 = (r0 : Int) := by rw [show Int.tmod (x10 : Int) 100 = ((x10 % 100 : Nat) : Int) from rfl]; omega
    have f5 : IntKind.u32.wrap (Int.tdiv (x10 : Int) 100) = (r1 : Int) := by rw [show Int.tdiv (x10 : Int) 100 = ((x10 / 100 : Nat) : Int) from rfl, hr1]; exact wrap_u32 (by omega) (by omega)
    have f5' : IntKind.u32.wrap ((x10 : Int) / 100) = (r1 : Int) := by rw [wrap_u32 (by omega) (by omega)]; omega
    have f6 : Int.tmod (x32 : Int) 100 = (r2 : Int) := by rw [show Int.tmod (x32 : Int) 100 = ((x32 % 100 : Nat) : Int) from rfl, hr2]
    have f7 : IntKind.u32.wrap (Int.tdiv (x32 : Int) 100) = (r3 : Int) := by rw [show Int.tdiv (x32 : Int) 100 = ((x32 / 100 : Nat) : Int) from rfl, hr3]; exact wrap_u32 (by omega) (by omega)
    have f7' : IntKind.u32.wrap ((x32 : Int) / 100) = (r3 : Int) := by rw [wrap_u32 (by omega) (by omega)]; omega
    obtain ⟨q0, hq0⟩ : ∃ q, 2 * r0 = q := ⟨_, rfl⟩
    obtain ⟨e0, e0'⟩ := sm_get r0 (by omega)
    obtain ⟨l0, l0'⟩ := sm_getl r0 (by omega)
    rw [hq0] at e0 e0' l0 l0'
    have wq0 : IntKind.u32.wrap ((r0 : Int) * 2) = (q0 : Int) := by rw [wrap_u32 (by omega) (by omega)]; omega
    obtain ⟨z0, hz0⟩ : ∃ z, q0 + 1 = z := ⟨_, rfl⟩
    rw [hz0] at e0' l0'
    have wz0 : IntKind.u32.wrap ((q0 : Int) + 1) = (z0 : Int) := by rw [wrap_u32 (by omega) (by omega)]; omega
    have iq0 : (q0 : Int) ≤ 9223372036854775807 ∧ (z0 : Int) ≤ 9223372036854775807 := by omega
    have da0 := dgt_nat (k := r0 / 10) (by omega)
    have db0 := dgt_nat (k := r0 % 10) (by omega)
    obtain ⟨q1, hq1⟩ : ∃ q, 2 * r1 = q := ⟨_, rfl⟩
    obtain ⟨e1, e1'⟩ := sm_get r1 (by omega)
    obtain ⟨l1, l1'⟩ := sm_getl r1 (by omega)
    rw [hq1] at e1 e1' l1 l1'
    have wq1 : IntKind.u32.wrap ((r1 : Int) * 2) = (q1 : Int) := by rw [wrap_u32 (by omega) (by omega)]; omega
    obtain ⟨z1, hz1⟩ : ∃ z, q1 + 1 = z := ⟨_, rfl⟩
    rw [hz1] at e1' l1'
    have wz1 : IntKind.u32.wrap ((q1 : Int) + 1) = (z1 : Int) := by rw [wrap_u32 (by omega) (by omega)]; omega
    have iq1 : (q1 : Int) ≤ 9223372036854775807 ∧ (z1 : Int) ≤ 9223372036854775807 := by omega
    have da1 := dgt_nat (k := r1 / 10) (by omega)
    have db1 := dgt_nat (k := r1 % 10) (by omega)
    obtain ⟨q2, hq2⟩ : ∃ q, 2 * r2 = q := ⟨_, rfl⟩
    obtain ⟨e2, e2'⟩ := sm_get r2 (by omega)
    obtain ⟨l2, l2'⟩ := sm_getl r2 (by omega)
    rw [hq2] at e2 e2' l2 l2'
    have wq2 : IntKind.u32.wrap ((r2 : Int) * 2) = (q2 : Int) := by rw [wrap_u32 (by omega) (by omega)]; omega
    obtain ⟨z2, hz2⟩ : ∃ z, q2 + 1 = z := ⟨_, rfl⟩
    rw [hz2] at e2' l2'
    have wz2 : IntKind.u32.wrap ((q2 : Int) + 1) = (z2 : Int) := by rw [wrap_u32 (by omega) (by omega)]; omega
    have iq2 : (q2 : Int) ≤ 9223372036854775807 ∧ (z2 : Int) ≤ 9223372036854775807 := by omega
    have da2 := dgt_nat (k := r2 / 10) (by omega)
    have db2 := dgt_nat (k := r2 % 10) (by omega)
    obtain ⟨q3, hq3⟩ : ∃ q, 2 * r3 = q := ⟨_, rfl⟩
    obtain ⟨e3, e3'⟩ := sm_get r3 (by omega)
    obtain ⟨l3, l3'⟩ := sm_getl r3 (by omega)
    rw [hq3] at e3 e3' l3 l3'
    have wq3 : IntKind.u32.wrap ((r3 : Int) * 2) = (q3 : Int) := by rw [wrap_u32 (by omega) (by omega)]; omega
    obtain ⟨z3, hz3⟩ : ∃ z, q3 + 1 = z := ⟨_, rfl⟩
    rw [hz3] at e3' l3'
    have wz3 : IntKind.u32.wrap ((q3 : Int) + 1) = (z3 : Int) := by rw [wrap_u32 (by omega) (by omega)]; omega
    have iq3 : (q3 : Int) ≤ 9223372036854775807 ∧ (z3 : Int) ≤ 9223372036854775807 := by omega
    have da3 := dgt_nat (k := r3 / 10) (by omega)
    have db3 := dgt_nat (k := r3 % 10) (by omega)
    obtain ⟨n1, hn1⟩ : ∃ z, n - 1 = z := ⟨_, rfl⟩
    have wn1 : IntKind.i64.wrap ((n : Int) - 1) = (n1 : Int) := by rw [wrap_i64 (by omega) (by omega)]; omega
    have in1 : (n1 : Int) ≤ 9223372036854775807 ∧ n1 < w ∧ (n1 : Int) < w := by omega
    obtain ⟨n2, hn2⟩ : ∃ z, n - 2 = z := ⟨_, rfl⟩
    have wn2 : IntKind.i64.wrap ((n : Int) - 2) = (n2 : Int) := by rw [wrap_i64 (by omega) (by omega)]; omega
    have in2 : (n2 : Int) ≤ 9223372036854775807 ∧ n2 < w ∧ (n2 : Int) < w := by omega
    obtain ⟨n3, hn3⟩ : ∃ z, n - 3 = z := ⟨_, rfl⟩
    have wn3 : IntKind.i64.wrap ((n : Int) - 3) = (n3 : Int) := by rw [wrap_i64 (by omega) (by omega)]; omega
    have in3 : (n3 : Int) ≤ 9223372036854775807 ∧ n3 < w ∧ (n3 : Int) < w := by omega
    obtain ⟨n4, hn4⟩ : ∃ z, n - 4 = z := ⟨_, rfl⟩
    have wn4 : IntKind.i64.wrap ((n : Int) - 4) = (n4 : Int) := by rw [wrap_i64 (by omega) (by omega)]; omega
    have in4 : (n4 : Int) ≤ 9223372036854775807 ∧ n4 < w ∧ (n4 : Int) < w := by omega
    obtain ⟨n5, hn5⟩ : ∃ z, n - 5 = z := ⟨_, rfl⟩
    have wn5 : IntKind.i64.wrap ((n : Int) - 5) = (n5 : Int) := by rw [wrap_i64 (by omega) (by omega)]; omega
    have in5 : (n5 : Int) ≤ 9223372036854775807 ∧ n5 < w ∧ (n5 : Int) < w := by omega
    obtain ⟨n6, hn6⟩ : ∃ z, n - 6 = z := ⟨_, rfl⟩
    have wn6 : IntKind.i64.wrap ((n : Int) - 6) = (n6 : Int) := by rw [wrap_i64 (by omega) (by omega)]; omega
    have in6 : (n6 : Int) ≤ 9223372036854775807 ∧ n6 < w ∧ (n6 : Int) < w := by omega
    obtain ⟨n7, hn7⟩ : ∃ z, n - 7 = z := ⟨_, rfl⟩
    have wn7 : IntKind.i64.wrap ((n : Int) - 7) = (n7 : Int) := by rw [wrap_i64 (by omega) (by omega)]; omega
    have in7 : (n7 : Int) ≤ 9223372036854775807 ∧ n7 < w ∧ (n7 : Int) < w := by omega
    obtain ⟨n8, hn8⟩ : ∃ z, n - 8 = z := ⟨_, rfl⟩
    have wn8 : IntKind.i64.wrap ((n : Int) - 8) = (n8 : Int) := by rw [wrap_i64 (by omega) (by omega)]; omega
    have in8 : (n8 : Int) ≤ 9223372036854775807 ∧ n8 < w ∧ (n8 : Int) < w := by omega
    simp [-Int.natCast_add, -w41_7, -BitVec.toNat_or, -BitVec.toNat_ofInt, -BitVec.toNat_and, len_slice u43, conv_i u65 u73, index_str u9, index_slice u43 sz5, store_of sz5, conv_i u73 u5, h8', f0, f1, f2, f2', f3, f4, f4', f5, f5', f6, f7, f7', wq0, wq1, wq2, wq3]
    simp [-Int.natCast_add, -w41_8, -BitVec.toNat_or, -BitVec.toNat_ofInt, -BitVec.toNat_and, len_slice u43, conv_i u65 u73, index_str u9, index_slice u43 sz5, store_of sz5, conv_i u73 u5, wz0, iq0, e0, e0', l0, l0', wn1, in1, wn2, in2]
    generalize hs1 : storeRow _ _ _ = ra
    obtain ⟨mA1, rfl, oA1, kA1⟩ := put_digit hs1 oC (n1 := n1) (by omega) (by omega)
    simp [-Int.natCast_add, -w41_8, -BitVec.toNat_or, -BitVec.toNat_ofInt, -BitVec.toNat_and, len_slice u43, conv_i u65 u73, index_str u9, index_slice u43 sz5, store_of sz5, conv_i u73 u5, wz0, iq0, e0, e0', l0, l0', wn1, in1, wn2, in2]
    generalize hs2 : storeRow _ _ _ = ra
    obtain ⟨mA2, rfl, oA2, kA2⟩ := put_digit hs2 oA1 (n1 := n2) (by omega) (by omega)
    simp [-Int.natCast_add, -w41_8, -BitVec.toNat_or, -BitVec.toNat_ofInt, -BitVec.toNat_and, len_slice u43, conv_i u65 u73, index_str u9, index_slice u43 sz5, store_of sz5, conv_i u73 u5, wz0, iq0, e0, e0', l0, l0', wn1, in1, wn2, in2]
    simp [-Int.natCast_add, -w41_9, -BitVec.toNat_or, -BitVec.toNat_ofInt, -BitVec.toNat_and, len_slice u43, conv_i u65 u73, index_str u9, index_slice u43 sz5, store_of sz5, conv_i u73 u5, wz1, iq1, e1, e1', l1, l1', wn3, in3, wn4, in4]
    generalize hs3 : storeRow _ _ _ = ra
    obtain ⟨mA3, rfl, oA3, kA3⟩ := put_digit hs3 oA2 (n1 := n3) (by omega) (by omega)
    simp [-Int.natCast_add, -w41_9, -BitVec.toNat_or, -BitVec.toNat_ofInt, -BitVec.toNat_and, len_slice u43, conv_i u65 u73, index_str u9, index_slice u43 sz5, store_of sz5, conv_i u73 u5, wz1, iq1, e1, e1', l1, l1', wn3, in3, wn4, in4]
    generalize hs4 : storeRow _ _ _ = ra
    obtain ⟨mA4, rfl, oA4, kA4⟩ := put_digit hs4 oA3 (n1 := n4) (by omega) (by omega)
    simp [-Int.natCast_add, -w41_9, -BitVec.toNat_or, -BitVec.toNat_ofInt, -BitVec.toNat_and, len_slice u43, conv_i u65 u73, index_str u9, index_slice u43 sz5, store_of sz5, conv_i u73 u5, wz1, iq1, e1, e1', l1, l1', wn3, in3, wn4, in4]
    simp [-Int.natCast_add, -w41_10, -BitVec.toNat_or, -BitVec.toNat_ofInt, -BitVec.toNat_and, len_slice u43, conv_i u65 u73, index_str u9, index_slice u43 sz5, store_of sz5, conv_i u73 u5, wz2, iq2, e2, e2', l2, l2', wn5, in5, wn6, in6]
    generalize hs5 : storeRow _ _ _ = ra
    obtain ⟨mA5, rfl, oA5, kA5⟩ := put_digit hs5 oA4 (n1 := n5) (by omega) (by omega)
    simp [-Int.natCast_add, -w41_10, -BitVec.toNat_or, -BitVec.toNat_ofInt, -BitVec.toNat_and, len_slice u43, conv_i u65 u73, index_str u9, index_slice u43 sz5, store_of sz5, conv_i u73 u5, wz2, iq2, e2, e2', l2, l2', wn5, in5, wn6, in6]
    generalize hs6 : storeRow _ _ _ = ra
    obtain ⟨mA6, rfl, oA6, kA6⟩ := put_digit hs6 oA5 (n1 := n6) (by omega) (by omega)
    simp [-Int.natCast_add, -w41_10, -BitVec.toNat_or, -BitVec.toNat_ofInt, -BitVec.toNat_and, len_slice u43, conv_i u65 u73, index_str u9, index_slice u43 sz5, store_of sz5, conv_i u73 u5, wz2, iq2, e2, e2', l2, l2', wn5, in5, wn6, in6]
    simp [-Int.natCast_add, -w41_11, -BitVec.toNat_or, -BitVec.toNat_ofInt, -BitVec.toNat_and, len_slice u43, conv_i u65 u73, index_str u9, index_slice u43 sz5, store_of sz5, conv_i u73 u5, wz3, iq3, e3, e3', l3, l3', wn7, in7, wn8, in8]
    generalize hs7 : storeRow _ _ _ = ra
    obtain ⟨mA7, rfl, oA7, kA7⟩ := put_digit hs7 oA6 (n1 := n7) (by omega) (by omega)
    simp [-Int.natCast_add, -w41_11, -BitVec.toNat_or, -BitVec.toNat_ofInt, -BitVec.toNat_and, len_slice u43, conv_i u65 u73, index_str u9, index_slice u43 sz5, store_of sz5, conv_i u73 u5, wz3, iq3, e3, e3', l3, l3', wn7, in7, wn8, in8]
    generalize hs8 : storeRow _ _ _ = ra
    obtain ⟨mA8, rfl, oA8, kA8⟩ := put_digit hs8 oA7 (n1 := n8) (by omega) (by omega)
    simp [-Int.natCast_add, -w41_11, -BitVec.toNat_or, -BitVec.toNat_ofInt, -BitVec.toNat_and, len_slice u43, conv_i u65 u73, index_str u9, index_slice u43 sz5, store_of sz5, conv_i u73 u5, wz3, iq3, e3, e3', l3, l3', wn7, in7, wn8, in8]
    simp [-Int.natCast_add, -BitVec.toNat_or, -BitVec.toNat_ofInt, -BitVec.toNat_and, len_slice u43, conv_i u65 u73, index_str u9, index_slice u43 sz5, store_of sz5, conv_i u73 u5, wn8]
    have e8 : fw n N = fw n8 N2 ++ [dgt (r3 / 10), dgt (r3 % 10), dgt (r2 / 10), dgt (r2 % 10), dgt (r1 / 10), dgt (r1 % 10), dgt (r0 / 10), dgt (r0 % 10)] := by
      rw [show n = n8 + 2 + 2 + 2 + 2 by omega, fw_two, fw_two, fw_two, fw_two]
      simp only [Nat.div_div_eq_div_mul, List.append_assoc, List.cons_append, List.nil_append, Nat.reduceMul]
      rw [hN2]
      congr 2
      · congr 1; omega
      · congr 1
        · congr 1; omega
        · congr 1
          · congr 1; omega
          · congr 1
            · congr 1; omega
            · congr 1
              · congr 1; omega
              · congr 1
                · congr 1; omega
                · congr 1
                  · congr 1; omega
                  · congr 1; congr 1; omega
    refine ih _ _ _ _ ⟨n8, N2, dgt (r3 / 10) :: dgt (r3 % 10) :: dgt (r2 / 10) :: dgt (r2 % 10) :: dgt (r1 / 10) :: dgt (r1 % 10) :: dgt (r0 / 10) :: dgt (r0 % 10) :: R, rfl, by omega, ?_, by omega, by rw [hfw, e8]; simp, by simp only [List.length_cons]; omega, oA8, ((((((((kC.trans kA1).trans kA2).trans kA3).trans kA4).trans kA5).trans kA6).trans kA7).trans kA8), rfl⟩ (by omega) ⟨by rfl, by rfl, by simp [lget], trivial⟩
    have : 10 ^ n = 10 ^ n8 * 100000000 := by rw [show n = n8 + 8 by omega, Nat.pow_add]
    omega
  · have h8' : ¬ (8 : Int) ≤ n := by omega
    have hN8 : N < 100000000 := by
      have : 10 ^ n ≤ 10 ^ 8 := Nat.pow_le_pow_right (by omega) (by omega)
      omega
    have f0 : IntKind.u32.wrap (N : Int) = (N : Int) := wrap_u32 (by omega) (by omega)
    apply cut3_ (fun (mX : Mem) (nX NX : Nat) => nX < 4 ∧ ∃ R, nX ≤ w ∧ NX < 10 ^ nX ∧ fw w u = fw nX NX ++ R ∧ R.length = w - nX ∧ Own mX ab (cells.take (o + nX) ++ (bytC R ++ cells.drop (o + w))) eb fam ∧ Keeps m mX [fam])
    case main =>
      by_cases h4 : 4 ≤ n
      · have h4' : (4 : Int) ≤ n := by omega
        obtain ⟨N2, hN2⟩ : ∃ a, N / 10000 = a := ⟨_, rfl⟩
        obtain ⟨x10, hx10⟩ : ∃ x, N % 10000 = x := ⟨_, rfl⟩
        obtain ⟨r0, hr0⟩ : ∃ r, x10 % 100 = r := ⟨_, rfl⟩
        obtain ⟨r1, hr1⟩ : ∃ r, x10 / 100 = r := ⟨_, rfl⟩
        have f1 : IntKind.u32.wrap ((N : Int) / 10000) = (N2 : Int) := by rw [wrap_u32 (by omega) (by omega)]; omega
        have f1' : IntKind.u32.wrap (Int.tdiv (N : Int) 10000) = (N2 : Int) := by rw [show Int.tdiv (N : Int) 10000 = ((N / 10000 : Nat) : Int) from rfl, hN2]; exact wrap_u32 (by omega) (by omega)
        have f3 : Int.tmod (N : Int) 10000 = (x10 : Int) := by rw [show Int.tmod (N : Int) 10000 = ((N % 10000 : Nat) : Int) from rfl, hx10]
        have f4 : Int.tmod (x10 : Int) 100 = (r0 : Int) := by rw [show Int.tmod (x10 : Int) 100 = ((x10 % 100 : Nat) : Int) from rfl, hr0]
        have f4' : Int.tmod (N : Int) 100 = (r0 : Int) := by rw [show Int.tmod (N : Int) 100 = ((N % 100 : Nat) : Int) from rfl]; omega
        have f5 : IntKind.u32.wrap (Int.tdiv (x10 : Int) 100) = (r1 : Int) := by rw [show Int.tdiv (x10 : Int) 100 = ((x10 / 100 : Nat) : Int) from rfl, hr1]; exact wrap_u32 (by omega) (by omega)
        have f5' : IntKind.u32.wrap ((x10 : Int) / 100) = (r1 : Int) := by rw [wrap_u32 (by omega) (by omega)]; omega
        obtain ⟨q0, hq0⟩ : ∃ q, 2 * r0 = q := ⟨_, rfl⟩
        obtain ⟨e0, e0'⟩ := sm_get r0 (by omega)
        obtain ⟨l0, l0'⟩ := sm_getl r0 (by omega)
        rw [hq0] at e0 e0' l0 l0'
        have wq0 : IntKind.u32.wrap ((r0 : Int) * 2) = (q0 : Int) := by rw [wrap_u32 (by omega) (by omega)]; omega
        obtain ⟨z0, hz0⟩ : ∃ z, q0 + 1 = z := ⟨_, rfl⟩
        rw [hz0] at e0' l0'
        have wz0 : IntKind.u32.wrap ((q0 : Int) + 1) = (z0 : Int) := by rw [wrap_u32 (by omega) (by omega)]; omega
        have iq0 : (q0 : Int) ≤ 9223372036854775807 ∧ (z0 : Int) ≤ 9223372036854775807 := by omega
        obtain ⟨q1, hq1⟩ : ∃ q, 2 * r1 = q := ⟨_, rfl⟩
        obtain ⟨e1, e1'⟩ := sm_get r1 (by omega)
        obtain ⟨l1, l1'⟩ := sm_getl r1 (by omega)
        rw [hq1] at e1 e1' l1 l1'
        have wq1 : IntKind.u32.wrap ((r1 : Int) * 2) = (q1 : Int) := by rw [wrap_u32 (by omega) (by omega)]; omega
        obtain ⟨z1, hz1⟩ : ∃ z, q1 + 1 = z := ⟨_, rfl⟩
        rw [hz1] at e1' l1'
        have wz1 : IntKind.u32.wrap ((q1 : Int) + 1) = (z1 : Int) := by rw [wrap_u32 (by omega) (by omega)]; omega
        have iq1 : (q1 : Int) ≤ 9223372036854775807 ∧ (z1 : Int) ≤ 9223372036854775807 := by omega
        obtain ⟨n1, hn1⟩ : ∃ z, n - 1 = z := ⟨_, rfl⟩
        have wn1 : IntKind.i64.wrap ((n : Int) - 1) = (n1 : Int) := by rw [wrap_i64 (by omega) (by omega)]; omega
        have in1 : (n1 : Int) ≤ 9223372036854775807 ∧ n1 < w ∧ (n1 : Int) < w := by omega
        obtain ⟨n2, hn2⟩ : ∃ z, n - 2 = z := ⟨_, rfl⟩
        have wn2 : IntKind.i64.wrap ((n : Int) - 2) = (n2 : Int) := by rw [wrap_i64 (by omega) (by omega)]; omega
        have in2 : (n2 : Int) ≤ 9223372036854775807 ∧ n2 < w ∧ (n2 : Int) < w := by omega
        obtain ⟨n3, hn3⟩ : ∃ z, n - 3 = z := ⟨_, rfl⟩
        have wn3 : IntKind.i64.wrap ((n : Int) - 3) = (n3 : Int) := by rw [wrap_i64 (by omega) (by omega)]; omega
        have in3 : (n3 : Int) ≤ 9223372036854775807 ∧ n3 < w ∧ (n3 : Int) < w := by omega
        obtain ⟨n4, hn4⟩ : ∃ z, n - 4 = z := ⟨_, rfl⟩
        have wn4 : IntKind.i64.wrap ((n : Int) - 4) = (n4 : Int) := by rw [wrap_i64 (by omega) (by omega)]; omega
        have in4 : (n4 : Int) ≤ 9223372036854775807 ∧ n4 < w ∧ (n4 : Int) < w := by omega
        have e4 : fw n N = fw n4 N2 ++ [dgt (r1 / 10), dgt (r1 % 10), dgt (r0 / 10), dgt (r0 % 10)] := by
          rw [show n = n4 + 2 + 2 by omega, fw_two, fw_two]
          simp only [Nat.div_div_eq_div_mul, List.append_assoc, List.cons_append, List.nil_append, Nat.reduceMul]
          rw [hN2]
          congr 2
          · congr 1; omega
          · congr 1
            · congr 1; omega
            · congr 1
              · congr 1; omega
              · congr 1; congr 1; omega
        have hp : 10 ^ n = 10 ^ n4 * 10000 := by rw [show n = n4 + 4 by omega, Nat.pow_add]
        have fin : fw w u = fw n4 N2 ++ (dgt (r1 / 10) :: dgt (r1 % 10) :: dgt (r0 / 10) :: dgt (r0 % 10) :: R) := by rw [hfw, e4]; simp
        intro meth
        simp [-Int.natCast_add, -w41_17, -BitVec.toNat_or, -BitVec.toNat_ofInt, -BitVec.toNat_and, len_slice u43, conv_i u65 u73, index_str u9, index_slice u43 sz5, store_of sz5, conv_i u73 u5, h8', h4', f0, f1, f1', f3, f4, f4', f5, f5', wq0, wq1]
        simp [-Int.natCast_add, -w41_18, -BitVec.toNat_or, -BitVec.toNat_ofInt, -BitVec.toNat_and, len_slice u43, conv_i u65 u73, index_str u9, index_slice u43 sz5, store_of sz5, conv_i u73 u5, wz0, iq0, e0, e0', l0, l0', wn1, in1, wn2, in2]
        generalize hs1 : storeRow _ _ _ = ra
        obtain ⟨mA1, rfl, oA1, kA1⟩ := put_digit hs1 oC (n1 := n1) (by omega) (by omega)
        simp [-Int.natCast_add, -w41_18, -BitVec.toNat_or, -BitVec.toNat_ofInt, -BitVec.toNat_and, len_slice u43, conv_i u65 u73, index_str u9, index_slice u43 sz5, store_of sz5, conv_i u73 u5, wz0, iq0, e0, e0', l0, l0', wn1, in1, wn2, in2]
        generalize hs2 : storeRow _ _ _ = ra
        obtain ⟨mA2, rfl, oA2, kA2⟩ := put_digit hs2 oA1 (n1 := n2) (by omega) (by omega)
        simp [-Int.natCast_add, -w41_18, -BitVec.toNat_or, -BitVec.toNat_ofInt, -BitVec.toNat_and, len_slice u43, conv_i u65 u73, index_str u9, index_slice u43 sz5, store_of sz5, conv_i u73 u5, wz0, iq0, e0, e0', l0, l0', wn1, in1, wn2, in2]
        simp [-Int.natCast_add, -w41_19, -BitVec.toNat_or, -BitVec.toNat_ofInt, -BitVec.toNat_and, len_slice u43, conv_i u65 u73, index_str u9, index_slice u43 sz5, store_of sz5, conv_i u73 u5, wz1, iq1, e1, e1', l1, l1', wn3, in3, wn4, in4]
        generalize hs3 : storeRow _ _ _ = ra
        obtain ⟨mA3, rfl, oA3, kA3⟩ := put_digit hs3 oA2 (n1 := n3) (by omega) (by omega)
        simp [-Int.natCast_add, -w41_19, -BitVec.toNat_or, -BitVec.toNat_ofInt, -BitVec.toNat_and, len_slice u43, conv_i u65 u73, index_str u9, index_slice u43 sz5, store_of sz5, conv_i u73 u5, wz1, iq1, e1, e1', l1, l1', wn3, in3, wn4, in4]
        generalize hs4 : storeRow _ _ _ = ra
        obtain ⟨mA4, rfl, oA4, kA4⟩ := put_digit hs4 oA3 (n1 := n4) (by omega) (by omega)
        simp [-Int.natCast_add, -w41_19, -BitVec.toNat_or, -BitVec.toNat_ofInt, -BitVec.toNat_and, len_slice u43, conv_i u65 u73, index_str u9, index_slice u43 sz5, store_of sz5, conv_i u73 u5, wz1, iq1, e1, e1', l1, l1', wn3, in3, wn4, in4]
        simp [-Int.natCast_add, -w41_20, -BitVec.toNat_or, -BitVec.toNat_ofInt, -BitVec.toNat_and, len_slice u43, conv_i u65 u73, index_str u9, index_slice u43 sz5, store_of sz5, conv_i u73 u5, wn4]
        exact w_sub (E := [(0, .slice (some ⟨ab, o, none⟩) w c), (4, .int .i64 n4), (12, .int .u32 N2)]) (meth mA4 n4 N2 ⟨by omega, dgt (r1 / 10) :: dgt (r1 % 10) :: dgt (r0 / 10) :: dgt (r0 % 10) :: R, by omega, by omega, fin, by simp only [List.length_cons]; omega, oA4, ((((kC.trans kA1).trans kA2).trans kA3).trans kA4)⟩) ⟨by rfl, by rfl, by rfl, trivial⟩
      · have h4' : ¬ (4 : Int) ≤ n := by omega
        intro meth
        simp [-Int.natCast_add, -w41_20, -BitVec.toNat_or, -BitVec.toNat_ofInt, -BitVec.toNat_and, len_slice u43, conv_i u65 u73, index_str u9, index_slice u43 sz5, store_of sz5, conv_i u73 u5, h8', h4', f0]
        exact w_sub (E := [(0, .slice (some ⟨ab, o, none⟩) w c), (4, .int .i64 n), (12, .int .u32 N)]) (meth mC n N ⟨by omega, R, hn, hN, hfw, hR, oC, kC⟩) ⟨by rfl, by rfl, by rfl, trivial⟩
    clear ih hN hNu hfw hR oC kC hN8 f0 h8 h8' hn
    clear R N n
    intro mC n N ⟨h4, R, hn, hN, hfw, hR, oC, kC⟩
    have hN4 : N < 10000 := by
      have : 10 ^ n ≤ 10 ^ 4 := Nat.pow_le_pow_right (by omega) (by omega)
      omega
    apply cut3_ (fun (mX : Mem) (nX NX : Nat) => nX < 2 ∧ ∃ R, nX ≤ w ∧ NX < 10 ^ nX ∧ fw w u = fw nX NX ++ R ∧ R.length = w - nX ∧ Own mX ab (cells.take (o + nX) ++ (bytC R ++ cells.drop (o + w))) eb fam ∧ Keeps m mX [fam])
    case main =>
      by_cases h2 : 2 ≤ n
      · have h2' : (2 : Int) ≤ n := by omega
        obtain ⟨N2, hN2⟩ : ∃ a, N / 100 = a := ⟨_, rfl⟩
        obtain ⟨r0, hr0⟩ : ∃ r, N % 100 = r := ⟨_, rfl⟩
        have f1 : IntKind.u32.wrap ((N : Int) / 100) = (N2 : Int) := by rw [wrap_u32 (by omega) (by omega)]; omega
        have f1' : IntKind.u32.wrap (Int.tdiv (N : Int) 100) = (N2 : Int) := by rw [show Int.tdiv (N : Int) 100 = ((N / 100 : Nat) : Int) from rfl, hN2]; exact wrap_u32 (by omega) (by omega)
        have f4 : Int.tmod (N : Int) 100 = (r0 : Int) := by rw [show Int.tmod (N : Int) 100 = ((N % 100 : Nat) : Int) from rfl, hr0]
        obtain ⟨q0, hq0⟩ : ∃ q, 2 * r0 = q := ⟨_, rfl⟩
        obtain ⟨e0, e0'⟩ := sm_get r0 (by omega)
        obtain ⟨l0, l0'⟩ := sm_getl r0 (by omega)
        rw [hq0] at e0 e0' l0 l0'
        have wq0 : IntKind.u32.wrap ((r0 : Int) * 2) = (q0 : Int) := by rw [wrap_u32 (by omega) (by omega)]; omega
        obtain ⟨z0, hz0⟩ : ∃ z, q0 + 1 = z := ⟨_, rfl⟩
        rw [hz0] at e0' l0'
        have wz0 : IntKind.u32.wrap ((q0 : Int) + 1) = (z0 : Int) := by rw [wrap_u32 (by omega) (by omega)]; omega
        have iq0 : (q0 : Int) ≤ 9223372036854775807 ∧ (z0 : Int) ≤ 9223372036854775807 := by omega
        obtain ⟨n1, hn1⟩ : ∃ z, n - 1 = z := ⟨_, rfl⟩
        have wn1 : IntKind.i64.wrap ((n : Int) - 1) = (n1 : Int) := by rw [wrap_i64 (by omega) (by omega)]; omega
        have in1 : (n1 : Int) ≤ 9223372036854775807 ∧ n1 < w ∧ (n1 : Int) < w := by omega
        obtain ⟨n2, hn2⟩ : ∃ z, n - 2 = z := ⟨_, rfl⟩
        have wn2 : IntKind.i64.wrap ((n : Int) - 2) = (n2 : Int) := by rw [wrap_i64 (by omega) (by omega)]; omega
        have in2 : (n2 : Int) ≤ 9223372036854775807 ∧ n2 < w ∧ (n2 : Int) < w := by omega
        have e2 : fw n N = fw n2 N2 ++ [dgt (r0 / 10), dgt (r0 % 10)] := by
          rw [show n = n2 + 2 by omega, fw_two, hN2]
          congr 2
          · congr 1; omega
          · congr 1; congr 1; omega
        have hp : 10 ^ n = 10 ^ n2 * 100 := by rw [show n = n2 + 2 by omega, Nat.pow_add]
        have fin : fw w u = fw n2 N2 ++ (dgt (r0 / 10) :: dgt (r0 % 10) :: R) := by rw [hfw, e2]; simp
        intro meth
        simp [-Int.natCast_add, -w41_23, -BitVec.toNat_or, -BitVec.toNat_ofInt, -BitVec.toNat_and, len_slice u43, conv_i u65 u73, index_str u9, index_slice u43 sz5, store_of sz5, conv_i u73 u5, h2', f1, f1', f4, wq0]
        simp [-Int.natCast_add, -w41_24, -BitVec.toNat_or, -BitVec.toNat_ofInt, -BitVec.toNat_and, len_slice u43, conv_i u65 u73, index_str u9, index_slice u43 sz5, store_of sz5, conv_i u73 u5, wz0, iq0, e0, e0', l0, l0', wn1, in1, wn2, in2]
        generalize hs1 : storeRow _ _ _ = ra
        obtain ⟨mA1, rfl, oA1, kA1⟩ := put_digit hs1 oC (n1 := n1) (by omega) (by omega)
        simp [-Int.natCast_add, -w41_24, -BitVec.toNat_or, -BitVec.toNat_ofInt, -BitVec.toNat_and, len_slice u43, conv_i u65 u73, index_str u9, index_slice u43 sz5, store_of sz5, conv_i u73 u5, wz0, iq0, e0, e0', l0, l0', wn1, in1, wn2, in2]
        generalize hs2 : storeRow _ _ _ = ra
        obtain ⟨mA2, rfl, oA2, kA2⟩ := put_digit hs2 oA1 (n1 := n2) (by omega) (by omega)
        simp [-Int.natCast_add, -w41_24, -BitVec.toNat_or, -BitVec.toNat_ofInt, -BitVec.toNat_and, len_slice u43, conv_i u65 u73, index_str u9, index_slice u43 sz5, store_of sz5, conv_i u73 u5, wz0, iq0, e0, e0', l0, l0', wn1, in1, wn2, in2]
        simp [-Int.natCast_add, -w41_25, -BitVec.toNat_or, -BitVec.toNat_ofInt, -BitVec.toNat_and, len_slice u43, conv_i u65 u73, index_str u9, index_slice u43 sz5, store_of sz5, conv_i u73 u5, wn2]
        exact w_sub (E := [(0, .slice (some ⟨ab, o, none⟩) w c), (4, .int .i64 n2), (12, .int .u32 N2)]) (meth mA2 n2 N2 ⟨by omega, dgt (r0 / 10) :: dgt (r0 % 10) :: R, by omega, by omega, fin, by simp only [List.length_cons]; omega, oA2, ((kC.trans kA1).trans kA2)⟩) ⟨by rfl, by rfl, by rfl, trivial⟩
      · have h2' : ¬ (2 : Int) ≤ n := by omega
        intro meth
        simp [-Int.natCast_add, -w41_25, -BitVec.toNat_or, -BitVec.toNat_ofInt, -BitVec.toNat_and, len_slice u43, conv_i u65 u73, index_str u9, index_slice u43 sz5, store_of sz5, conv_i u73 u5, h2']
        exact w_sub (E := [(0, .slice (some ⟨ab, o, none⟩) w c), (4, .int .i64 n), (12, .int .u32 N)]) (meth mC n N ⟨by omega, R, hn, hN, hfw, hR, oC, kC⟩) ⟨by rfl, by rfl, by rfl, trivial⟩
    clear hN hfw hR oC kC hN4 h4 hn
    clear R N n
    intro mC n N ⟨h2, R, hn, hN, hfw, hR, oC, kC⟩
    rcases (by omega : n = 0 ∨ n = 1) with rfl | rfl
    · simp [-Int.natCast_add, -BitVec.toNat_or, -BitVec.toNat_ofInt, -BitVec.toNat_and, len_slice u43, conv_i u65 u73, index_str u9, index_slice u43 sz5, store_of sz5, conv_i u73 u5]
      have : fw w u = R := by rw [hfw]; rfl
      rw [this]
      exact ⟨by simpa using oC, kC⟩
    · have hN1 : N < 10 := by omega
      have wd : IntKind.u8.wrap (IntKind.u32.wrap (48 + (N : Int))) = ((dgt N).toNat : Int) := by rw [dgt_nat hN1, wrap_u32 (by omega) (by omega), wrap_u8 (by omega) (by omega)]; omega
      have w0 : 0 < w ∧ (0 : Int) < w := by omega
      have e1 : fw w u = dgt N :: R := by rw [hfw]; simp [fw, Nat.mod_eq_of_lt hN1]
      simp [-Int.natCast_add, -BitVec.toNat_or, -BitVec.toNat_ofInt, -BitVec.toNat_and, len_slice u43, conv_i u65 u73, index_str u9, index_slice u43 sz5, store_of sz5, conv_i u73 u5, wd, w0]
      generalize hs1 : storeRow _ _ _ = ra
      obtain ⟨mA1, rfl, oA1, kA1⟩ := put_digit (n1 := 0) hs1 oC rfl (by omega)
      simp [-Int.natCast_add, -BitVec.toNat_or, -BitVec.toNat_ofInt, -BitVec.toNat_and, len_slice u43, conv_i u65 u73, index_str u9, index_slice u43 sz5, store_of sz5, conv_i u73 u5]
      rw [e1]
      exact ⟨by simpa using oA1, kC.trans kA1⟩
theorem sm_cut (r : Nat) (h : r < 100) : (([48, 48, 48, 49, 48, 50, 48, 51, 48, 52, 48, 53, 48, 54, 48, 55, 48, 56, 48, 57, 49, 48, 49, 49, 49, 50, 49, 51, 49, 52, 49, 53, 49, 54, 49, 55, 49, 56, 49, 57, 50, 48, 50, 49, 50, 50, 50, 51, 50, 52, 50, 53, 50, 54, 50, 55, 50, 56, 50, 57, 51, 48, 51, 49, 51, 50, 51, 51, 51, 52, 51, 53, 51, 54, 51, 55, 51, 56, 51, 57, 52, 48, 52, 49, 52, 50, 52, 51, 52, 52, 52, 53, 52, 54, 52, 55, 52, 56, 52, 57, 53, 48, 53, 49, 53, 50, 53, 51, 53, 52, 53, 53, 53, 54, 53, 55, 53, 56, 53, 57, 54, 48, 54, 49, 54, 50, 54, 51, 54, 52, 54, 53, 54, 54, 54, 55, 54, 56, 54, 57, 55, 48, 55, 49, 55, 50, 55, 51, 55, 52, 55, 53, 55, 54, 55, 55, 55, 56, 55, 57, 56, 48, 56, 49, 56, 50, 56, 51, 56, 52, 56, 53, 56, 54, 56, 55, 56, 56, 56, 57, 57, 48, 57, 49, 57, 50, 57, 51, 57, 52, 57, 53, 57, 54, 57, 55, 57, 56, 57, 57] : List UInt8).drop (2 * r)).take 2 = [dgt (r / 10), dgt (r % 10)] := by
  have : ∀ r : Fin 100, (([48, 48, 48, 49, 48, 50, 48, 51, 48, 52, 48, 53, 48, 54, 48, 55, 48, 56, 48, 57, 49, 48, 49, 49, 49, 50, 49, 51, 49, 52, 49, 53, 49, 54, 49, 55, 49, 56, 49, 57, 50, 48, 50, 49, 50, 50, 50, 51, 50, 52, 50, 53, 50, 54, 50, 55, 50, 56, 50, 57, 51, 48, 51, 49, 51, 50, 51, 51, 51, 52, 51, 53, 51, 54, 51, 55, 51, 56, 51, 57, 52, 48, 52, 49, 52, 50, 52, 51, 52, 52, 52, 53, 52, 54, 52, 55, 52, 56, 52, 57, 53, 48, 53, 49, 53, 50, 53, 51, 53, 52, 53, 53, 53, 54, 53, 55, 53, 56, 53, 57, 54, 48, 54, 49, 54, 50, 54, 51, 54, 52, 54, 53, 54, 54, 54, 55, 54, 56, 54, 57, 55, 48, 55, 49, 55, 50, 55, 51, 55, 52, 55, 53, 55, 54, 55, 55, 55, 56, 55, 57, 56, 48, 56, 49, 56, 50, 56, 51, 56, 52, 56, 53, 56, 54, 56, 55, 56, 56, 56, 57, 57, 48, 57, 49, 57, 50, 57, 51, 57, 52, 57, 53, 57, 54, 57, 55, 57, 56, 57, 57] : List UInt8).drop (2 * r.val)).take 2 = [dgt (r.val / 10), dgt (r.val % 10)] := by decide +kernel
  exact this ⟨r, h⟩
theorem dg_cut (r : Nat) (h : r < 10) : (([48, 49, 50, 51, 52, 53, 54, 55, 56, 57, 97, 98, 99, 100, 101, 102, 103, 104, 105, 106, 107, 108, 109, 110, 111, 112, 113, 114, 115, 116, 117, 118, 119, 120, 121, 122] : List UInt8).drop r).take 1 = [dgt r] := by
  have : ∀ r : Fin 10, (([48, 49, 50, 51, 52, 53, 54, 55, 56, 57, 97, 98, 99, 100, 101, 102, 103, 104, 105, 106, 107, 108, 109, 110, 111, 112, 113, 114, 115, 116, 117, 118, 119, 120, 121, 122] : List UInt8).drop r.val).take 1 = [dgt r.val] := by decide +kernel
  exact this ⟨r, h⟩
theorem small_run (hS : S 39 = []) {u : Nat} (hu : u < 100) : callw Tryd.prog TT S 39 [.int .i64 (u : Int)] m = some (.string ⟨(fw (nd u) u).toArray⟩, m) := by
  refine fn_eq 3 [4] k39 hS rfl ?_
  by_cases h : u < 10
  · have h' : (u : Int) < 10 := by omega
    have e : fw (nd u) u = [dgt u] := by
      rw [nd_of (u := u) (k := 1) (by omega) (by omega) (by omega) (by omega)]
      simp [fw, Nat.mod_eq_of_lt h]
    rw [e]
    obtain ⟨z, hz⟩ : ∃ z, u + 1 = z := ⟨_, rfl⟩
    have wz : IntKind.i64.wrap ((u : Int) + 1) = (z : Int) := by rw [wrap_i64 (by omega) (by omega)]; omega
    have iz : (z : Int) ≤ 9223372036854775807 ∧ (u : Int) ≤ 9223372036854775807 ∧ u ≤ z ∧ z ≤ 36 ∧ z - u = 1 := by omega
    have dc := dg_cut u h
    simp [-Int.natCast_add, -BitVec.toNat_or, -BitVec.toNat_ofInt, -BitVec.toNat_and, slice_str u9, h', wz, iz, dc]
  · have h' : ¬ (u : Int) < 10 := by omega
    have e : fw (nd u) u = [dgt (u / 10), dgt (u % 10)] := by
      rw [nd_of (u := u) (k := 2) (by omega) (by omega) (by omega) (by omega), fw_two]
      simp [fw, Nat.mod_eq_of_lt (show u / 10 < 10 by omega)]
    rw [e]
    obtain ⟨q, hq⟩ : ∃ q, 2 * u = q := ⟨_, rfl⟩
    obtain ⟨z, hz⟩ : ∃ z, q + 2 = z := ⟨_, rfl⟩
    have wq : IntKind.i64.wrap ((u : Int) * 2) = (q : Int) := by rw [wrap_i64 (by omega) (by omega)]; omega
    have wz : IntKind.i64.wrap ((q : Int) + 2) = (z : Int) := by rw [wrap_i64 (by omega) (by omega)]; omega
    have iz : (z : Int) ≤ 9223372036854775807 ∧ (q : Int) ≤ 9223372036854775807 ∧ q ≤ z ∧ z ≤ 200 ∧ z - q = 2 := by omega
    have dc := sm_cut u hu
    rw [hq] at dc
    simp [-Int.natCast_add, -BitVec.toNat_or, -BitVec.toNat_ofInt, -BitVec.toNat_and, slice_str u9, h', wq, wz, iz, dc]
/-- what is printed of a number -/
def fmt (x : Int) : List UInt8 := if x < 0 then 45 :: fw (nd x.natAbs) x.natAbs else fw (nd x.natAbs) x.natAbs
structure Nf (S : Sums) : Prop where
  fmt1 : S 33 = []
  small : S 39 = []
  digs : S 40 = []
  base : S 41 = []
  log : S 48 = []
  len : S 49 = []
  b2 : S 50 = []
theorem ite_in {c : Prop} [Decidable c] {a b : Nat} (h1 : 1 ≤ a ∧ a ≤ 20) (h2 : 1 ≤ b ∧ b ≤ 20) : 1 ≤ (if c then a else b) ∧ (if c then a else b) ≤ 20 := by
  by_cases h : c
  · rw [if_pos h]; exact h1
  · rw [if_neg h]; exact h2
theorem ite_pow {u : Nat} {c : Prop} [Decidable c] {a b : Nat} (h1 : c → u < 10 ^ a) (h2 : ¬ c → u < 10 ^ b) : u < 10 ^ (if c then a else b) := by
  by_cases h : c
  · rw [if_pos h]; exact h1 h
  · rw [if_neg h]; exact h2 h
theorem nd_le (u : Nat) : 1 ≤ nd u ∧ nd u ≤ 20 := by
  unfold nd
  refine ite_in (by decide) ?_
  refine ite_in (by decide) ?_
  refine ite_in (by decide) ?_
  refine ite_in (by decide) ?_
  refine ite_in (by decide) ?_
  refine ite_in (by decide) ?_
  refine ite_in (by decide) ?_
  refine ite_in (by decide) ?_
  refine ite_in (by decide) ?_
  refine ite_in (by decide) ?_
  refine ite_in (by decide) ?_
  refine ite_in (by decide) ?_
  refine ite_in (by decide) ?_
  refine ite_in (by decide) ?_
  refine ite_in (by decide) ?_
  refine ite_in (by decide) ?_
  refine ite_in (by decide) ?_
  refine ite_in (by decide) ?_
  refine ite_in (by decide) ?_
  decide
theorem nd_lt {u : Nat} (h : u < 18446744073709551616) : u < 10 ^ nd u := by
  unfold nd
  refine ite_pow (fun g => Nat.lt_of_lt_of_le g (by decide)) (fun _ => ?_)
  refine ite_pow (fun g => Nat.lt_of_lt_of_le g (by decide)) (fun _ => ?_)
  refine ite_pow (fun g => Nat.lt_of_lt_of_le g (by decide)) (fun _ => ?_)
  refine ite_pow (fun g => Nat.lt_of_lt_of_le g (by decide)) (fun _ => ?_)
  refine ite_pow (fun g => Nat.lt_of_lt_of_le g (by decide)) (fun _ => ?_)
  refine ite_pow (fun g => Nat.lt_of_lt_of_le g (by decide)) (fun _ => ?_)
  refine ite_pow (fun g => Nat.lt_of_lt_of_le g (by decide)) (fun _ => ?_)
  refine ite_pow (fun g => Nat.lt_of_lt_of_le g (by decide)) (fun _ => ?_)
  refine ite_pow (fun g => Nat.lt_of_lt_of_le g (by decide)) (fun _ => ?_)
  refine ite_pow (fun g => Nat.lt_of_lt_of_le g (by decide)) (fun _ => ?_)
  refine ite_pow (fun g => Nat.lt_of_lt_of_le g (by decide)) (fun _ => ?_)
  refine ite_pow (fun g => Nat.lt_of_lt_of_le g (by decide)) (fun _ => ?_)
  refine ite_pow (fun g => Nat.lt_of_lt_of_le g (by decide)) (fun _ => ?_)
  refine ite_pow (fun g => Nat.lt_of_lt_of_le g (by decide)) (fun _ => ?_)
  refine ite_pow (fun g => Nat.lt_of_lt_of_le g (by decide)) (fun _ => ?_)
  refine ite_pow (fun g => Nat.lt_of_lt_of_le g (by decide)) (fun _ => ?_)
  refine ite_pow (fun g => Nat.lt_of_lt_of_le g (by decide)) (fun _ => ?_)
  refine ite_pow (fun g => Nat.lt_of_lt_of_le g (by decide)) (fun _ => ?_)
  refine ite_pow (fun g => Nat.lt_of_lt_of_le g (by decide)) (fun _ => ?_)
  exact Nat.lt_of_lt_of_le h (by decide)
theorem fmt_run (hN : Nf S) {e : TypeId} (hg : Rdo m 2 powC e 2) {x : Int} (h1 : -9223372036854775808 ≤ x) (h2 : x ≤ 9223372036854775807) :
    ∃ v m1, callw Tryd.prog TT S 33 [.int .i64 x, .int .i64 10] m = some (v, m1) ∧ v = .string ⟨(fmt x).toArray⟩ ∧ Keeps m m1 [] := by
  refine fn_w 10 [11, 17, 23, 34] k33 hN.fmt1 rfl ?_
  by_cases a : 0 ≤ x ∧ x < 100
  · obtain ⟨a1, a2⟩ := a
    obtain ⟨u, rfl⟩ : ∃ u : Nat, x = u := ⟨x.toNat, by omega⟩
    have sm := fun m' => small_run (m := m') hN.small (u := u) (by omega)
    have e : fmt (u : Int) = fw (nd u) u := by unfold fmt; rw [if_neg (by omega)]; rfl
    rw [e]
    simp [-Int.natCast_add, -BitVec.toNat_or, -BitVec.toNat_ofInt, -BitVec.toNat_and, alloc_of zo64, conv_i u2 u65, un_neg, slice_arr u64 sz5, indexAddr_arr u64 sz5, store_of sz5, conv_bytes u43 u5 u9, a1, a2, sm]
    exact keeps_refl _
  · obtain ⟨u, hu⟩ : ∃ u : Nat, x.natAbs = u := ⟨_, rfl⟩
    have hu0 : 1 ≤ u ∧ u < 18446744073709551616 := by omega
    have b1 : ¬ (0 ≤ x ∧ x < 100) := a
    have hcase : (¬ 0 ≤ x) ∨ (0 ≤ x ∧ ¬ x < 100) := by omega
    obtain ⟨o1, k1, n1⟩ := new_own (m := m) (cs := [.int .u8 0, .int .u8 0, .int .u8 0, .int .u8 0, .int .u8 0, .int .u8 0, .int .u8 0, .int .u8 0, .int .u8 0, .int .u8 0, .int .u8 0, .int .u8 0, .int .u8 0, .int .u8 0, .int .u8 0, .int .u8 0, .int .u8 0, .int .u8 0, .int .u8 0, .int .u8 0, .int .u8 0, .int .u8 0, .int .u8 0, .int .u8 0]) (e := 64) rfl
    obtain ⟨ab, hab⟩ : ∃ ab, m.next = ab := ⟨_, rfl⟩
    rw [hab] at o1
    obtain ⟨m1, hm1⟩ : ∃ m1, m.new [.int .u8 0, .int .u8 0, .int .u8 0, .int .u8 0, .int .u8 0, .int .u8 0, .int .u8 0, .int .u8 0, .int .u8 0, .int .u8 0, .int .u8 0, .int .u8 0, .int .u8 0, .int .u8 0, .int .u8 0, .int .u8 0, .int .u8 0, .int .u8 0, .int .u8 0, .int .u8 0, .int .u8 0, .int .u8 0, .int .u8 0, .int .u8 0] 64 = m1 := ⟨_, rfl⟩
    rw [hm1] at o1 k1
    obtain ⟨w, hw⟩ : ∃ w, nd u = w := ⟨_, rfl⟩
    have w1 := nd_le u
    have w2 := nd_lt hu0.2
    have dr := digits_run (m := m1) hN.digs hN.len hN.log hN.b2 (hg.keep k1 (by simp)) (x := u) hu0.1 hu0.2
    rw [hw] at dr w1 w2
    obtain ⟨_, m2, hc, o2, k2⟩ := base10_run (c := w + 1) (o := 1) hN.base o1 (by simp; omega) (by simp) w2 hu0.2
    obtain ⟨z, hz⟩ : ∃ z, w + 1 = z := ⟨_, rfl⟩
    have wz : IntKind.i64.wrap (1 + (w : Int)) = (z : Int) := by rw [wrap_i64 (by omega) (by omega)]; omega
    have wz' : IntKind.i64.wrap ((w : Int) + 1) = (z : Int) := by rw [wrap_i64 (by omega) (by omega)]; omega
    have iz : (z : Int) ≤ 9223372036854775807 ∧ z - 1 = w ∧ 1 ≤ z ∧ z ≤ 24 ∧ (1 : Int) ≤ z := by omega
    have kk : Keeps m m2 [] := k1.fresh k2 (by simp; omega)
    have hl : (fw w u).length = w := fw_len w u
    rcases hcase with b | ⟨b, b'⟩
    · have b2 : x < 0 := by omega
      have wn : IntKind.u64.wrap x = 18446744073709551616 + x := by
        have e1 : (2 : Int) ^ IntKind.u64.bits = 18446744073709551616 := by decide
        have e3 : IntKind.u64.signed = false := rfl
        simp only [IntKind.wrap, e1, e3, Bool.false_and]
        simp
        omega
      have wm : IntKind.u64.wrap (-(18446744073709551616 + x)) = (u : Int) := by
        have e1 : (2 : Int) ^ IntKind.u64.bits = 18446744073709551616 := by decide
        have e3 : IntKind.u64.signed = false := rfl
        simp only [IntKind.wrap, e1, e3, Bool.false_and]
        simp
        omega
      have e : fmt x = 45 :: fw w u := by unfold fmt; rw [if_pos b2, hu, hw]
      rw [e]
      simp [-Int.natCast_add, -BitVec.toNat_or, -BitVec.toNat_ofInt, -BitVec.toNat_and, alloc_of zo64, conv_i u2 u65, un_neg, slice_arr u64 sz5, indexAddr_arr u64 sz5, store_of sz5, conv_bytes u43 u5 u9, b, b2, wn, wm, hm1, hab, dr, wz, wz', iz, hc]
      generalize hs1 : storeRow _ _ _ = ra
      obtain ⟨m3, rfl, o3, k3⟩ := store_own hs1 o2 (by simp) (by simp [one_int])
      have ld : loadRow m3 ⟨ab, 0, none⟩ z = some (bytC (45 :: fw w u)) := by
        rw [o3.load (off := 0) z (by rw [over_length (by simp)]; simp [bytC_len, hl]; omega)]
        refine congrArg some ?_
        simp only [window, List.drop_zero]
        have e2 : over (List.take 1 [Value.int .u8 0, Value.int .u8 0, Value.int .u8 0, Value.int .u8 0, Value.int .u8 0, Value.int .u8 0, Value.int .u8 0, Value.int .u8 0, Value.int .u8 0, Value.int .u8 0, Value.int .u8 0, Value.int .u8 0, Value.int .u8 0, Value.int .u8 0, Value.int .u8 0, Value.int .u8 0, Value.int .u8 0, Value.int .u8 0, Value.int .u8 0, Value.int .u8 0, Value.int .u8 0, Value.int .u8 0, Value.int .u8 0, Value.int .u8 0] ++ bytC (fw w u) ++ List.drop (1 + w) [Value.int .u8 0, Value.int .u8 0, Value.int .u8 0, Value.int .u8 0, Value.int .u8 0, Value.int .u8 0, Value.int .u8 0, Value.int .u8 0, Value.int .u8 0, Value.int .u8 0, Value.int .u8 0, Value.int .u8 0, Value.int .u8 0, Value.int .u8 0, Value.int .u8 0, Value.int .u8 0, Value.int .u8 0, Value.int .u8 0, Value.int .u8 0, Value.int .u8 0, Value.int .u8 0, Value.int .u8 0, Value.int .u8 0, Value.int .u8 0]) 0 [Value.int .u8 45] = bytC (45 :: fw w u) ++ List.drop (1 + w) [Value.int .u8 0, Value.int .u8 0, Value.int .u8 0, Value.int .u8 0, Value.int .u8 0, Value.int .u8 0, Value.int .u8 0, Value.int .u8 0, Value.int .u8 0, Value.int .u8 0, Value.int .u8 0, Value.int .u8 0, Value.int .u8 0, Value.int .u8 0, Value.int .u8 0, Value.int .u8 0, Value.int .u8 0, Value.int .u8 0, Value.int .u8 0, Value.int .u8 0, Value.int .u8 0, Value.int .u8 0, Value.int .u8 0, Value.int .u8 0] := by
          simp [over, bytC]
        rw [e2, List.take_append_of_le_length (by simp [bytC_len, hl]; omega), List.take_of_length_le (by simp [bytC_len, hl]; omega)]
      have cv : ∀ c, bToS m3 (.slice (some ⟨ab, 0, none⟩) z c) = some (.string ⟨(45 :: fw w u).toArray⟩, m3) := by
        intro c
        simp only [bToS]
        rw [if_neg (by omega), ld]
        simp only [bytC, bytesOf_map]
      simp [-Int.natCast_add, -BitVec.toNat_or, -BitVec.toNat_ofInt, -BitVec.toNat_and, alloc_of zo64, conv_i u2 u65, un_neg, slice_arr u64 sz5, indexAddr_arr u64 sz5, store_of sz5, conv_bytes u43 u5 u9, b, b2, wn, wm, hm1, hab, dr, wz, wz', iz, hc, cv]
      exact kk.fresh k3 (by simp; omega)
    · have b2 : ¬ x < 0 := by omega
      have wn : IntKind.u64.wrap x = (u : Int) := by rw [wrap_u64 (by omega) (by omega)]; omega
      have e : fmt x = fw w u := by unfold fmt; rw [if_neg b2, hu, hw]
      rw [e]
      have ld : loadRow m2 ⟨ab, 1, none⟩ w = some (bytC (fw w u)) := by
        rw [o2.load (off := 1) w (by simp [bytC_len, hl]; omega)]
        refine congrArg some ?_
        simp only [window]
        rw [List.append_assoc, List.drop_append_of_le_length (by simp)]
        simp only [List.take_succ_cons, List.take_zero, List.drop_succ_cons, List.drop_zero, List.nil_append]
        rw [List.take_append_of_le_length (by simp [bytC_len, hl]), List.take_of_length_le (by simp [bytC_len, hl])]
      have cv : ∀ c, bToS m2 (.slice (some ⟨ab, 1, none⟩) w c) = some (.string ⟨(fw w u).toArray⟩, m2) := by
        intro c
        simp only [bToS]
        rw [if_neg (by omega), ld]
        simp only [bytC, bytesOf_map]
      simp [-Int.natCast_add, -BitVec.toNat_or, -BitVec.toNat_ofInt, -BitVec.toNat_and, alloc_of zo64, conv_i u2 u65, un_neg, slice_arr u64 sz5, indexAddr_arr u64 sz5, store_of sz5, conv_bytes u43 u5 u9, b, b', b2, wn, hm1, hab, dr, wz, wz', iz, hc, cv]
      exact kk
end Go.Proofs.YtbhnojbkinbomaaDoor.base

