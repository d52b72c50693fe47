/-
  This text proves that the document's Digits answers as Go's library does.
  Condition: nothing is known of the calls ahead ('S f = []').
-/
import Derived.Test.YtbhnojbkinbomaaDoorFmtB
set_option maxRecDepth 100000
set_option linter.unusedSimpArgs false
set_option linter.unusedVariables false
namespace Go.Proofs.YtbhnojbkinbomaaDoor.base
open Go.Sh gen
variable {S : Sums} {m : Mem}
theorem ite_ge {u : Nat} {c : Prop} [Decidable c] {a b : Nat} (h1 : c → 10 ^ (a - 1) ≤ u) (h2 : ¬ c → 10 ^ (b - 1) ≤ u) : 10 ^ ((if c then a else b) - 1) ≤ u := by
  by_cases h : c
  · rw [if_pos h]; exact h1 h
  · rw [if_neg h]; exact h2 h
theorem nd_ge {u : Nat} (h : 1 ≤ u) : 10 ^ (nd u - 1) ≤ u := by
  unfold nd
  refine ite_ge (fun _ => h) (fun g => ?_)
  refine ite_ge (fun _ => Nat.le_of_not_lt g) (fun g => ?_)
  refine ite_ge (fun _ => Nat.le_of_not_lt g) (fun g => ?_)
  refine ite_ge (fun _ => Nat.le_of_not_lt g) (fun g => ?_)
  refine ite_ge (fun _ => Nat.le_of_not_lt g) (fun g => ?_)
  refine ite_ge (fun _ => Nat.le_of_not_lt g) (fun g => ?_)
  refine ite_ge (fun _ => Nat.le_of_not_lt g) (fun g => ?_)
  refine ite_ge (fun _ => Nat.le_of_not_lt g) (fun g => ?_)
  refine ite_ge (fun _ => Nat.le_of_not_lt g) (fun g => ?_)
  refine ite_ge (fun _ => Nat.le_of_not_lt g) (fun g => ?_)
  refine ite_ge (fun _ => Nat.le_of_not_lt g) (fun g => ?_)
  refine ite_ge (fun _ => Nat.le_of_not_lt g) (fun g => ?_)
  refine ite_ge (fun _ => Nat.le_of_not_lt g) (fun g => ?_)
  refine ite_ge (fun _ => Nat.le_of_not_lt g) (fun g => ?_)
  refine ite_ge (fun _ => Nat.le_of_not_lt g) (fun g => ?_)
  refine ite_ge (fun _ => Nat.le_of_not_lt g) (fun g => ?_)
  refine ite_ge (fun _ => Nat.le_of_not_lt g) (fun g => ?_)
  refine ite_ge (fun _ => Nat.le_of_not_lt g) (fun g => ?_)
  refine ite_ge (fun _ => Nat.le_of_not_lt g) (fun g => ?_)
  exact Nat.le_of_not_lt g
theorem nd_div {u : Nat} (h : 10 ≤ u) (h2 : u < 18446744073709551616) : nd u = nd (u / 10) + 1 := by
  have h1 := nd_le (u / 10)
  have g1 := nd_ge (u := u / 10) (by omega)
  have g2 := nd_lt (u := u / 10) (by omega)
  obtain ⟨k, hk⟩ : ∃ k, nd (u / 10) = k := ⟨_, rfl⟩
  rw [hk] at h1 g1 g2 ⊢
  have e1 : 10 ^ k = 10 ^ (k - 1) * 10 := by rw [← Nat.pow_succ]; congr 1; omega
  have e2 : 10 ^ (k + 1) = 10 ^ k * 10 := Nat.pow_succ ..
  have g3 : 10 ^ k ≤ u := by omega
  have g4 : u < 10 ^ (k + 1) := by omega
  have k19 : k ≤ 19 := by
    by_cases hc : k ≤ 19
    · exact hc
    · have : 10 ^ 20 ≤ 10 ^ k := Nat.pow_le_pow_right (by omega) (by omega)
      have e20 : (10 : Nat) ^ 20 = 100000000000000000000 := by decide
      omega
  exact nd_of (by omega) (by omega) (Or.inr (by simpa using g3)) g4
theorem fw_div {u : Nat} (h : 10 ≤ u) (h2 : u < 18446744073709551616) : fw (nd u) u = fw (nd (u / 10)) (u / 10) ++ [dgt (u % 10)] := by
  rw [nd_div h h2]; rfl
theorem conv_one (m : Mem) (d : UInt8) : bToS (m.new [Value.int .u8 (d.toNat : Int)] 5) (.slice (some ⟨m.next, 0, none⟩) 1 1) = some (.string ⟨#[d]⟩, m.new [Value.int .u8 (d.toNat : Int)] 5) := bToS_sl (l := [d]) (Sl.of (Own.new _ _ _) rfl)
theorem below_run (hS : S 29 = []) : ∀ (u : Nat), u ≤ 9223372036854775808 → ∀ m : Mem, ∃ v m1, callw Tryd.prog TT S 29 [.int .i64 (-(u : Int))] m = some (v, m1) ∧ v = .string ⟨(fw (nd u) u).toArray⟩ ∧ Keeps m m1 [] := by
  intro u
  induction u using Nat.strongRecOn with
  | _ u ih =>
    intro hu m
    refine fn_w 3 [4] k29 hS rfl ?_
    by_cases h : u < 10
    · have h' : (-10 : Int) < -(u : Int) := by omega
      have e : fw (nd u) u = [dgt u] := by
        rw [nd_of (u := u) (k := 1) (by omega) (by omega) (by omega) (by omega)]
        simp [fw, Nat.mod_eq_of_lt h]
      have wd : IntKind.u8.wrap (IntKind.i64.wrap (48 - -(u : Int))) = ((dgt u).toNat : Int) := by rw [dgt_nat h, wrap_i64 (by omega) (by omega), wrap_u8 (by omega) (by omega)]; omega
      have wd' : IntKind.u8.wrap (IntKind.i64.wrap (48 + (u : Int))) = ((dgt u).toNat : Int) := by rw [dgt_nat h, wrap_i64 (by omega) (by omega), wrap_u8 (by omega) (by omega)]; omega
      rw [e]
      have cv := conv_one m (dgt u)
      simp [-Int.natCast_add, -BitVec.toNat_or, -BitVec.toNat_ofInt, -BitVec.toNat_and, conv_i u3 u5, buildSlice_of u43 bs5 rfl, conv_bytes u43 u5 u9, bin_str u9 .add (Or.inl rfl), h', wd, wd', cv]
      exact keeps_new _ _ _ _
    · have h' : ¬ (-10 : Int) < -(u : Int) := by omega
      obtain ⟨_, m1, hc, rfl, k1⟩ := ih (u / 10) (by omega) (by omega) m
      rw [fw_div (by omega) (by omega)]
      obtain ⟨q, hq⟩ : ∃ q, u / 10 = q := ⟨_, rfl⟩
      obtain ⟨r, hr⟩ : ∃ r, u % 10 = r := ⟨_, rfl⟩
      rw [hq] at hc ⊢
      rw [hr]
      have t0 : Int.tdiv (-(u : Int)) 10 = -(q : Int) := by rw [Int.neg_tdiv, show Int.tdiv (u : Int) 10 = ((u / 10 : Nat) : Int) from rfl, hq]
      have t1 : Int.tmod (-(u : Int)) 10 = -(r : Int) := by rw [Int.neg_tmod, show Int.tmod (u : Int) 10 = ((u % 10 : Nat) : Int) from rfl, hr]
      have f1 : IntKind.i64.wrap (-(q : Int)) = -(q : Int) := wrap_i64 (by omega) (by omega)
      have f2 : IntKind.i64.wrap (-((u : Int) / 10)) = -(q : Int) := by rw [show (u : Int) / 10 = ((u / 10 : Nat) : Int) from rfl, hq]; exact f1
      have f3 : IntKind.i64.wrap (-(Int.tdiv (u : Int) 10)) = -(q : Int) := by rw [show Int.tdiv (u : Int) 10 = ((u / 10 : Nat) : Int) from rfl, hq]; exact f1
      have t2 : Int.tmod (u : Int) 10 = (r : Int) := by rw [show Int.tmod (u : Int) 10 = ((u % 10 : Nat) : Int) from rfl, hr]
      have t3 : (u : Int) % 10 = (r : Int) := by omega
      have wd : IntKind.u8.wrap (IntKind.i64.wrap (48 - -(r : Int))) = ((dgt r).toNat : Int) := by rw [dgt_nat (by omega), wrap_i64 (by omega) (by omega), wrap_u8 (by omega) (by omega)]; omega
      have wd' : IntKind.u8.wrap (IntKind.i64.wrap (48 + (r : Int))) = ((dgt r).toNat : Int) := by rw [dgt_nat (by omega), wrap_i64 (by omega) (by omega), wrap_u8 (by omega) (by omega)]; omega
      have cv := conv_one m1 (dgt r)
      have kl : (((fw (nd q) q).length + 1 : Nat) : Int) ≤ 9223372036854775807 := by rw [fw_len]; have := nd_le q; omega
      simp [-Int.natCast_add, -BitVec.toNat_or, -BitVec.toNat_ofInt, -BitVec.toNat_and, conv_i u3 u5, buildSlice_of u43 bs5 rfl, conv_bytes u43 u5 u9, bin_str u9 .add (Or.inl rfl), h', t0, t1, t2, t3, f1, f2, f3, hc, wd, wd', cv, kl]
      exact k1.trans (keeps_new _ _ _ _)
theorem digs_run (hS : S 25 = []) (hB : S 29 = []) {x : Int} (h1 : -9223372036854775808 ≤ x) (h2 : x ≤ 9223372036854775807) :
    ∃ v m1, callw Tryd.prog TT S 25 [.int .i64 x] m = some (v, m1) ∧ v = .string ⟨(fmt x).toArray⟩ ∧ Keeps m m1 [] := by
  obtain ⟨u, hu⟩ : ∃ u : Nat, x.natAbs = u := ⟨_, rfl⟩
  obtain ⟨_, m1, hc, rfl, k1⟩ := below_run hB u (by omega) m
  refine fn_w 3 [4] k25 hS rfl ?_
  have nl := nd_le u
  by_cases b : x < 0
  · have e : fmt x = 45 :: fw (nd u) u := by unfold fmt; rw [if_pos b, hu]
    have ex : -(u : Int) = x := by omega
    have kl : ((1 + (fw (nd u) u).length : Nat) : Int) ≤ 9223372036854775807 := by rw [fw_len]; omega
    have kl2 : (((fw (nd u) u).length + 1 : Nat) : Int) ≤ 9223372036854775807 := by rw [fw_len]; omega
    rw [ex] at hc
    rw [e]
    simp [-Int.natCast_add, -BitVec.toNat_or, -BitVec.toNat_ofInt, -BitVec.toNat_and, bin_str u9 .add (Or.inl rfl), un_neg, b, hc, kl, kl2]
    exact k1
  · have e : fmt x = fw (nd u) u := by unfold fmt; rw [if_neg b, hu]
    have ex : x = (u : Int) := by omega
    have w : IntKind.i64.wrap (-(u : Int)) = -(u : Int) := wrap_i64 (by omega) (by omega)
    have b' : ¬ (u : Int) < 0 := by omega
    have kl : ((fw (nd u) u).length : Int) ≤ 9223372036854775807 := by rw [fw_len]; omega
    rw [e]
    rw [ex] at b ⊢
    simp [-Int.natCast_add, -BitVec.toNat_or, -BitVec.toNat_ofInt, -BitVec.toNat_and, bin_str u9 .add (Or.inl rfl), un_neg, b, b', w, hc, kl]
    exact k1
end Go.Proofs.YtbhnojbkinbomaaDoor.base

