/-
  This text proves that turnstonehand.Objects gives a heap of objects over the abstract run.
  Condition: nothing is known of their calls ahead ('S f = []').
-/
import Derived.Test.YtkcehgajpalgnaaDoorMacJ
set_option maxRecDepth 100000
set_option linter.unusedSimpArgs false
set_option linter.unusedVariables false
namespace Go.Proofs.YtkcehgajpalgnaaDoor.base
open Go.Sh gen
variable {S : Sums} {m : Mem}
structure Hr (S : Sums) : Prop where
  new : S 26 = []
  alloc : S 27 = []
  set : S 28 = []
  put : S 37 = []
  len : S 35 = []
  word : S 36 = []
  type : S 34 = []
def wO (os : List (Int × List Int)) : List Int := 0 :: os.flatMap fun o => headOf o.1 o.2.length :: o.2
def okO (os : List (Int × List Int)) : Prop := os.length ≤ 8 ∧ ∀ o ∈ os, 5 ≤ o.1 ∧ o.1 ≤ 7 ∧ o.2.length ≤ 4 ∧ Wd o.2
theorem wO_snoc (os : List (Int × List Int)) (t : Int) (B : List Int) : wO (os ++ [(t, B)]) = wO os ++ headOf t B.length :: B := by
  simp [wO]
theorem okO_snoc {os : List (Int × List Int)} {t : Int} {B : List Int} (h : okO os) (hl : os.length < 8) (ht : 5 ≤ t ∧ t ≤ 7) (hB : B.length ≤ 4) (hw : Wd B) : okO (os ++ [(t, B)]) := by
  refine ⟨by simp; omega, fun o ho => ?_⟩
  rcases List.mem_append.1 ho with ho | ho
  · exact h.2 o ho
  · simp at ho; subst ho; exact ⟨ht.1, ht.2, hB, hw⟩
theorem wO_len {os : List (Int × List Int)} (h : okO os) : (wO os).length ≤ 1 + 5 * os.length := by
  have h2 := h.2
  clear h
  induction os with
  | nil => simp [wO]
  | cons o os ih =>
    have h1 := h2 o (by simp)
    have h3 := ih (fun o ho => h2 o (by simp [ho]))
    simp only [wO, List.flatMap_cons, List.length_cons, List.length_append] at h3 ⊢
    omega
theorem wO_wd {os : List (Int × List Int)} (h : okO os) : Wd (wO os) := by
  have h2 := h.2
  clear h
  refine wd_cons.2 ⟨by omega, ?_⟩
  induction os with
  | nil => intro w hw; simp at hw
  | cons o os ih =>
    have h1 := h2 o (by simp)
    rw [List.flatMap_cons]
    exact wd_app.2 ⟨wd_cons.2 ⟨head_wd (by omega) (by omega), h1.2.2.2⟩, ih (fun o ho => h2 o (by simp [ho]))⟩
theorem wO_zero (os : List (Int × List Int)) : (wO os).getD 0 0 = 0 := rfl
theorem wd_set {B : List Int} (h : Wd B) (j : Nat) {v : Int} (hv : 0 ≤ v ∧ v ≤ 18446744073709551615) : Wd (B.set j v) := by
  intro w hw
  rcases List.mem_or_eq_of_mem_set hw with h1 | rfl
  · exact h w h1
  · exact hv
set_option maxHeartbeats 4000000 in
theorem objects_run (hO : S 8 = []) (hH : Hr S) {lo : Option Addr} {ls : List Int} {lf : Nat} (hl : Rs m lo ls.length (words ls) 33 1 lf) (hw : Wd ls) :
    ∃ v m1, callw Tryd.prog TT S 8 [.slice lo ls.length ls.length] m = some (v, m1) ∧ (∃ hb hf wb wf os, v = .pointer (some ⟨hb, 0, none⟩) ∧ okO os ∧ RefAt m1 hb hf wb wf (wO os) 100 ∧ m.next ≤ hf ∧ m.next ≤ wf) ∧ Keeps m m1 [] := by
  obtain ⟨_, m1, c1, ⟨hb, wf, rfl, h1, n1, n2, k1⟩⟩ := newR_run (m := m) hH.new 100
  refine fn_w 9 [17, 44] k8 hO rfl ?_
  simp [-Int.natCast_add, -BitVec.toNat_or, -BitVec.toNat_ofInt, -BitVec.toNat_and, len_slice u23, index_slice u23 sz33, load_of ld33, conv_i u33 u3, conv_i u3 u65, c1]
  refine wsem_loop 9 [17, 44] (fun d E m2 => ∃ (i wb : Nat) (os : List (Int × List Int)), ls.length - i = d ∧ i ≤ ls.length ∧ i = os.length ∧ okO os ∧ RefAt m2 hb hb wb wf (wO os) 100 ∧ Keeps m m2 [] ∧ E = [(0, .slice lo ls.length ls.length), (3, .pointer (some ⟨hb, 0, none⟩)), (4, .int .i64 i)]) _ ⟨_, ⟨0, wf, [], rfl, by omega, rfl, ⟨by simp, by simp⟩, h1, k1, rfl⟩, ⟨by rfl, by rfl, by rfl, trivial⟩⟩ ?_
  rintro d E m2 ih ⟨i, wb, os, hd, hi, hio, hos, h2, k2, rfl⟩
  have h8 := hos.1
  by_cases hlt : i < ls.length
  · have hlt' : (i : Int) < ls.length := by omega
    by_cases h8i : i < 8
    · have h8i' : (i : Int) < 8 := by omega
      have em : (i : Int) ≤ 9223372036854775807 := by omega
      have wi : IntKind.i64.wrap ((i : Int) + 1) = ((i + 1 : Nat) : Int) := by rw [wrap_i64 (by omega) (by omega)]; omega
      have hwi := hw.at_ i
      have lx : ∀ m' : Mem, Keeps m m' [] → ∃ lb, lo = some ⟨lb, 0, none⟩ ∧ loadRow m' ⟨lb, i, none⟩ 1 = some [.int .u64 (ls.getD i 0)] := fun m' k' => by
        obtain ⟨lb, rfl, ol⟩ := (hl.keep k' (by simp)).rdo (by omega)
        exact ⟨lb, rfl, ol.load1 (words_at hlt)⟩
      obtain ⟨lb, hlo, l2⟩ := lx m2 k2
      generalize ls.getD i 0 = x at *
      have x5 : IntKind.i64.wrap (x.tmod 5) = x % 5 := by rw [Int.tmod_eq_emod_of_nonneg (by omega), wrap_i64 (by omega) (by omega)]
      have x3 : IntKind.i64.wrap (x.tmod 3) = x % 3 := by rw [Int.tmod_eq_emod_of_nonneg (by omega), wrap_i64 (by omega) (by omega)]
      have t5 : IntKind.i64.wrap (5 + x % 3) = 5 + x % 3 := wrap_i64 (by omega) (by omega)
      obtain ⟨n, hn⟩ : ∃ n : Nat, x % 5 = (n : Int) := ⟨(x % 5).toNat, by omega⟩
      obtain ⟨t, ht⟩ : ∃ t : Int, 5 + x % 3 = t := ⟨_, rfl⟩
      rw [ht] at t5
      rw [hn] at x5
      have ht2 : 5 ≤ t ∧ t ≤ 7 := by omega
      have hn2 : n ≤ 4 := by omega
      have hwl := wO_len hos
      obtain ⟨_, m3, c3, rfl, ⟨wb3, h3⟩, k3⟩ := allocR_any (t := t) (n := n) hH.alloc h2 (by omega) (by omega)
      have hyes : ¬ noRoom (wO os) 100 t n := by unfold noRoom; omega
      have e1 : allocW (wO os) 100 t n = wO os ++ headOf t n :: List.replicate n 0 := by
        simp only [allocW, if_neg hyes, Int.toNat_natCast, List.append_assoc, List.cons_append, List.nil_append]
      have e2 : allocV (wO os) 100 t n = (wO os).length := by simp only [allocV, if_neg hyes]
      have e3 : allocB (wO os) 100 t n = true := by simp only [allocB, if_neg hyes]
      rw [e1] at h3
      rw [e2, e3] at c3
      simp [-Int.natCast_add, -BitVec.toNat_or, -BitVec.toNat_ofInt, -BitVec.toNat_and, len_slice u23, index_slice u23 sz33, load_of ld33, conv_i u33 u3, conv_i u3 u65, hlo, hlt, hlt', h8i, h8i', em, l2, x5, x3, ht, t5, c3]
      refine wsem_loop 9 [17, 44] (fun d2 E m4 => ∃ (k : Nat) (B : List Int), n - k = d2 ∧ k ≤ n ∧ B.length = n ∧ Wd B ∧ RefAt m4 hb hb wb3 wf (wO os ++ headOf t n :: B) 100 ∧ Keeps m m4 [] ∧ E = [(0, .slice lo ls.length ls.length), (3, .pointer (some ⟨hb, 0, none⟩)), (4, .int .i64 i), (5, .int .i64 n), (6, .int .u64 (wO os).length), (7, .bool true), (8, .int .i64 k)]) _ ⟨_, ⟨0, List.replicate n 0, rfl, by omega, by simp, wd_rep n, h3, k2.fresh k3 (by simp; omega), rfl⟩, ⟨by simp [lget, hlo], by rfl, by rfl, by rfl, by rfl, by rfl, by rfl, trivial⟩⟩ ?_
      rintro d2 E m4 ih2 ⟨k, B, hd2, hk, hBl, hBw, h4, k4, rfl⟩
      by_cases hkn : k < n
      · have hkn' : (k : Int) < n := by omega
        obtain ⟨lb', hlo', l4⟩ := lx m4 k4
        rw [hlo] at hlo'
        simp at hlo'
        subst hlo'
        have wk : IntKind.i64.wrap ((k : Int) + 1) = ((k + 1 : Nat) : Int) := by rw [wrap_i64 (by omega) (by omega)]; omega
        obtain ⟨q, hq⟩ : ∃ q, 9 * k = q := ⟨_, rfl⟩
        have w9 : IntKind.i64.wrap ((k : Int) * 9) = (q : Int) := by rw [wrap_i64 (by omega) (by omega)]; omega
        have u9 : IntKind.u64.wrap (q : Int) = (q : Int) := wrap_u64 (by omega) (by omega)
        have q0 : ¬ (q : Int) < 0 := by omega
        have qm : min q IntKind.u64.bits = q := Nat.min_eq_left (by show q ≤ 64; omega)
        obtain ⟨v, hv⟩ : ∃ v, x.fdiv (2 ^ q) = v := ⟨_, rfl⟩
        have hvw : 0 ≤ v ∧ v ≤ 18446744073709551615 := by
          have hp : (0 : Int) ≤ 2 ^ q := Int.pow_nonneg (by omega)
          rw [← hv, Int.fdiv_eq_ediv_of_nonneg _ hp]
          exact ⟨Int.ediv_nonneg hwi.1 hp, Int.le_trans (Int.ediv_le_self _ hwi.1) hwi.2⟩
        have hA : (wO os).length ≤ 1000000 := by omega
        obtain ⟨_, m5, c5, rfl, h5, k5⟩ := setR_run (r := (wO os).length) (i := k) (v := v) hH.set hH.put hH.len hH.word h4 (by omega) (by simp; omega) (wd_app.2 ⟨wO_wd hos, wd_cons.2 ⟨head_wd (by omega) (by omega), hBw⟩⟩) (by rw [getD_app_zero (by simp [wO])]; exact wO_zero os)
        rw [atV_obj (by omega) (by omega) hkn hA] at c5 h5
        have e5 : putF (wO os ++ headOf t n :: B) (((wO os).length + 1 + k : Nat) : Int) v = wO os ++ headOf t n :: B.set k v := by
          unfold putF
          rw [if_neg (by simp; omega), Int.toNat_natCast, obj_set]
        rw [e5] at h5
        simp [-Int.natCast_add, -BitVec.toNat_or, -BitVec.toNat_ofInt, -BitVec.toNat_and, len_slice u23, index_slice u23 sz33, load_of ld33, conv_i u33 u3, conv_i u3 u65, hlo, hkn, hkn', hlt, em, l4, wk, w9, u9, q0, qm, hv, c5]
        exact ih2 _ _ _ _ ⟨k + 1, B.set k v, rfl, by omega, by simp [hBl], wd_set hBw k hvw, h5, k4.fresh k5 (by simp; omega), rfl⟩ (by omega) ⟨by simp [lget, hlo], by rfl, by rfl, by rfl, by rfl, by rfl, by rfl, trivial⟩
      · have hkn' : ¬ (k : Int) < n := by omega
        simp [-Int.natCast_add, -BitVec.toNat_or, -BitVec.toNat_ofInt, -BitVec.toNat_and, len_slice u23, index_slice u23 sz33, load_of ld33, conv_i u33 u3, conv_i u3 u65, hkn, hkn', wi]
        refine ih _ _ _ _ ⟨i + 1, wb3, os ++ [(t, B)], rfl, by omega, by simp [hio], okO_snoc hos (by omega) ht2 (by omega) hBw, by rw [wO_snoc, hBl]; exact h4, k4, rfl⟩ (by omega) ⟨by rfl, by rfl, by rfl, trivial⟩
    · have h8i' : ¬ (i : Int) < 8 := by omega
      simp [-Int.natCast_add, -BitVec.toNat_or, -BitVec.toNat_ofInt, -BitVec.toNat_and, len_slice u23, index_slice u23 sz33, load_of ld33, conv_i u33 u3, conv_i u3 u65, hlt, hlt', h8i, h8i']
      exact ⟨⟨hb, wb, wf, os, hos, h2, n1, n2⟩, k2⟩
  · have hlt' : ¬ (i : Int) < ls.length := by omega
    simp [-Int.natCast_add, -BitVec.toNat_or, -BitVec.toNat_ofInt, -BitVec.toNat_and, len_slice u23, index_slice u23 sz33, load_of ld33, conv_i u33 u3, conv_i u3 u65, hlt, hlt']
    exact ⟨⟨hb, wb, wf, os, hos, h2, n1, n2⟩, k2⟩
end Go.Proofs.YtkcehgajpalgnaaDoor.base

