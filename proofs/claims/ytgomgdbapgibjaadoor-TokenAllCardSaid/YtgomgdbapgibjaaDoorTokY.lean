/-
  This text proves that turnstonehand.Bent gives some text over the abstract run.
  Condition: nothing is known of its calls ahead ('S f = []').
-/
import Derived.Test.YtgomgdbapgibjaaDoorMakH
set_option maxRecDepth 100000
set_option linter.unusedSimpArgs false
set_option linter.unusedVariables false
namespace Go.Proofs.YtgomgdbapgibjaaDoor.base
open Go.Sh gen
variable {S : Sums} {m : Mem}
theorem pick_big (hS : S 7 = []) (x k : Int) (hk : 0 < k) (hk2 : k ≤ 2000000000000) : callw Tryd.prog TT S 7 [.int .i64 x, .int .i64 k] m = some (.int .i64 (x % k), m) := by
  have hx := Int.emod_nonneg x (by omega : k ≠ 0)
  have hx2 := Int.emod_lt_of_pos x hk
  have hk0 : k ≠ 0 := by omega
  have hw : IntKind.i64.wrap (x % k) = x % k := wrap_i64 (by omega) (by omega)
  have e := emod_tmod x k hk
  refine fn_eq 5 [9] k7 hS rfl ?_
  by_cases h : x.tmod k < 0
  · rw [if_pos h] at e
    rw [e] at hw ⊢
    simp [id, hk0, h, hw]
  · rw [if_neg h] at e
    rw [e]
    simp [id, hk0, h]
theorem pick_nat (hS : S 7 = []) (x : Int) (n : Nat) (N : Int) (hN : N = n) (hn : 0 < n) (hn2 : n ≤ 2000000000000) : ∃ y : Nat, y < n ∧ ∀ m : Mem, callw Tryd.prog TT S 7 [.int .i64 x, .int .i64 N] m = some (.int .i64 y, m) := by
  subst hN
  have g1 := Int.emod_nonneg x (by omega : (n : Int) ≠ 0)
  have g2 := Int.emod_lt_of_pos x (by omega : (0 : Int) < n)
  refine ⟨(x % (n : Int)).toNat, by omega, fun m => ?_⟩
  rw [pick_big hS x n (by omega) (by omega)]
  have : ((x % (n : Int)).toNat : Int) = x % n := by omega
  rw [this]
theorem hand_at {e : TypeId} (hg : Rdo m 0 handC e 0) {y : Nat} (hy : y < 44) : ∃ w : List UInt8, w.length ≤ 9 ∧ loadRow m ⟨0, y, none⟩ 1 = some [.string ⟨w.toArray⟩] := by
  have h := hand_load hg y
  have e1 : ((y : Int) % 44).toNat = y := by omega
  rw [e1] at h
  exact ⟨_, handAt_len y, h⟩
theorem byte_of (x : Int) : ∃ d8 : UInt8, IntKind.u8.wrap x = (d8.toNat : Int) := by
  have e1 : (2 : Int) ^ IntKind.u8.bits = 256 := by decide
  have e3 : IntKind.u8.signed = false := rfl
  refine ⟨UInt8.ofNat (IntKind.u8.wrap x).toNat, ?_⟩
  have hw : 0 ≤ IntKind.u8.wrap x ∧ IntKind.u8.wrap x < 256 := by
    simp only [IntKind.wrap, e1, e3]
    simp
    omega
  generalize IntKind.u8.wrap x = y at *
  simp
  omega
set_option maxHeartbeats 4000000 in
theorem bent_run (hN : Nm S) (hB : S 9 = []) {ra ha : Option Addr} {raw how : List Int} {rf hf : Nat} (hr : Rs m ra raw.length (raw.flatMap fun n : Int => [Value.int .i64 n]) 3 1 rf) (hrf : rf < m.next) (hl : raw.length ≤ 9223372036854775807)
    (hh : Rs m ha how.length (how.flatMap fun n : Int => [Value.int .i64 n]) 3 1 hf) (hhl : how.length ≤ 9223372036854775807) {e : TypeId} (hg : Rdo m 0 handC e 0) :
    ∃ v m1, callw Tryd.prog TT S 9 [.slice ra raw.length raw.length, .slice ha how.length how.length] m = some (v, m1) ∧ (∃ s : List UInt8, v = .string ⟨s.toArray⟩ ∧ s.length ≤ 1000000001000) ∧ Keeps m m1 [] := by
  obtain ⟨v1, m1, c1, ⟨s1, rfl, hs1⟩, k1⟩ := mtext_run (m := m) hN hr hrf hl
  have hh1 := hh.keep k1 (by simp)
  have hg1 := hg.keep k1 (by simp)
  refine fn_w 37 [53, 72, 92, 112] k9 hB rfl ?_
  simp [-Int.natCast_add, len_slice u22, len_string u9, index_slice u22 sz3, load_of ld3, slice_str u9, conv_i u3 u5, buildSlice_of u39 bs5 rfl, conv_bytes u39 u5 u9, bin_str u9 .add (Or.inl rfl), indexAddr_arr u38 sz9, load_of ld9, build_arr u40 sz9 zo40, index_arr u40 sz9, part_one ld9, c1]
  refine wsem_loop 37 [53, 72, 92, 112] (fun d E m2 => ∃ (i : Nat) (s : List UInt8), 3 - i = d ∧ i ≤ 3 ∧ i ≤ how.length ∧ s.length ≤ 1000000000000 + 40 * i ∧ E = [(1, .slice ha how.length how.length), (5, .string ⟨s.toArray⟩), (6, .int .i64 i)] ∧ Keeps m m2 []) _ ⟨_, ⟨0, s1, rfl, by omega, by omega, by omega, rfl, k1⟩, ⟨by rfl, by rfl, by rfl, trivial⟩⟩ ?_
  clear hh1 hg1 c1 k1 hs1
  clear s1 m1
  rintro d E m2 ih ⟨i, s, hd, hi, hi2, hs, rfl, k2⟩
  by_cases hgo : i < how.length ∧ i < 3
  · obtain ⟨g1, g2⟩ := hgo
    have g1' : (i : Int) < how.length := by omega
    have g2' : (i : Int) < 3 := by omega
    have em : (i : Int) ≤ 9223372036854775807 := by omega
    have w1 : IntKind.i64.wrap ((i : Int) + 1) = ((i + 1 : Nat) : Int) := by rw [wrap_i64 (by omega) (by omega)]; omega
    obtain ⟨hb, hhb, ho⟩ := (hh.keep k2 (by simp)).rdo (by omega)
    have ld : loadRow m2 ⟨hb, i, none⟩ 1 = some [.int .i64 how[i]] := by
      have hf : (how.flatMap fun n : Int => [Value.int .i64 n]) = how.map (Value.int .i64) := List.map_eq_flatMap.symm
      exact ho.load1 (by rw [hf]; simp [g1])
    generalize how[i] = x at ld
    by_cases s0 : s.length = 0
    · have s00 : s = [] := List.length_eq_zero_iff.1 s0
      subst s00
      simp [-Int.natCast_add, len_slice u22, len_string u9, index_slice u22 sz3, load_of ld3, slice_str u9, conv_i u3 u5, buildSlice_of u39 bs5 rfl, conv_bytes u39 u5 u9, bin_str u9 .add (Or.inl rfl), indexAddr_arr u38 sz9, load_of ld9, build_arr u40 sz9 zo40, index_arr u40 sz9, part_one ld9, g1, g1', g2, g2']
      exact k2
    · have s0' : ¬ (s.length : Int) = 0 := by omega
      have s0a : ¬ s = [] := fun h => s0 (by rw [h]; rfl)
      obtain ⟨k, hk, pk⟩ := pick_nat hN.pick (IntKind.i64.wrap (x.tdiv 50)) s.length _ rfl (by omega) (by omega)
      obtain ⟨z, hz, pz⟩ := pick_nat hN.pick x 5 5 rfl (by omega) (by omega)
      have emk : (k : Int) ≤ 9223372036854775807 := by omega
      have hkl : k ≤ s.length := by omega
      obtain ⟨k1, hk1e⟩ : ∃ k1, k1 = k + 1 := ⟨_, rfl⟩
      have hk1 : k1 ≤ s.length := by omega
      have emk1 : (k1 : Int) ≤ 9223372036854775807 := by omega
      have wk1 : IntKind.i64.wrap ((k : Int) + 1) = (k1 : Int) := by rw [wrap_i64 (by omega) (by omega)]; omega
      obtain ⟨a, ha, hal⟩ : ∃ a, List.take k s = a ∧ a.length = k := ⟨_, rfl, by simp; omega⟩
      obtain ⟨b, hb1, hb2, hbl⟩ : ∃ b, List.take (s.length - k1) b = b ∧ List.drop k1 s = b ∧ b.length = s.length - k1 := ⟨List.drop k1 s, List.take_of_length_le (by simp), rfl, by simp⟩
      obtain ⟨c, hc1, hc2, hcl⟩ : ∃ c, List.take (s.length - k) c = c ∧ List.drop k s = c ∧ c.length = s.length - k := ⟨List.drop k s, List.take_of_length_le (by simp), rfl, by simp⟩
      rcases (by omega : z = 0 ∨ z = 1 ∨ z = 2 ∨ z = 3 ∨ z = 4) with rfl | rfl | rfl | rfl | rfl
      · obtain ⟨d8, hd8⟩ := byte_of (IntKind.i64.wrap (x.tdiv 7))
        have cv := mconv_one m2 d8
        obtain ⟨m3, hm3⟩ : ∃ m3, m2.new [Value.int .u8 (d8.toNat : Int)] 5 = m3 := ⟨_, rfl⟩
        have kn : Keeps m2 (m2.new [Value.int .u8 (d8.toNat : Int)] 5) [] := keeps_new _ _ _ _
        have ho3 := ho.keep kn (by simp)
        rw [hm3] at cv kn ho3
        have ldx : loadRow m3 ⟨hb, i, none⟩ 1 = some [.int .i64 x] := by
          have hf : (how.flatMap fun n : Int => [Value.int .i64 n]) = how.map (Value.int .i64) := List.map_eq_flatMap.symm
          have h1 := ho.load (off := i) 1 (by rw [hf]; simp; omega)
          rw [ho3.load 1 (by rw [hf]; simp; omega), ← h1, ld]
        simp (disch := first | omega | (simp only [List.length_append, List.length_cons, List.length_nil]; omega) | rfl) [-Int.natCast_add, -strOp, add_short, fold_k, fold_0, len_slice u22, len_string u9, index_slice u22 sz3, load_of ld3, slice_str u9, conv_i u3 u5, buildSlice_of u39 bs5 rfl, conv_bytes u39 u5 u9, bin_str u9 .add (Or.inl rfl), indexAddr_arr u38 sz9, load_of ld9, build_arr u40 sz9 zo40, index_arr u40 sz9, part_one ld9, g1, g1', g2, g2', em, s0, s0', s0a, hhb, ld, pk, pz, emk, hkl, hk1, emk1, wk1, ha, hb1, hb2, hc1, hc2, w1, hm3, ldx, hd8, cv, -lreads_c]
        simp [-Int.natCast_add, -strOp, lreads_c, len_slice u22, len_string u9, index_slice u22 sz3, load_of ld3, slice_str u9, conv_i u3 u5, buildSlice_of u39 bs5 rfl, conv_bytes u39 u5 u9, bin_str u9 .add (Or.inl rfl), indexAddr_arr u38 sz9, load_of ld9, build_arr u40 sz9 zo40, index_arr u40 sz9, part_one ld9, g1, ld, em, emk, hkl, hk1, emk1, wk1, ha, hb2, hb1, w1, hhb, hm3, ldx, hd8, cv]
        rw [← hhb]
        refine ih _ _ _ _ ⟨i + 1, _, rfl, by omega, by omega, ?_, rfl, k2.trans kn⟩ (by omega) ⟨by rfl, by rfl, by simp [lget], trivial⟩
        first | omega | (simp only [List.length_append, List.length_cons, List.length_nil]; omega)
      · obtain ⟨y, hy, py⟩ := pick_nat hN.pick (IntKind.i64.wrap (x.tdiv 5)) 44 44 rfl (by omega) (by omega)
        obtain ⟨w, hw, lw⟩ := hand_at (hg.keep k2 (by simp)) hy
        have emy : (y : Int) ≤ 9223372036854775807 := by omega
        simp (disch := first | omega | (simp only [List.length_append, List.length_cons, List.length_nil]; omega) | rfl) [-Int.natCast_add, -strOp, add_short, fold_k, fold_0, len_slice u22, len_string u9, index_slice u22 sz3, load_of ld3, slice_str u9, conv_i u3 u5, buildSlice_of u39 bs5 rfl, conv_bytes u39 u5 u9, bin_str u9 .add (Or.inl rfl), indexAddr_arr u38 sz9, load_of ld9, build_arr u40 sz9 zo40, index_arr u40 sz9, part_one ld9, g1, g1', g2, g2', em, s0, s0', s0a, hhb, ld, pk, pz, emk, hkl, hk1, emk1, wk1, ha, hb1, hb2, hc1, hc2, w1, ho.ln, py, lw, emy, hy]
        rw [← hhb]
        refine ih _ _ _ _ ⟨i + 1, _, rfl, by omega, by omega, ?_, rfl, k2⟩ (by omega) ⟨by rfl, by rfl, by simp [lget], trivial⟩
        first | omega | (simp only [List.length_append, List.length_cons, List.length_nil]; omega)
      · obtain ⟨y, hy, py⟩ := pick_nat hN.pick (IntKind.i64.wrap (x.tdiv 5)) 9 9 rfl (by omega) (by omega)
        have wq : IntKind.i64.wrap ((k1 : Int) + (y : Int)) = ((k1 + y : Nat) : Int) := by rw [wrap_i64 (by omega) (by omega)]; omega
        by_cases hq : k1 + y < s.length
        · have hq' : ((k1 + y : Nat) : Int) < s.length := by omega
          have emq : ((k1 + y : Nat) : Int) ≤ 9223372036854775807 := by omega
          have hqle : k1 + y ≤ s.length := by omega
          obtain ⟨q, hq1, hq2, hql⟩ : ∃ q, List.take (s.length - (k1 + y)) q = q ∧ List.drop (k1 + y) s = q ∧ q.length = s.length - (k1 + y) := ⟨List.drop (k1 + y) s, List.take_of_length_le (by simp), rfl, by simp⟩
          simp (disch := first | omega | (simp only [List.length_append, List.length_cons, List.length_nil]; omega) | rfl) [-Int.natCast_add, -strOp, add_short, fold_k, fold_0, len_slice u22, len_string u9, index_slice u22 sz3, load_of ld3, slice_str u9, conv_i u3 u5, buildSlice_of u39 bs5 rfl, conv_bytes u39 u5 u9, bin_str u9 .add (Or.inl rfl), indexAddr_arr u38 sz9, load_of ld9, build_arr u40 sz9 zo40, index_arr u40 sz9, part_one ld9, g1, g1', g2, g2', em, s0, s0', s0a, hhb, ld, pk, pz, emk, hkl, hk1, emk1, wk1, ha, hb1, hb2, hc1, hc2, w1, ho.ln, py, wq, hq, hq', emq, hqle, hq1, hq2]
          rw [← hhb]
          refine ih _ _ _ _ ⟨i + 1, _, rfl, by omega, by omega, ?_, rfl, k2⟩ (by omega) ⟨by rfl, by rfl, by simp [lget], trivial⟩
          first | omega | (simp only [List.length_append, List.length_cons, List.length_nil]; omega)
        · have hq' : ¬ ((k1 + y : Nat) : Int) < s.length := by omega
          have emq : (s.length : Int) ≤ 9223372036854775807 := by omega
          simp (disch := first | omega | (simp only [List.length_append, List.length_cons, List.length_nil]; omega) | rfl) [-Int.natCast_add, -strOp, add_short, fold_k, fold_0, len_slice u22, len_string u9, index_slice u22 sz3, load_of ld3, slice_str u9, conv_i u3 u5, buildSlice_of u39 bs5 rfl, conv_bytes u39 u5 u9, bin_str u9 .add (Or.inl rfl), indexAddr_arr u38 sz9, load_of ld9, build_arr u40 sz9 zo40, index_arr u40 sz9, part_one ld9, g1, g1', g2, g2', em, s0, s0', s0a, hhb, ld, pk, pz, emk, hkl, hk1, emk1, wk1, ha, hb1, hb2, hc1, hc2, w1, ho.ln, py, wq, hq, hq', emq]
          rw [← hhb]
          refine ih _ _ _ _ ⟨i + 1, _, rfl, by omega, by omega, ?_, rfl, k2⟩ (by omega) ⟨by rfl, by rfl, by simp [lget], trivial⟩
          first | omega | (simp only [List.length_append, List.length_cons, List.length_nil]; omega)
      · simp (disch := first | omega | (simp only [List.length_append, List.length_cons, List.length_nil]; omega) | rfl) [-Int.natCast_add, -strOp, add_short, fold_k, fold_0, len_slice u22, len_string u9, index_slice u22 sz3, load_of ld3, slice_str u9, conv_i u3 u5, buildSlice_of u39 bs5 rfl, conv_bytes u39 u5 u9, bin_str u9 .add (Or.inl rfl), indexAddr_arr u38 sz9, load_of ld9, build_arr u40 sz9 zo40, index_arr u40 sz9, part_one ld9, g1, g1', g2, g2', em, s0, s0', s0a, hhb, ld, pk, pz, emk, hkl, hk1, emk1, wk1, ha, hb1, hb2, hc1, hc2, w1, ho.ln]
        rw [← hhb]
        refine ih _ _ _ _ ⟨i + 1, _, rfl, by omega, by omega, ?_, rfl, k2⟩ (by omega) ⟨by rfl, by rfl, by simp [lget], trivial⟩
        first | omega | (simp only [List.length_append, List.length_cons, List.length_nil]; omega)
      · obtain ⟨y, hy, py⟩ := pick_nat hN.pick (IntKind.i64.wrap (x.tdiv 5)) 8 8 rfl (by omega) (by omega)
        rcases (by omega : y = 0 ∨ y = 1 ∨ y = 2 ∨ y = 3 ∨ y = 4 ∨ y = 5 ∨ y = 6 ∨ y = 7) with rfl | rfl | rfl | rfl | rfl | rfl | rfl | rfl
        all_goals
          simp (disch := first | omega | (simp only [List.length_append, List.length_cons, List.length_nil]; omega) | rfl) [-Int.natCast_add, -strOp, add_short, fold_k, fold_0, len_slice u22, len_string u9, index_slice u22 sz3, load_of ld3, slice_str u9, conv_i u3 u5, buildSlice_of u39 bs5 rfl, conv_bytes u39 u5 u9, bin_str u9 .add (Or.inl rfl), indexAddr_arr u38 sz9, load_of ld9, build_arr u40 sz9 zo40, index_arr u40 sz9, part_one ld9, g1, g1', g2, g2', em, s0, s0', s0a, hhb, ld, pk, pz, emk, hkl, hk1, emk1, wk1, ha, hb1, hb2, hc1, hc2, w1, ho.ln, py]
          rw [← hhb]
          refine ih _ _ _ _ ⟨i + 1, _, rfl, by omega, by omega, ?_, rfl, k2⟩ (by omega) ⟨by rfl, by rfl, by simp [lget], trivial⟩
          first | omega | (simp only [List.length_append, List.length_cons, List.length_nil]; omega)
  · have fin : ∃ t : List UInt8, Value.string ⟨s.toArray⟩ = .string ⟨t.toArray⟩ ∧ t.length ≤ 1000000001000 := ⟨s, rfl, by omega⟩
    by_cases a1 : i < how.length
    · have e1 : (i : Int) < how.length := by omega
      have e2 : ¬ (i : Int) < 3 := by omega
      have e3 : ¬ i < 3 := by omega
      simp [-Int.natCast_add, len_slice u22, len_string u9, index_slice u22 sz3, load_of ld3, slice_str u9, conv_i u3 u5, buildSlice_of u39 bs5 rfl, conv_bytes u39 u5 u9, bin_str u9 .add (Or.inl rfl), indexAddr_arr u38 sz9, load_of ld9, build_arr u40 sz9 zo40, index_arr u40 sz9, part_one ld9, e1, e2, a1, e3]
      exact ⟨by omega, k2⟩
    · have e1 : ¬ (i : Int) < how.length := by omega
      simp [-Int.natCast_add, len_slice u22, len_string u9, index_slice u22 sz3, load_of ld3, slice_str u9, conv_i u3 u5, buildSlice_of u39 bs5 rfl, conv_bytes u39 u5 u9, bin_str u9 .add (Or.inl rfl), indexAddr_arr u38 sz9, load_of ld9, build_arr u40 sz9 zo40, index_arr u40 sz9, part_one ld9, e1, a1]
      exact ⟨by omega, k2⟩
end Go.Proofs.YtgomgdbapgibjaaDoor.base

