/-
  This text proves what machine.Decode answers over the abstract run.
  Condition: of their calls nothing is known ahead but Name's at the ops ('nmL').
-/
import Derived.Test.YtkcehgajpalgnaaDoorMacC
set_option maxRecDepth 100000
set_option linter.unusedSimpArgs false
set_option linter.unusedVariables false
namespace Go.Proofs.YtkcehgajpalgnaaDoor.base
open Go.Sh gen
variable {S : Sums} {m : Mem}
theorem or_add {v b k : Nat} (hk : k < 8) (hv : v < 256 ^ k) (hb : b < 256) : IntKind.u64.wrap (((BitVec.ofInt 64 (v : Int) ||| BitVec.ofInt 64 (IntKind.u64.wrap ((b : Int) * 2 ^ (8 * k)))).toNat : Nat) : Int) = ((v + b * 256 ^ k : Nat) : Int) := by
  have e256 : (256 : Nat) ^ k = 2 ^ (8 * k) := by rw [Nat.pow_mul]
  have h1 : (2 : Nat) ^ (8 * k) ≤ 2 ^ 56 := Nat.pow_le_pow_right (by omega) (by omega)
  have h56 : (2 : Nat) ^ 56 = 72057594037927936 := by decide
  have h64 : (2 : Nat) ^ 64 = 18446744073709551616 := by decide
  have hb2 : b * 2 ^ (8 * k) ≤ 255 * 2 ^ (8 * k) := Nat.mul_le_mul_right _ (by omega)
  rw [e256] at hv ⊢
  obtain ⟨p, hp⟩ : ∃ p, (2 : Nat) ^ (8 * k) = p := ⟨_, rfl⟩
  have hpi : (2 : Int) ^ (8 * k) = (p : Int) := by rw [← hp]; simp
  have e1 : IntKind.u64.wrap ((b : Int) * 2 ^ (8 * k)) = ((b * p : Nat) : Int) := by
    rw [hpi, u64_mod, ← Int.natCast_mul]
    rw [hp] at hb2 h1
    omega
  rw [e1, BitVec.ofInt_natCast, BitVec.ofInt_natCast, BitVec.toNat_or, BitVec.toNat_ofNat, BitVec.toNat_ofNat]
  rw [hp] at hb2 h1 hv
  rw [Nat.mod_eq_of_lt (by omega), Nat.mod_eq_of_lt (by omega)]
  have e2 := Nat.two_pow_add_eq_or_of_lt (i := 8 * k) (b := v) (by rw [hp]; exact hv) b
  rw [hp] at e2 ⊢
  rw [Nat.or_comm, Nat.mul_comm b p, ← e2, u64_mod]
  have : p * b ≤ 255 * p := by rw [Nat.mul_comm]; exact hb2
  omega
theorem at8_lt (l : List UInt8) (i : Nat) : at8 l i < 256 := by
  have := (l.getD i 0).toNat_lt
  have e28 : (2 : Nat) ^ 8 = 256 := by decide
  unfold at8; omega
theorem at8_drop (l : List UInt8) (i j : Nat) : at8 (l.drop i) j = at8 l (i + j) := by simp [at8, List.getD_eq_getElem?_getD, List.getElem?_drop]
theorem bc_at {l : List UInt8} {j : Nat} (h : j < l.length) : (bc l)[j]? = some (.int .u8 (at8 l j : Nat)) := by
  simp [bc, at8, List.getD_eq_getElem?_getD, h]
theorem valB_step {l : List UInt8} {k : Nat} (h : 3 + k < l.length) : valB ((l.drop 3).take (k + 1)) = valB ((l.drop 3).take k) + at8 l (3 + k) * 256 ^ k := by
  have hk : k < (l.drop 3).length := by simp; omega
  rw [List.take_succ_eq_append_getElem hk, valB_snoc]
  have e1 : ((l.drop 3).take k).length = k := by simp; omega
  rw [e1]
  congr 2
  simp [at8, List.getD_eq_getElem?_getD, h]
theorem valB_take_lt (l : List UInt8) (k : Nat) : valB ((l.drop 3).take k) < 256 ^ k := by
  have h1 := valB_lt ((l.drop 3).take k)
  have h2 : ((l.drop 3).take k).length ≤ k := by simp; omega
  exact Nat.lt_of_lt_of_le h1 (Nat.pow_le_pow_right (by omega) h2)
/-- what Decode answers -/
def Decd (m m1 : Mem) (l : List UInt8) (v : Value) : Prop := ∃ oa fo, v = .tuple #[.slice oa (decP l).1.length (decP l).1.length, .int .i64 (decP l).2] ∧ Sl m1 oa (decP l).1.length (icv (decP l).1) 52 5 fo ∧ (oa ≠ none → m.next ≤ fo)
set_option maxHeartbeats 8000000 in
theorem dec_run (hN : Nr S) (hD : S 18 = []) {lo : Option Addr} {l : List UInt8} {lf : Nat} (hl : Rs m lo l.length (bc l) 5 1 lf) (hlen : l.length ≤ 1048576) :
    ∃ v m1, callw Tryd.prog TT S 18 [.slice lo l.length l.length] m = some (v, m1) ∧ Decd m m1 l v ∧ Keeps m m1 [] := by
  refine fn_w 8 [11, 14, 39, 41, 64] k18 hD rfl ?_
  have tm : (l.length : Int).tmod 11 = ((l.length % 11 : Nat) : Int) := by rw [Int.tmod_eq_emod_of_nonneg (by omega)]; omega
  by_cases h11 : l.length % 11 = 0
  · have h11' : ((l.length % 11 : Nat) : Int) = 0 := by omega
    obtain ⟨K, hK⟩ : ∃ K, l.length = 11 * K := ⟨l.length / 11, by omega⟩
    have hK2 : l.length / 11 = K := by omega
    have hdp : decP l = if opsOk l K then (if RightC (decL l K) then (decL l K, 0) else ([], 5)) else ([], 30) := by
      unfold decP; rw [if_neg (by omega), hK2]
    have t11 : (l.length : Int).tmod 11 = 0 := by rw [tm]; exact h11'
    have hops0 : opsOk l 0 := fun i hi => absurd hi (by omega)
    by_cases hK0 : K = 0
    · have hl0 : l.length = 0 := by omega
      have hln : l = [] := List.length_eq_zero_iff.1 hl0
      obtain ⟨_, m2, c2, ⟨b, rfl, hb⟩, k2⟩ := Right_run (m := m) hN (lo := none) (ls := []) (lf := 0) (le := 0) ⟨rfl, Or.inl rfl⟩ (by simp)
      have hRC : RightC [] := ⟨by simp, by simp⟩
      have hbt := hb.2 hRC
      subst hbt
      have hd : decP l = ([], 0) := by rw [hdp, hK0, if_pos hops0]; simp [decL, hRC]
      have c2' : callw Tryd.prog TT S 20 [.slice none 0 0] m = some (.bool true, m2) := c2
      simp [-Int.natCast_add, -BitVec.toNat_or, -BitVec.toNat_ofInt, -BitVec.toNat_and, len_slice u48, index_slice u48 sz5, load_of ld5, conv_i u5 u3, build_of bo52, alloc_of zo52, store_of sz52, fieldAddr_of fa52_0, load_of ld3, conv_i u5 u33, conv_i u33 u2, fieldAddr_of fa52_4, store_of sz2, load_agg ld52, buildSlice_of u22 bs52 rfl, append_s u22 sz52, slice_sl u48 sz5, t11, hl0]
      refine wsem_loop 8 [11, 14, 39, 41, 64] (fun d E m2 => m2 = m ∧ E = [(0, .slice lo 0 0), (4, .slice none 0 0)]) 0 ⟨_, ⟨rfl, rfl⟩, ⟨by rfl, by rfl, trivial⟩⟩ ?_
      rintro d E m3 ih ⟨rfl, rfl⟩
      simp [-Int.natCast_add, -BitVec.toNat_or, -BitVec.toNat_ofInt, -BitVec.toNat_and, len_slice u48, index_slice u48 sz5, load_of ld5, conv_i u5 u3, build_of bo52, alloc_of zo52, store_of sz52, fieldAddr_of fa52_0, load_of ld3, conv_i u5 u33, conv_i u33 u2, fieldAddr_of fa52_4, store_of sz2, load_agg ld52, buildSlice_of u22 bs52 rfl, append_s u22 sz52, slice_sl u48 sz5, c2']
      exact ⟨⟨none, 0, by rw [hd]; rfl, by rw [hd]; exact Sl.nil _ _ _ _, by simp⟩, k2⟩
    obtain ⟨bb, rfl, ol⟩ := hl.rdo (by omega)
    simp [-Int.natCast_add, -BitVec.toNat_or, -BitVec.toNat_ofInt, -BitVec.toNat_and, len_slice u48, index_slice u48 sz5, load_of ld5, conv_i u5 u3, build_of bo52, alloc_of zo52, store_of sz52, fieldAddr_of fa52_0, load_of ld3, conv_i u5 u33, conv_i u33 u2, fieldAddr_of fa52_4, store_of sz2, load_agg ld52, buildSlice_of u22 bs52 rfl, append_s u22 sz52, slice_sl u48 sz5, t11]
    refine wsem_loop 8 [11, 14, 39, 41, 64] (fun d E m2 => ∃ (i : Nat) (oa : Option Addr) (fo : Nat), K - i = d ∧ i ≤ K ∧ opsOk l i ∧ Sl m2 oa i (icv (decL l i)) 52 5 fo ∧ (oa ≠ none → m.next ≤ fo) ∧ Keeps m m2 [] ∧ E = [(0, .slice (some ⟨bb, 11 * i, none⟩) (l.length - 11 * i) (l.length - 11 * i)), (4, .slice oa i i)]) _ ⟨_, ⟨0, none, 0, rfl, by omega, hops0, Sl.nil _ _ _ _, by simp, Keeps.refl _ _, rfl⟩, ⟨by rfl, by rfl, trivial⟩⟩ ?_
    rintro d E m2 ih ⟨i, oa, fo, hd, hi, hops, h2, hb2, k2, rfl⟩
    by_cases hlt : i < K
    · have hrem : 0 < l.length - 11 * i := by omega
      have hrem' : (0 : Int) < ((l.length - 11 * i : Nat) : Int) := by omega
      obtain ⟨L, hL⟩ : ∃ L, l.drop (11 * i) = L := ⟨_, rfl⟩
      have hLl : 11 ≤ L.length := by rw [← hL]; simp; omega
      have ld : ∀ j, j < 11 → ∀ (m' : Mem), Rdo m' bb (bc l) 5 lf → loadRow m' ⟨bb, 11 * i + j, none⟩ 1 = some [.int .u8 (at8 L j : Nat)] := fun j hj m' o => by
        rw [← hL, at8_drop]
        exact o.load1 (bc_at (by omega))
      have ol2 := ol.keep k2 (by simp)
      have d0 := ld 0 (by omega) m2 ol2
      have d1 := ld 1 (by omega) m2 ol2
      have d2 := ld 2 (by omega) m2 ol2
      rw [Nat.add_zero] at d0
      have r0 : (0 : Nat) < l.length - 11 * i := by omega
      have r1 : (1 : Nat) < l.length - 11 * i := by omega
      have r2 : (2 : Nat) < l.length - 11 * i := by omega
      have wi : IntKind.i64.wrap ((i : Int) + 1) = ((i + 1 : Nat) : Int) := by rw [wrap_i64 (by omega) (by omega)]; omega
      have b0 := at8_lt L 0
      have b1 := at8_lt L 1
      have b2 := at8_lt L 2
      have hdec : decI L = ((at8 L 0 : Int), ((at8 L 1 / 16 : Nat) : Int), ((at8 L 1 % 16 : Nat) : Int), (at8 L 2 : Int), IntKind.i64.wrap (valB ((L.drop 3).take 8) : Nat)) := rfl
      have hop : at8 l (11 * i) = at8 L 0 := by rw [← hL, at8_drop, Nat.add_zero]
      have hds := decL_succ l i
      rw [hL] at hds
      obtain ⟨q0, hq0⟩ : ∃ q, at8 L 0 = q := ⟨_, rfl⟩
      obtain ⟨q1, hq1⟩ : ∃ q, at8 L 1 = q := ⟨_, rfl⟩
      obtain ⟨q2, hq2⟩ : ∃ q, at8 L 2 = q := ⟨_, rfl⟩
      obtain ⟨qa, hqa⟩ : ∃ q, q1 / 16 = q := ⟨_, rfl⟩
      obtain ⟨qb, hqb⟩ : ∃ q, q1 % 16 = q := ⟨_, rfl⟩
      rw [hq0] at d0 b0 hop
      rw [hq1] at d1 b1
      rw [hq2] at d2 b2
      rw [hq0, hq1, hq2, hqa, hqb] at hdec
      have v0 : IntKind.i64.wrap (q0 : Int) = (q0 : Int) := wrap_i64 (by omega) (by omega)
      have v1 : IntKind.u8.wrap ((q1 : Int) / 16) = (qa : Int) := by
        have h := u8_wrap ((q1 : Int) / 16)
        have h2 := u8_nat ((q1 : Int) / 16)
        omega
      have v1' : IntKind.i64.wrap (qa : Int) = (qa : Int) := wrap_i64 (by omega) (by omega)
      have v2 : (q1 : Int).tmod 16 = (qb : Int) := by rw [Int.tmod_eq_emod_of_nonneg (by omega)]; omega
      have v2' : IntKind.i64.wrap (qb : Int) = (qb : Int) := wrap_i64 (by omega) (by omega)
      have v3 : IntKind.i64.wrap (q2 : Int) = (q2 : Int) := wrap_i64 (by omega) (by omega)
      obtain ⟨o3, k3, n3⟩ := new_own (m := m2) (cs := [.int .i64 0, .int .i64 0, .int .i64 0, .int .i64 0, .int .i64 0]) (e := 52) rfl
      obtain ⟨m4, e4, o4, k4⟩ := store_own (r := _) rfl o3 (off := 0) (vs := [.int .i64 (q0 : Int), .int .i64 (qa : Int), .int .i64 (qb : Int), .int .i64 (q2 : Int), .int .i64 0]) (by simp) (by simp [one_int])
      simp [over] at o4
      have k24 := k3.fresh k4 (by simp)
      have ol3 := ol2.keep k3 (by simp)
      have ol4 := ol2.keep k24 (by simp)
      have d03 := ld 0 (by omega) _ ol3
      have d13 := ld 1 (by omega) _ ol3
      have d23 := ld 2 (by omega) _ ol3
      have d04 := ld 0 (by omega) _ ol4
      have d14 := ld 1 (by omega) _ ol4
      have d24 := ld 2 (by omega) _ ol4
      rw [Nat.add_zero] at d03 d04
      rw [hq0] at d03 d04
      rw [hq1] at d13 d14
      rw [hq2] at d23 d24
      have q40 := o4.load1 (off := 0) rfl
      have h4 := h2.keepz k24 (by simp)
      have kk := k2.trans k24
      have hnm := fun m' => name_run (m := m') hN.name (q0 : Int)
      by_cases hopk : 1 ≤ q0 ∧ q0 ≤ 27
      · have hne : (nameF (q0 : Int)).isEmpty = false := by cases h : nameF (q0 : Int) with
          | nil => exact absurd (by omega) ((nameF_ne (q0 : Int)).1 h)
          | cons a r => rfl
        simp [-Int.natCast_add, -BitVec.toNat_or, -BitVec.toNat_ofInt, -BitVec.toNat_and, len_slice u48, index_slice u48 sz5, load_of ld5, conv_i u5 u3, build_of bo52, alloc_of zo52, store_of sz52, fieldAddr_of fa52_0, load_of ld3, conv_i u5 u33, conv_i u33 u2, fieldAddr_of fa52_4, store_of sz2, load_agg ld52, buildSlice_of u22 bs52 rfl, append_s u22 sz52, slice_sl u48 sz5, hrem, hrem', d0, d1, d2, r0, r1, r2, v0, v1, v1', v2, v2', v3, e4, d03, d13, d23, d04, d14, d24, q40, hnm, hne]
        refine wsem_loop 8 [11, 14, 39, 41, 64] (fun d2 E m5 => ∃ k : Nat, 8 - k = d2 ∧ k ≤ 8 ∧ m5 = m4 ∧ E = [(0, .slice (some ⟨bb, 11 * i, none⟩) (l.length - 11 * i) (l.length - 11 * i)), (4, .slice oa i i), (5, .pointer (some ⟨m2.next, 0, none⟩)), (6, .int .u64 (valB ((L.drop 3).take k) : Nat)), (7, .int .i64 k)]) _ ⟨_, ⟨0, rfl, by omega, rfl, rfl⟩, ⟨by rfl, by rfl, by rfl, by rfl, by rfl, trivial⟩⟩ ?_
        rintro d2 E m5 ih2 ⟨k, hd2, hk, rfl, rfl⟩
        by_cases hkl : k < 8
        · have hkl' : (k : Int) < 8 := by omega
          have wk : IntKind.i64.wrap ((k : Int) + 1) = ((k + 1 : Nat) : Int) := by rw [wrap_i64 (by omega) (by omega)]; omega
          have w8 : IntKind.i64.wrap (8 * (k : Int)) = 8 * (k : Int) := wrap_i64 (by omega) (by omega)
          obtain ⟨j, hj⟩ : ∃ j, 3 + k = j := ⟨_, rfl⟩
          have w3 : IntKind.i64.wrap (3 + (k : Int)) = (j : Int) := by rw [wrap_i64 (by omega) (by omega)]; omega
          have c8 : ¬ 8 * (k : Int) < 0 := by omega
          have dk := ld j (by omega) m5 ol4
          have rj : j < l.length - 11 * i := by omega
          have ej : (j : Int) ≤ 9223372036854775807 := by omega
          have hvs := valB_step (l := L) (k := k) (by omega)
          rw [hj] at hvs
          have hvl := valB_take_lt L k
          have hbl := at8_lt L j
          have hor := or_add hkl hvl hbl
          rw [← hvs] at hor
          obtain ⟨v', hv'⟩ : ∃ v', valB ((L.drop 3).take (k + 1)) = v' := ⟨_, rfl⟩
          rw [hv'] at hor hvs
          generalize valB ((L.drop 3).take k) = v at *
          generalize at8 L j = b at *
          have wb : IntKind.u64.wrap (b : Int) = (b : Int) := wrap_u64 (by omega) (by omega)
          have em8 : (8 * (k : Int)).toNat = 8 * k := by omega
          have emin : min (8 * k) 64 = 8 * k := Nat.min_eq_left (by omega)
          have ebits : IntKind.u64.bits = 64 := rfl
          simp [-Int.natCast_add, -BitVec.toNat_or, -BitVec.toNat_ofInt, -BitVec.toNat_and, len_slice u48, index_slice u48 sz5, load_of ld5, conv_i u5 u3, build_of bo52, alloc_of zo52, store_of sz52, fieldAddr_of fa52_0, load_of ld3, conv_i u5 u33, conv_i u33 u2, fieldAddr_of fa52_4, store_of sz2, load_agg ld52, buildSlice_of u22 bs52 rfl, append_s u22 sz52, slice_sl u48 sz5, hkl, hkl', w3, w8, dk, rj, ej, wb, c8, em8, ebits, emin, wk]
          rw [BitVec.ofInt_natCast] at hor
          exact ih2 _ _ _ _ ⟨k + 1, rfl, by omega, rfl, rfl⟩ (by omega) ⟨by rfl, by rfl, by rfl, by rw [hv']; exact congrArg (fun z : Int => some (Value.int .u64 z)) hor, by rfl, trivial⟩
        · have hkl' : ¬ (k : Int) < 8 := by omega
          have ek : k = 8 := by omega
          subst ek
          obtain ⟨vN, hvN⟩ : ∃ vN, IntKind.i64.wrap (valB ((L.drop 3).take 8) : Nat) = vN := ⟨_, rfl⟩
          rw [hvN] at hdec
          obtain ⟨m6, e6, o6, k6⟩ := store_own (r := _) rfl o4 (off := 4) (vs := [.int .i64 vN]) (by simp) (by simp [one_int])
          simp [over] at o6
          have l6 := o6.load (off := 0) 5 (by simp)
          simp [window] at l6
          have k26 := k24.fresh k6 (by simp)
          have h6 := h4.keepz k6 (fun hn => by have := h2.sr.flt hn; simp; omega)
          have ol6 := ol2.keep k26 (by simp)
          simp [-Int.natCast_add, -BitVec.toNat_or, -BitVec.toNat_ofInt, -BitVec.toNat_and, len_slice u48, index_slice u48 sz5, load_of ld5, conv_i u5 u3, build_of bo52, alloc_of zo52, store_of sz52, fieldAddr_of fa52_0, load_of ld3, conv_i u5 u33, conv_i u33 u2, fieldAddr_of fa52_4, store_of sz2, load_agg ld52, buildSlice_of u22 bs52 rfl, append_s u22 sz52, slice_sl u48 sz5, hvN, e6, l6]
          generalize hra : sappend _ _ _ _ _ _ = ra
          obtain ⟨m7, nb7, f7, rfl, o7, k7, hf7, _, _⟩ := app_slz hra u22 ap52 h6 (by omega) (by simp) (by simp [one_int]) (by omega) (by omega)
          have o6x := o6.keep k7 (by
            split
            · simp
            · rename_i hn
              have := h2.sr.flt hn
              simp; omega)
          have l7 := o6x.load (off := 0) 5 (by simp)
          simp [window] at l7
          have l6n := (o6.ln [.int .i64 (q0 : Int), .int .i64 (qa : Int), .int .i64 (qb : Int), .int .i64 (q2 : Int), .int .i64 vN] 52 0 5).trans l6
          have hel : elemIs m7 bb 5 = true := by
            have o := ol6.keep k7 (by
              split
              · simp
              · rename_i hn
                have := ol.flt
                have := hb2 hn
                simp; omega)
            simp [elemIs, o.blk]
          have e11 : 11 ≤ l.length - 11 * i := by omega
          simp [-Int.natCast_add, -BitVec.toNat_or, -BitVec.toNat_ofInt, -BitVec.toNat_and, len_slice u48, index_slice u48 sz5, load_of ld5, conv_i u5 u3, build_of bo52, alloc_of zo52, store_of sz52, fieldAddr_of fa52_0, load_of ld3, conv_i u5 u33, conv_i u33 u2, fieldAddr_of fa52_4, store_of sz2, load_agg ld52, buildSlice_of u22 bs52 rfl, append_s u22 sz52, slice_sl u48 sz5, l6, l6n, l7, e11, hel]
          have s7 : Sl m7 (some ⟨nb7, 0, none⟩) (i + 1) (icv (decL l (i + 1))) 52 5 f7 := by
            rw [hds, hdec]
            refine Sl.of (by simpa [icv] using o7) ?_
            rw [icv_len, List.length_append, decL_len]; rfl
          have hb7 : m.next ≤ f7 := by
            rcases hf7 with ⟨h, h'⟩ | h
            · rw [h']; exact hb2 h
            · have := k2.1; have := k26.1; omega
          have ops1 : opsOk l (i + 1) := fun j hj => by
            rcases (by omega : j < i ∨ j = i) with h | rfl
            · exact hops j h
            · rw [hop]; exact hopk
          have e1 : 11 * (i + 1) = 11 * i + 11 := by omega
          have e2 : l.length - 11 * (i + 1) = l.length - 11 * i - 11 := by omega
          have kk7 : Keeps m m7 [] := (k2.trans k26).fresh k7 (by
            intro f hf
            split at hf
            · simp at hf
            · rename_i hn
              simp at hf; rw [hf]; exact hb2 hn)
          exact ih _ _ _ _ ⟨i + 1, _, f7, rfl, by omega, ops1, s7, fun _ => hb7, kk7, rfl⟩ (by omega) ⟨by simp [lget, e1, Nat.sub_sub], by rfl, trivial⟩
      · have hne : (nameF (q0 : Int)).isEmpty = true := by rw [(nameF_ne (q0 : Int)).2 (by omega)]; rfl
        have hnop : ¬ opsOk l K := fun h => hopk (by have := h i hlt; rw [hop] at this; exact this)
        rw [if_neg hnop] at hdp
        simp [-Int.natCast_add, -BitVec.toNat_or, -BitVec.toNat_ofInt, -BitVec.toNat_and, len_slice u48, index_slice u48 sz5, load_of ld5, conv_i u5 u3, build_of bo52, alloc_of zo52, store_of sz52, fieldAddr_of fa52_0, load_of ld3, conv_i u5 u33, conv_i u33 u2, fieldAddr_of fa52_4, store_of sz2, load_agg ld52, buildSlice_of u22 bs52 rfl, append_s u22 sz52, slice_sl u48 sz5, hrem, hrem', d0, d1, d2, r0, r1, r2, v0, v1, v1', v2, v2', v3, e4, d03, d13, d23, d04, d14, d24, q40, hnm, hne]
        exact ⟨⟨none, 0, by rw [hdp]; rfl, by rw [hdp]; exact Sl.nil _ _ _ _, by simp⟩, kk⟩
    · have hiK : i = K := by omega
      subst hiK
      have hrem : l.length - 11 * i = 0 := by omega
      obtain ⟨_, m3, c3, ⟨b, rfl, hb⟩, k3⟩ := Right_run (m := m2) hN (ls := decL l i) (lo := oa) (lf := fo) (le := 52) (by rw [decL_len]; exact h2.rs) (by rw [decL_len]; omega)
      rw [decL_len] at c3
      have kk := k2.trans k3
      rw [if_pos hops] at hdp
      have s3 := h2.keepz k3 (by simp)
      cases b with
      | true =>
        have hR := hb.1 rfl
        rw [if_pos hR] at hdp
        simp [-Int.natCast_add, -BitVec.toNat_or, -BitVec.toNat_ofInt, -BitVec.toNat_and, len_slice u48, index_slice u48 sz5, load_of ld5, conv_i u5 u3, build_of bo52, alloc_of zo52, store_of sz52, fieldAddr_of fa52_0, load_of ld3, conv_i u5 u33, conv_i u33 u2, fieldAddr_of fa52_4, store_of sz2, load_agg ld52, buildSlice_of u22 bs52 rfl, append_s u22 sz52, slice_sl u48 sz5, hrem, c3]
        refine ⟨⟨oa, fo, by rw [hdp]; simp [decL_len], by rw [hdp]; simpa [decL_len] using s3, hb2⟩, kk⟩
      | false =>
        have hR : ¬ RightC (decL l i) := fun h => by have := hb.2 h; simp at this
        rw [if_neg hR] at hdp
        simp [-Int.natCast_add, -BitVec.toNat_or, -BitVec.toNat_ofInt, -BitVec.toNat_and, len_slice u48, index_slice u48 sz5, load_of ld5, conv_i u5 u3, build_of bo52, alloc_of zo52, store_of sz52, fieldAddr_of fa52_0, load_of ld3, conv_i u5 u33, conv_i u33 u2, fieldAddr_of fa52_4, store_of sz2, load_agg ld52, buildSlice_of u22 bs52 rfl, append_s u22 sz52, slice_sl u48 sz5, hrem, c3]
        exact ⟨⟨none, 0, by rw [hdp]; rfl, by rw [hdp]; exact Sl.nil _ _ _ _, by simp⟩, kk⟩
  · have h11' : ¬ ((l.length % 11 : Nat) : Int) = 0 := by omega
    have h11a : ¬ (l.length : Int) % 11 = 0 := by omega
    have hdp : decP l = ([], 7) := by unfold decP; rw [if_pos (by omega)]
    simp [-Int.natCast_add, -BitVec.toNat_or, -BitVec.toNat_ofInt, -BitVec.toNat_and, len_slice u48, index_slice u48 sz5, load_of ld5, conv_i u5 u3, build_of bo52, alloc_of zo52, store_of sz52, fieldAddr_of fa52_0, load_of ld3, conv_i u5 u33, conv_i u33 u2, fieldAddr_of fa52_4, store_of sz2, load_agg ld52, buildSlice_of u22 bs52 rfl, append_s u22 sz52, slice_sl u48 sz5, tm, h11a]
    exact ⟨⟨none, 0, by rw [hdp]; rfl, by rw [hdp]; exact Sl.nil _ _ _ _, by simp⟩, Keeps.refl _ _⟩
end Go.Proofs.YtkcehgajpalgnaaDoor.base

