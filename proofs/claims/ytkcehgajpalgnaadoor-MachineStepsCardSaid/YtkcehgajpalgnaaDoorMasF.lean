/-
  This text proves that turnstonelaw25.list gives some instructions over the abstract run, no more than it may.
  Condition: of their calls nothing is known ahead but Name's at the ops ('nmL').
-/
import Derived.Test.YtkcehgajpalgnaaDoorMasB
set_option maxRecDepth 100000
set_option linter.unusedSimpArgs false
set_option linter.unusedVariables false
namespace Go.Proofs.YtkcehgajpalgnaaDoor.base
open Go.Sh gen
variable {S : Sums} {m : Mem}
def n64 (x : In5) : Prop := -9223372036854775808 ≤ x.2.2.2.2 ∧ x.2.2.2.2 ≤ 9223372036854775807
theorem wrap_in (z : Int) : -9223372036854775808 ≤ IntKind.i64.wrap z ∧ IntKind.i64.wrap z ≤ 9223372036854775807 := by
  rw [i64_mod]; split <;> omega
set_option maxHeartbeats 16000000 in
theorem list_run (hN : Nr S) (hS : S 7 = []) (hP : S 11 = []) {lo : Option Addr} {ls : List In5} {lf le : Nat} (hl : Rs m lo ls.length (icv ls) le 5 lf) (h64 : ∀ x ∈ ls, n64 x) {n : Nat} (hn : n ≤ 60) {any : Bool} :
    ∃ v m1, callw Tryd.prog TT S 7 [.slice lo ls.length ls.length, .int .i64 n, .bool any] m = some (v, m1) ∧ (∃ oa fo, ∃ c : List In5, v = .slice oa c.length c.length ∧ Sl m1 oa c.length (icv c) 52 5 fo ∧ (oa ≠ none → m.next ≤ fo) ∧ c.length ≤ 60 ∧ ∀ x ∈ c, n64 x) ∧ Keeps m m1 [] := by
  refine fn_w 81 [82, 85, 88, 93] k7 hS rfl ?_
  obtain ⟨N, hN1⟩ : ∃ N : Nat, min ls.length n = N := ⟨_, rfl⟩
  have hmin : (if n < ls.length then (n : Int) else ls.length) = (N : Int) := by split <;> omega
  have hN2 : N ≤ 60 := by omega
  have hN3 : N ≤ ls.length := by omega
  simp [-Int.natCast_add, -BitVec.toNat_or, -BitVec.toNat_ofInt, -BitVec.toNat_and, len_slice u22, index_slice u22 sz52, load_agg ld52, alloc_of zo52, store_of sz52, fieldAddr_of fa52_0, load_of ld3, fieldAddr_of fa52_1, fieldAddr_of fa52_2, fieldAddr_of fa52_3, fieldAddr_of fa52_4, load_of ld2, build_of bo52, store_of sz2, store_of sz3, buildSlice_of u22 bs52 rfl, append_s u22 sz52, hmin]
  refine wsem_loop 81 [82, 85, 88, 93] (fun d E m2 => ∃ (i : Nat) (oa : Option Addr) (fo : Nat) (c : List In5), N - i = d ∧ i ≤ N ∧ c.length = i ∧ Sl m2 oa i (icv c) 52 5 fo ∧ (oa ≠ none → m.next ≤ fo) ∧ (∀ x ∈ c, n64 x) ∧ Keeps m m2 [] ∧ E = [(0, .slice lo ls.length ls.length), (2, .bool any), (7, .slice oa i i), (8, .int .i64 N), (9, .int .i64 i)]) _ ⟨_, ⟨0, none, 0, [], rfl, by omega, rfl, Sl.nil _ _ _ _, by simp, by simp, Keeps.refl _ _, rfl⟩, ⟨by rfl, by rfl, by rfl, by rfl, by rfl, trivial⟩⟩ ?_
  rintro d E m2 ih ⟨i, oa, fo, c, hd, hi, hcl, h2, hb2, hc64, k2, rfl⟩
  by_cases hlt : i < N
  · have em : (i : Int) ≤ 9223372036854775807 := by omega
    have hlt' : (i : Int) < N := by omega
    have hll : i < ls.length := by omega
    have hll' : (i : Int) < ls.length := by omega
    have wi : IntKind.i64.wrap ((i : Int) + 1) = ((i + 1 : Nat) : Int) := by rw [wrap_i64 (by omega) (by omega)]; omega
    obtain ⟨lb, hlo, ol⟩ := (hl.keep k2 (by simp)).rdo (by omega)
    have ld : loadRow m2 ⟨lb, i * 5, none⟩ 5 = some (icl ls[i]) := by rw [ol.load 5 (by rw [icv_len]; omega), icv_win hll]
    have hx64 := h64 _ (List.getElem_mem hll)
    generalize ls[i] = x at *
    obtain ⟨o3, k3, n3⟩ := new_own (m := m2) (cs := [.int .i64 0, .int .i64 0, .int .i64 0, .int .i64 0, .int .i64 0]) (e := 52) rfl
    obtain ⟨m4, e4, o4, k4⟩ := store_own (r := _) rfl o3 (off := 0) (vs := icl x) (by simp) (by simp [one_int])
    simp [over] at o4
    have k24 := k3.fresh k4 (by simp)
    obtain ⟨xb, hxb⟩ : ∃ xb, m2.next = xb := ⟨_, rfl⟩
    rw [hxb] at o4 e4 n3
    apply cut2_ (fun (mX : Mem) (X : In5) => Own mX xb (icl X) 52 xb ∧ n64 X ∧ Keeps m2 mX [])
    case main =>
      by_cases ha : any = true
      · intro meth
        simp [-Int.natCast_add, -w7_32, -BitVec.toNat_or, -BitVec.toNat_ofInt, -BitVec.toNat_and, len_slice u22, index_slice u22 sz52, load_agg ld52, alloc_of zo52, store_of sz52, fieldAddr_of fa52_0, load_of ld3, fieldAddr_of fa52_1, fieldAddr_of fa52_2, fieldAddr_of fa52_3, fieldAddr_of fa52_4, load_of ld2, build_of bo52, store_of sz2, store_of sz3, buildSlice_of u22 bs52 rfl, append_s u22 sz52, hlo, hxb, hlt', hlt, hll, hll', em, ld, e4, ha]
        obtain ⟨m5, hm5⟩ : ∃ m5, m4 = m5 := ⟨_, rfl⟩
        obtain ⟨X, hX⟩ : ∃ X, x = X := ⟨_, rfl⟩
        rw [hm5] at o4 k24 ⊢
        rw [hX] at o4 hx64
        exact w_sub (E := [(0, .slice lo ls.length ls.length), (2, .bool any), (7, .slice oa i i), (8, .int .i64 N), (9, .int .i64 i), (10, .pointer (some ⟨xb, 0, none⟩))]) (meth m5 X ⟨o4, hx64, k24⟩) ⟨by simp [lget, hlo], by simp [lget, ha], by rfl, by rfl, by rfl, by rfl, trivial⟩
      · intro meth
        have haf : any = false := by simpa using ha
        have q0 := o4.load1 (off := 0) rfl
        have q1 := o4.load1 (off := 1) rfl
        have q2 := o4.load1 (off := 2) rfl
        have q3 := o4.load1 (off := 3) rfl
        have q4 := o4.load1 (off := 4) rfl
        have pk0 := fun m' => pick_run (m := m') hP x.1 27 (by omega) (by omega)
        have pk1 := fun m' => pick_run (m := m') hP x.2.1 6 (by omega) (by omega)
        have pk2 := fun m' => pick_run (m := m') hP x.2.2.1 6 (by omega) (by omega)
        have pk4 := fun m' => pick_run (m := m') hP (x.2.2.2.2.tmod 100000) 60 (by omega) (by omega)
        have pk3 := fun m' => pick_run (m := m') hP x.2.2.2.1 6 (by omega) (by omega)
        simp [-Int.natCast_add, -w7_32, -BitVec.toNat_or, -BitVec.toNat_ofInt, -BitVec.toNat_and, len_slice u22, index_slice u22 sz52, load_agg ld52, alloc_of zo52, store_of sz52, fieldAddr_of fa52_0, load_of ld3, fieldAddr_of fa52_1, fieldAddr_of fa52_2, fieldAddr_of fa52_3, fieldAddr_of fa52_4, load_of ld2, build_of bo52, store_of sz2, store_of sz3, buildSlice_of u22 bs52 rfl, append_s u22 sz52, hlo, hxb, hlt', hlt, hll, hll', em, ld, e4, ha, q0, q1, q2, q3, q4, pk0, pk1, pk2, pk3, pk4]
        have z0 := Int.emod_nonneg x.1 (by omega : (27 : Int) ≠ 0)
        have z0' := Int.emod_lt_of_pos x.1 (by omega : (0 : Int) < 27)
        have z4 := Int.emod_nonneg (x.2.2.2.2.tmod 100000) (by omega : (60 : Int) ≠ 0)
        have z4' := Int.emod_lt_of_pos (x.2.2.2.2.tmod 100000) (by omega : (0 : Int) < 60)
        obtain ⟨op, hop⟩ : ∃ op, IntKind.i64.wrap (1 + x.1 % 27) = op := ⟨_, rfl⟩
        obtain ⟨nn, hnn⟩ : ∃ nn, IntKind.i64.wrap ((x.2.2.2.2.tmod 100000) % 60 - 2) = nn := ⟨_, rfl⟩
        have op1 : 1 ≤ op ∧ op ≤ 27 := by rw [wrap_i64 (by omega) (by omega)] at hop; omega
        have nn1 : -2 ≤ nn ∧ nn ≤ 57 := by rw [wrap_i64 (by omega) (by omega)] at hnn; omega
        rw [hop, hnn]
        generalize x.2.1 % 6 = a' at *
        generalize x.2.2.1 % 6 = b' at *
        generalize x.2.2.2.1 % 6 = c' at *
        generalize hra : storeRow _ _ _ = ra
        obtain ⟨m6, rfl, o6, k6⟩ := store_own hra o4 (by simp) (by simp [one_int])
        simp [over] at o6
        have k26 := k24.fresh k6 (by simp; omega)
        have q60 := o6.load1 (off := 0) rfl
        have q64 := o6.load1 (off := 4) rfl
        simp [-Int.natCast_add, -w7_32, -BitVec.toNat_or, -BitVec.toNat_ofInt, -BitVec.toNat_and, len_slice u22, index_slice u22 sz52, load_agg ld52, alloc_of zo52, store_of sz52, fieldAddr_of fa52_0, load_of ld3, fieldAddr_of fa52_1, fieldAddr_of fa52_2, fieldAddr_of fa52_3, fieldAddr_of fa52_4, load_of ld2, build_of bo52, store_of sz2, store_of sz3, buildSlice_of u22 bs52 rfl, append_s u22 sz52, q0, q1, q2, q3, q4]
        apply cut2_ (fun (mY : Mem) (Y : In5) => Own mY xb (icl Y) 52 xb ∧ n64 Y ∧ Keeps m2 mY [])
        case main =>
          by_cases hj : op = 23 ∨ op = 24
          · have wn2 : IntKind.i64.wrap (nn + 2) = nn + 2 := wrap_i64 (by omega) (by omega)
            have wN1 : IntKind.i64.wrap ((N : Int) + 1) = (N : Int) + 1 := wrap_i64 (by omega) (by omega)
            have pj := fun m' => pick_run (m := m') hP (nn + 2) ((N : Int) + 1) (by omega) (by omega)
            have zj := Int.emod_nonneg (nn + 2) (by omega : (N : Int) + 1 ≠ 0)
            have zj' := Int.emod_lt_of_pos (nn + 2) (by omega : (0 : Int) < (N : Int) + 1)
            obtain ⟨nj, hnj⟩ : ∃ nj, (nn + 2) % ((N : Int) + 1) = nj := ⟨_, rfl⟩
            rw [hnj] at pj zj zj'
            obtain ⟨m7, e7, o7, k7⟩ := store_own (r := _) rfl o6 (off := 4) (vs := [.int .i64 nj]) (by simp) (by simp [one_int])
            simp [over] at o7
            have k27 := k26.fresh k7 (by simp; omega)
            obtain ⟨Y, hY⟩ : ∃ Y : In5, (op, a', b', c', nj) = Y := ⟨_, rfl⟩
            have o7' : Own m7 xb (icl Y) 52 xb := by rw [← hY]; exact o7
            have h7 : n64 Y := by rw [← hY]; exact ⟨by simp only; omega, by simp only; omega⟩
            intro meth2
            have fin := meth2 m7 Y ⟨o7', h7, k27⟩
            rcases hj with e | e
            · simp [-Int.natCast_add, -w7_32, -w7_18, -BitVec.toNat_or, -BitVec.toNat_ofInt, -BitVec.toNat_and, len_slice u22, index_slice u22 sz52, load_agg ld52, alloc_of zo52, store_of sz52, fieldAddr_of fa52_0, load_of ld3, fieldAddr_of fa52_1, fieldAddr_of fa52_2, fieldAddr_of fa52_3, fieldAddr_of fa52_4, load_of ld2, build_of bo52, store_of sz2, store_of sz3, buildSlice_of u22 bs52 rfl, append_s u22 sz52, q60, e, q64, wn2, wN1, pj, e7]
              exact w_sub (E := [(0, .slice lo ls.length ls.length), (2, .bool any), (7, .slice oa i i), (8, .int .i64 N), (9, .int .i64 i), (10, .pointer (some ⟨xb, 0, none⟩))]) fin ⟨by simp [lget, hlo], by simp [lget, haf], by rfl, by rfl, by rfl, by rfl, trivial⟩
            · simp [-Int.natCast_add, -w7_32, -w7_18, -BitVec.toNat_or, -BitVec.toNat_ofInt, -BitVec.toNat_and, len_slice u22, index_slice u22 sz52, load_agg ld52, alloc_of zo52, store_of sz52, fieldAddr_of fa52_0, load_of ld3, fieldAddr_of fa52_1, fieldAddr_of fa52_2, fieldAddr_of fa52_3, fieldAddr_of fa52_4, load_of ld2, build_of bo52, store_of sz2, store_of sz3, buildSlice_of u22 bs52 rfl, append_s u22 sz52, q60, e, q64, wn2, wN1, pj, e7]
              exact w_sub (E := [(0, .slice lo ls.length ls.length), (2, .bool any), (7, .slice oa i i), (8, .int .i64 N), (9, .int .i64 i), (10, .pointer (some ⟨xb, 0, none⟩))]) fin ⟨by simp [lget, hlo], by simp [lget, haf], by rfl, by rfl, by rfl, by rfl, trivial⟩
          · have j1 : ¬ op = 23 := fun h => hj (Or.inl h)
            have j2 : ¬ op = 24 := fun h => hj (Or.inr h)
            intro meth2
            by_cases hg : op = 25 ∨ op = 26 ∨ op = 27 ∨ op = 3 ∨ op = 4
            · obtain ⟨mx, hmx⟩ : ∃ mx, (if 0 < nn then nn else 0) = mx := ⟨_, rfl⟩
              have mx1 : 0 ≤ mx ∧ mx ≤ 57 := by rw [← hmx]; split <;> omega
              obtain ⟨m7, e7, o7, k7⟩ := store_own (r := _) rfl o6 (off := 4) (vs := [.int .i64 mx]) (by simp) (by simp [one_int])
              simp [over] at o7
              have k27 := k26.fresh k7 (by simp; omega)
              obtain ⟨Y, hY⟩ : ∃ Y : In5, (op, a', b', c', mx) = Y := ⟨_, rfl⟩
              have o7' : Own m7 xb (icl Y) 52 xb := by rw [← hY]; exact o7
              have h7 : n64 Y := by rw [← hY]; exact ⟨by simp only; omega, by simp only; omega⟩
              have fin := meth2 m7 Y ⟨o7', h7, k27⟩
              rcases hg with e | e | e | e | e
              all_goals
                simp [-Int.natCast_add, -w7_32, -w7_18, -BitVec.toNat_or, -BitVec.toNat_ofInt, -BitVec.toNat_and, len_slice u22, index_slice u22 sz52, load_agg ld52, alloc_of zo52, store_of sz52, fieldAddr_of fa52_0, load_of ld3, fieldAddr_of fa52_1, fieldAddr_of fa52_2, fieldAddr_of fa52_3, fieldAddr_of fa52_4, load_of ld2, build_of bo52, store_of sz2, store_of sz3, buildSlice_of u22 bs52 rfl, append_s u22 sz52, q60, e, q64, hmx, e7]
                exact w_sub (E := [(0, .slice lo ls.length ls.length), (2, .bool any), (7, .slice oa i i), (8, .int .i64 N), (9, .int .i64 i), (10, .pointer (some ⟨xb, 0, none⟩))]) fin ⟨by simp [lget, hlo], by simp [lget, haf], by rfl, by rfl, by rfl, by rfl, trivial⟩
            · simp only [not_or] at hg
              obtain ⟨g1, g2, g3, g4, g5⟩ := hg
              obtain ⟨m7, hm7⟩ : ∃ m7, m6 = m7 := ⟨_, rfl⟩
              obtain ⟨Y, hY⟩ : ∃ Y : In5, (op, a', b', c', nn) = Y := ⟨_, rfl⟩
              have h7 : n64 Y := by rw [← hY]; exact ⟨by simp only; omega, by simp only; omega⟩
              have o7' : Own m7 xb (icl Y) 52 xb := by rw [← hY, ← hm7]; exact o6
              have fin := meth2 m7 Y ⟨o7', h7, by rw [← hm7]; exact k26⟩
              simp [-Int.natCast_add, -w7_32, -w7_18, -BitVec.toNat_or, -BitVec.toNat_ofInt, -BitVec.toNat_and, len_slice u22, index_slice u22 sz52, load_agg ld52, alloc_of zo52, store_of sz52, fieldAddr_of fa52_0, load_of ld3, fieldAddr_of fa52_1, fieldAddr_of fa52_2, fieldAddr_of fa52_3, fieldAddr_of fa52_4, load_of ld2, build_of bo52, store_of sz2, store_of sz3, buildSlice_of u22 bs52 rfl, append_s u22 sz52, q60, j1, j2, g1, g2, g3, g4, g5]
              rw [hm7]
              exact w_sub (E := [(0, .slice lo ls.length ls.length), (2, .bool any), (7, .slice oa i i), (8, .int .i64 N), (9, .int .i64 i), (10, .pointer (some ⟨xb, 0, none⟩))]) fin ⟨by simp [lget, hlo], by simp [lget, haf], by rfl, by rfl, by rfl, by rfl, trivial⟩
        rintro m7 Y ⟨o7, h7, k7⟩
        clear q0 q1 q2 q3 q4 pk0 pk1 pk2 pk3 pk4 q60 q64 o6 k6 k26
        have lY := o7.load (off := 0) 5 (by simp)
        have wY : window (icl Y) 0 5 = icl Y := rfl
        rw [wY] at lY
        obtain ⟨o8, k8, n8⟩ := new_own (m := m7) (cs := [.int .i64 0, .int .i64 0, .int .i64 0, .int .i64 0, .int .i64 0]) (e := 52) rfl
        obtain ⟨m9, e9, o9, k9⟩ := store_own (r := _) rfl o8 (off := 0) (vs := icl Y) (by simp) (by simp [one_int])
        simp [over] at o9
        have k79 := k8.fresh k9 (by simp)
        obtain ⟨yb, hyb⟩ : ∃ yb, m7.next = yb := ⟨_, rfl⟩
        rw [hyb] at o9 e9
        have hxy : xb ≠ yb := by have := o7.flt; omega
        have o79 := o7.keep k79 (by simp)
        have k29 := k7.trans k79
        simp [-Int.natCast_add, -w7_32, -BitVec.toNat_or, -BitVec.toNat_ofInt, -BitVec.toNat_and, len_slice u22, index_slice u22 sz52, load_agg ld52, alloc_of zo52, store_of sz52, fieldAddr_of fa52_0, load_of ld3, fieldAddr_of fa52_1, fieldAddr_of fa52_2, fieldAddr_of fa52_3, fieldAddr_of fa52_4, load_of ld2, build_of bo52, store_of sz2, store_of sz3, buildSlice_of u22 bs52 rfl, append_s u22 sz52, lY, e9, hyb]
        refine wsem_loop 81 [82, 85, 88, 93] (fun d2 E m8 => ∃ (k : Nat) (Z : In5), 4 - k = d2 ∧ k ≤ 4 ∧ Own m8 yb (icl Z) 52 yb ∧ n64 Z ∧ Own m8 xb (icl Y) 52 xb ∧ Keeps m2 m8 [] ∧ E = [(0, .slice lo ls.length ls.length), (2, .bool any), (7, .slice oa i i), (8, .int .i64 N), (9, .int .i64 i), (10, .pointer (some ⟨xb, 0, none⟩)), (11, .pointer (some ⟨yb, 0, none⟩)), (12, .int .i64 k)]) _ ⟨_, ⟨0, Y, rfl, by omega, o9, h7, o79, k29, rfl⟩, ⟨by rfl, by rfl, by rfl, by rfl, by rfl, by rfl, by rfl, by rfl, trivial⟩⟩ ?_
        rintro d2 E m8 ih2 ⟨k, Z, hd2, hk, oy, hZ, ox, k28, rfl⟩
        have hyn : m2.next ≤ yb := by have := k7.1; omega
        have hxn : m2.next ≤ xb := by omega
        have lZ := oy.load (off := 0) 5 (by simp)
        have wZ : window (icl Z) 0 5 = icl Z := rfl
        rw [wZ] at lZ
        apply cut1_ (fun mF : Mem => Own mF yb (icl Z) 52 yb ∧ Own mF xb (icl Y) 52 xb ∧ Keeps m2 mF [])
        case main =>
          obtain ⟨_, mR, cR, ⟨b, rfl, _⟩, kR⟩ := ins_run (m := m8) hN Z (size := N) (by omega)
          have oyR := oy.keep kR (by simp)
          have oxR := ox.keep kR (by simp)
          have k2R := k28.trans kR
          intro fin
          by_cases hk4 : k < 4
          · have hk4' : (k : Int) < 4 := by omega
            have wk : IntKind.i64.wrap ((k : Int) + 1) = ((k + 1 : Nat) : Int) := by rw [wrap_i64 (by omega) (by omega)]; omega
            by_cases hb : b = true
            · obtain ⟨mF, hmF⟩ : ∃ mF, mR = mF := ⟨_, rfl⟩
              have fin2 := fin mF ⟨by rw [← hmF]; exact oyR, by rw [← hmF]; exact oxR, by rw [← hmF]; exact k2R⟩
              simp [-Int.natCast_add, -w7_32, -w7_30, -BitVec.toNat_or, -BitVec.toNat_ofInt, -BitVec.toNat_and, len_slice u22, index_slice u22 sz52, load_agg ld52, alloc_of zo52, store_of sz52, fieldAddr_of fa52_0, load_of ld3, fieldAddr_of fa52_1, fieldAddr_of fa52_2, fieldAddr_of fa52_3, fieldAddr_of fa52_4, load_of ld2, build_of bo52, store_of sz2, store_of sz3, buildSlice_of u22 bs52 rfl, append_s u22 sz52, hk4, hk4', lZ, cR, hb, hmF]
              exact w_sub (E := [(0, .slice lo ls.length ls.length), (2, .bool any), (7, .slice oa i i), (8, .int .i64 N), (9, .int .i64 i), (10, .pointer (some ⟨xb, 0, none⟩)), (11, .pointer (some ⟨yb, 0, none⟩))]) fin2 ⟨by rfl, by rfl, by rfl, by rfl, by rfl, by rfl, by rfl, trivial⟩
            · rcases (by omega : k = 0 ∨ k = 1 ∨ k = 2 ∨ k = 3) with rfl | rfl | rfl | rfl
              · obtain ⟨mS, eS, oS, kS⟩ := store_own (r := _) rfl oyR (off := 3) (vs := [.int .i64 0]) (by simp) (by simp [one_int])
                simp [over] at oS
                have oxS := oxR.keep kS (by simpa using hxy)
                simp [-Int.natCast_add, -w7_32, -BitVec.toNat_or, -BitVec.toNat_ofInt, -BitVec.toNat_and, len_slice u22, index_slice u22 sz52, load_agg ld52, alloc_of zo52, store_of sz52, fieldAddr_of fa52_0, load_of ld3, fieldAddr_of fa52_1, fieldAddr_of fa52_2, fieldAddr_of fa52_3, fieldAddr_of fa52_4, load_of ld2, build_of bo52, store_of sz2, store_of sz3, buildSlice_of u22 bs52 rfl, append_s u22 sz52, lZ, cR, hb, eS, wk]
                exact ih2 _ _ _ _ ⟨1, (Z.1, Z.2.1, Z.2.2.1, 0, Z.2.2.2.2), rfl, by omega, oS, hZ, oxS, k2R.fresh kS (by simpa using hyn), rfl⟩ (by omega) ⟨by rfl, by rfl, by rfl, by rfl, by rfl, by rfl, by rfl, by rfl, trivial⟩
              · obtain ⟨mS, eS, oS, kS⟩ := store_own (r := _) rfl oyR (off := 4) (vs := [.int .i64 0]) (by simp) (by simp [one_int])
                simp [over] at oS
                have oxS := oxR.keep kS (by simpa using hxy)
                simp [-Int.natCast_add, -w7_32, -BitVec.toNat_or, -BitVec.toNat_ofInt, -BitVec.toNat_and, len_slice u22, index_slice u22 sz52, load_agg ld52, alloc_of zo52, store_of sz52, fieldAddr_of fa52_0, load_of ld3, fieldAddr_of fa52_1, fieldAddr_of fa52_2, fieldAddr_of fa52_3, fieldAddr_of fa52_4, load_of ld2, build_of bo52, store_of sz2, store_of sz3, buildSlice_of u22 bs52 rfl, append_s u22 sz52, lZ, cR, hb, eS, wk]
                exact ih2 _ _ _ _ ⟨2, (Z.1, Z.2.1, Z.2.2.1, Z.2.2.2.1, 0), rfl, by omega, oS, ⟨by simp, by simp⟩, oxS, k2R.fresh kS (by simpa using hyn), rfl⟩ (by omega) ⟨by rfl, by rfl, by rfl, by rfl, by rfl, by rfl, by rfl, by rfl, trivial⟩
              · obtain ⟨mS, eS, oS, kS⟩ := store_own (r := _) rfl oyR (off := 2) (vs := [.int .i64 0]) (by simp) (by simp [one_int])
                simp [over] at oS
                have oxS := oxR.keep kS (by simpa using hxy)
                simp [-Int.natCast_add, -w7_32, -BitVec.toNat_or, -BitVec.toNat_ofInt, -BitVec.toNat_and, len_slice u22, index_slice u22 sz52, load_agg ld52, alloc_of zo52, store_of sz52, fieldAddr_of fa52_0, load_of ld3, fieldAddr_of fa52_1, fieldAddr_of fa52_2, fieldAddr_of fa52_3, fieldAddr_of fa52_4, load_of ld2, build_of bo52, store_of sz2, store_of sz3, buildSlice_of u22 bs52 rfl, append_s u22 sz52, lZ, cR, hb, eS, wk]
                exact ih2 _ _ _ _ ⟨3, (Z.1, Z.2.1, 0, Z.2.2.2.1, Z.2.2.2.2), rfl, by omega, oS, hZ, oxS, k2R.fresh kS (by simpa using hyn), rfl⟩ (by omega) ⟨by rfl, by rfl, by rfl, by rfl, by rfl, by rfl, by rfl, by rfl, trivial⟩
              · obtain ⟨mS, eS, oS, kS⟩ := store_own (r := _) rfl oyR (off := 1) (vs := [.int .i64 0]) (by simp) (by simp [one_int])
                simp [over] at oS
                have oxS := oxR.keep kS (by simpa using hxy)
                simp [-Int.natCast_add, -w7_32, -BitVec.toNat_or, -BitVec.toNat_ofInt, -BitVec.toNat_and, len_slice u22, index_slice u22 sz52, load_agg ld52, alloc_of zo52, store_of sz52, fieldAddr_of fa52_0, load_of ld3, fieldAddr_of fa52_1, fieldAddr_of fa52_2, fieldAddr_of fa52_3, fieldAddr_of fa52_4, load_of ld2, build_of bo52, store_of sz2, store_of sz3, buildSlice_of u22 bs52 rfl, append_s u22 sz52, lZ, cR, hb, eS, wk]
                exact ih2 _ _ _ _ ⟨4, (Z.1, 0, Z.2.2.1, Z.2.2.2.1, Z.2.2.2.2), rfl, by omega, oS, hZ, oxS, k2R.fresh kS (by simpa using hyn), rfl⟩ (by omega) ⟨by rfl, by rfl, by rfl, by rfl, by rfl, by rfl, by rfl, by rfl, trivial⟩
          · have hk4' : ¬ (k : Int) < 4 := by omega
            obtain ⟨mF, hmF⟩ : ∃ mF, m8 = mF := ⟨_, rfl⟩
            have fin2 := fin mF ⟨by rw [← hmF]; exact oy, by rw [← hmF]; exact ox, by rw [← hmF]; exact k28⟩
            simp [-Int.natCast_add, -w7_32, -w7_30, -BitVec.toNat_or, -BitVec.toNat_ofInt, -BitVec.toNat_and, len_slice u22, index_slice u22 sz52, load_agg ld52, alloc_of zo52, store_of sz52, fieldAddr_of fa52_0, load_of ld3, fieldAddr_of fa52_1, fieldAddr_of fa52_2, fieldAddr_of fa52_3, fieldAddr_of fa52_4, load_of ld2, build_of bo52, store_of sz2, store_of sz3, buildSlice_of u22 bs52 rfl, append_s u22 sz52, hk4']
            rw [hmF]
            exact w_sub (E := [(0, .slice lo ls.length ls.length), (2, .bool any), (7, .slice oa i i), (8, .int .i64 N), (9, .int .i64 i), (10, .pointer (some ⟨xb, 0, none⟩)), (11, .pointer (some ⟨yb, 0, none⟩))]) fin2 ⟨by rfl, by rfl, by rfl, by rfl, by rfl, by rfl, by rfl, trivial⟩
        rintro mF ⟨oyF, oxF, k2F⟩
        obtain ⟨q, hq⟩ : ∃ q : Nat, i % 11 = q := ⟨_, rfl⟩
        have tm : (i : Int).tmod 11 = (q : Int) := by rw [Int.tmod_eq_emod_of_nonneg (by omega)]; omega
        have lF := oyF.load (off := 0) 5 (by simp)
        rw [wZ] at lF
        by_cases hq10 : q < 10
        · have hq10' : (q : Int) < 10 := by omega
          obtain ⟨mG, eG, oG, kG⟩ := store_own (r := _) rfl oxF (off := 0) (vs := icl Z) (by simp) (by simp [one_int])
          simp [over] at oG
          have fin := meth mG Z ⟨oG, hZ, k2F.fresh kG (by simpa using hxn)⟩
          simp [-Int.natCast_add, -w7_32, -BitVec.toNat_or, -BitVec.toNat_ofInt, -BitVec.toNat_and, len_slice u22, index_slice u22 sz52, load_agg ld52, alloc_of zo52, store_of sz52, fieldAddr_of fa52_0, load_of ld3, fieldAddr_of fa52_1, fieldAddr_of fa52_2, fieldAddr_of fa52_3, fieldAddr_of fa52_4, load_of ld2, build_of bo52, store_of sz2, store_of sz3, buildSlice_of u22 bs52 rfl, append_s u22 sz52, tm, hq10, hq10', lF, eG]
          exact w_sub (E := [(0, .slice lo ls.length ls.length), (2, .bool any), (7, .slice oa i i), (8, .int .i64 N), (9, .int .i64 i), (10, .pointer (some ⟨xb, 0, none⟩))]) fin ⟨by rfl, by rfl, by rfl, by rfl, by rfl, by rfl, trivial⟩
        · have hq10' : ¬ (q : Int) < 10 := by omega
          have fin := meth mF Y ⟨oxF, h7, k2F⟩
          simp [-Int.natCast_add, -w7_32, -BitVec.toNat_or, -BitVec.toNat_ofInt, -BitVec.toNat_and, len_slice u22, index_slice u22 sz52, load_agg ld52, alloc_of zo52, store_of sz52, fieldAddr_of fa52_0, load_of ld3, fieldAddr_of fa52_1, fieldAddr_of fa52_2, fieldAddr_of fa52_3, fieldAddr_of fa52_4, load_of ld2, build_of bo52, store_of sz2, store_of sz3, buildSlice_of u22 bs52 rfl, append_s u22 sz52, tm, hq10, hq10']
          exact w_sub (E := [(0, .slice lo ls.length ls.length), (2, .bool any), (7, .slice oa i i), (8, .int .i64 N), (9, .int .i64 i), (10, .pointer (some ⟨xb, 0, none⟩))]) fin ⟨by rfl, by rfl, by rfl, by rfl, by rfl, by rfl, trivial⟩
    rintro m5 X ⟨o5, hX, k5⟩
    have lX := o5.load (off := 0) 5 (by simp)
    have wX : window (icl X) 0 5 = icl X := rfl
    rw [wX] at lX
    have s5 := h2.keepz k5 (by simp)
    simp [-Int.natCast_add, -BitVec.toNat_or, -BitVec.toNat_ofInt, -BitVec.toNat_and, len_slice u22, index_slice u22 sz52, load_agg ld52, alloc_of zo52, store_of sz52, fieldAddr_of fa52_0, load_of ld3, fieldAddr_of fa52_1, fieldAddr_of fa52_2, fieldAddr_of fa52_3, fieldAddr_of fa52_4, load_of ld2, build_of bo52, store_of sz2, store_of sz3, buildSlice_of u22 bs52 rfl, append_s u22 sz52, lX]
    generalize hra : sappend _ _ _ _ _ _ = ra
    obtain ⟨m7, nb7, f7, rfl, o7, k7, hf7, _, _⟩ := app_slz hra u22 ap52 s5 (by omega) (by simp) (by simp [one_int]) (by omega) (by omega)
    have kx : xb ∉ (if oa = none then [] else [fo]) := by
      split
      · simp
      · rename_i hn
        have := h2.sr.flt hn
        simp; omega
    have l5n := (o5.ln [.int .i64 X.1, .int .i64 X.2.1, .int .i64 X.2.2.1, .int .i64 X.2.2.2.1, .int .i64 X.2.2.2.2] 52 0 5).trans lX
    have l7 := (o5.keep k7 kx).load (off := 0) 5 (by simp)
    rw [wX] at l7
    simp [-Int.natCast_add, -BitVec.toNat_or, -BitVec.toNat_ofInt, -BitVec.toNat_and, len_slice u22, index_slice u22 sz52, load_agg ld52, alloc_of zo52, store_of sz52, fieldAddr_of fa52_0, load_of ld3, fieldAddr_of fa52_1, fieldAddr_of fa52_2, fieldAddr_of fa52_3, fieldAddr_of fa52_4, load_of ld2, build_of bo52, store_of sz2, store_of sz3, buildSlice_of u22 bs52 rfl, append_s u22 sz52, lX, l5n, l7, wi]
    have hb7 : m.next ≤ f7 := by
      rcases hf7 with ⟨h, h'⟩ | h
      · rw [h']; exact hb2 h
      · have := k2.1; have := k5.1; omega
    have s7 : Sl m7 (some ⟨nb7, 0, none⟩) (i + 1) (icv (c ++ [X])) 52 5 f7 := by
      refine Sl.of (by simpa [icv] using o7) ?_
      rw [icv_len, List.length_append, hcl]; rfl
    have kk7 : Keeps m m7 [] := (k2.trans k5).fresh k7 (by
      intro f hf
      split at hf
      · simp at hf
      · rename_i hn
        simp at hf; rw [hf]; exact hb2 hn)
    refine ih _ _ _ _ ⟨i + 1, _, f7, c ++ [X], rfl, by omega, by simp [hcl], s7, fun _ => hb7, fun x hx => ?_, kk7, rfl⟩ (by omega) ⟨by simp [lget], by rfl, by rfl, by rfl, by rfl, trivial⟩
    rcases List.mem_append.1 hx with hx | hx
    · exact hc64 x hx
    · simp at hx; subst hx; exact hX
  · have hlt' : ¬ (i : Int) < N := by omega
    simp [-Int.natCast_add, -BitVec.toNat_or, -BitVec.toNat_ofInt, -BitVec.toNat_and, len_slice u22, index_slice u22 sz52, load_agg ld52, alloc_of zo52, store_of sz52, fieldAddr_of fa52_0, load_of ld3, fieldAddr_of fa52_1, fieldAddr_of fa52_2, fieldAddr_of fa52_3, fieldAddr_of fa52_4, load_of ld2, build_of bo52, store_of sz2, store_of sz3, buildSlice_of u22 bs52 rfl, append_s u22 sz52, hlt']
    subst hcl
    exact ⟨⟨oa, fo, c, ⟨rfl, rfl⟩, h2, hb2, by omega, fun a b c' d' e h => hc64 _ h⟩, k2⟩
end Go.Proofs.YtkcehgajpalgnaaDoor.base

