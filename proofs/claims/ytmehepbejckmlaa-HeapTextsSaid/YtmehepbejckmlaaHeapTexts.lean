/-
  This text proves 'Rows.HeapTextsSaid': the law 'HeapTexts' returns true at any texts, in whatever memory and on every tape, and its input reads as it did.
  No condition.
-/
import Derived.Test.YtmehepbejckmlaaRows
import Derived.Test.YtmehepbejckmlaaBaseT
set_option maxRecDepth 100000
set_option linter.unusedSimpArgs false
set_option linter.unusedVariables false
namespace Go.Proofs.Ytmehepbejckmlaa.heapTexts
open Go.Sh gen base
variable {S : Sums} {m : Mem}

def flatT (ts : List (List UInt8)) : List Int := ts.flatMap txt
def refsT : Nat → List (List UInt8) → List Int
  | _, [] => []
  | o, l :: r => (if l = [] then 0 else (o : Int)) :: refsT (o + (txt l).length) r
theorem refsT_len : ∀ (ts : List (List UInt8)) (o : Nat), (refsT o ts).length = ts.length
  | [], o => rfl
  | l :: r, o => by simp [refsT, refsT_len r]
theorem refsT_snoc : ∀ (ts : List (List UInt8)) (o : Nat) (l : List UInt8), refsT o (ts ++ [l]) = refsT o ts ++ [if l = [] then 0 else ((o + (flatT ts).length : Nat) : Int)]
  | [], o, l => by simp [refsT, flatT]
  | a :: r, o, l => by
    simp only [List.cons_append, refsT, refsT_snoc r, flatT, List.flatMap_cons, List.length_append]
    rw [Nat.add_assoc]
theorem flatT_snoc (ts : List (List UInt8)) (l : List UInt8) : flatT (ts ++ [l]) = flatT ts ++ txt l := by simp [flatT]
theorem txt_len (l : List UInt8) : (txt l).length ≤ l.length + 1 := by unfold txt; split <;> simp [byts]
theorem flatT_len {ts : List (List UInt8)} (h : ∀ l ∈ ts, l.length ≤ 500) : (flatT ts).length ≤ 501 * ts.length := by
  induction ts with
  | nil => simp [flatT]
  | cons a r ih =>
    have h1 := h a (by simp)
    have h2 := ih (fun l hl => h l (by simp [hl]))
    have h3 := txt_len a
    simp only [flatT, List.flatMap_cons, List.length_append, List.length_cons] at h2 ⊢
    omega
theorem wd_txt {l : List UInt8} (h : l.length ≤ 500) : Wd (txt l) := by
  unfold txt
  split
  · intro w hw; simp at hw
  · exact wd_cons.2 ⟨head_wd (by omega) (by omega), wd_byts _⟩
theorem wd_flatT {ts : List (List UInt8)} (h : ∀ l ∈ ts, l.length ≤ 500) : Wd (flatT ts) := by
  induction ts with
  | nil => intro w hw; simp [flatT] at hw
  | cons a r ih =>
    simp only [flatT, List.flatMap_cons]
    exact wd_app.2 ⟨wd_txt (h a (by simp)), ih (fun l hl => h l (by simp [hl]))⟩
theorem split_at : ∀ (ts : List (List UInt8)) (o i : Nat) (l : List UInt8), ts[i]? = some l → ∃ A B : List Int, flatT ts = A ++ txt l ++ B ∧ (refsT o ts)[i]? = some (if l = [] then 0 else ((o + A.length : Nat) : Int))
  | [], o, i, l, h => by simp at h
  | a :: r, o, 0, l, h => by
    simp at h
    subst h
    exact ⟨[], flatT r, by simp [flatT], by simp [refsT]⟩
  | a :: r, o, i + 1, l, h => by
    simp at h
    obtain ⟨A, B, h1, h2⟩ := split_at r (o + (txt a).length) i l h
    refine ⟨txt a ++ A, B, ?_, ?_⟩
    · simp only [flatT, List.flatMap_cons] at h1 ⊢
      rw [h1]; simp
    · simp only [refsT, List.getElem?_cons_succ, h2, List.length_append]
      rw [Nat.add_assoc]

theorem tk (l : List UInt8) : l.take (l.take 500).length = l.take 500 := by
  rw [List.length_take, List.take_eq_take_iff]
  omega

theorem row_get {rs : List (List UInt8)} {i : Nat} (h : i < rs.length) : (rs.flatMap fun l : List UInt8 => [Value.string ⟨l.toArray⟩])[i]? = some (.string ⟨(rs[i]).toArray⟩) := by
  rw [← List.map_eq_flatMap, List.getElem?_map, List.getElem?_eq_getElem h]
  rfl

/-- what String asks of a text's words -/
theorem texts_at {ts : List (List UInt8)} (h5 : ∀ l ∈ ts, l.length ≤ 500) (hn : ts.length ≤ 30) {j : Nat} {l : List UInt8} (hj : ts[j]? = some l) :
    ∃ r : Int, (refsT 1 ts)[j]? = some r ∧ 0 ≤ r ∧ ((0 : Int) :: flatT ts).getD r.toNat 0 % 4294967296 = l.length ∧ l.length ≤ ((0 : Int) :: flatT ts).length ∧ ∀ i (hi : i < l.length), ((0 : Int) :: flatT ts).getD (atV ((0 : Int) :: flatT ts) r i).toNat 0 = ((l[i]).toNat : Int) := by
  obtain ⟨A, B, h1, h2⟩ := split_at ts 1 j l hj
  have hl5 := h5 l (List.mem_of_getElem? hj)
  have hfl := flatT_len h5
  by_cases hl : l = []
  · subst hl
    exact ⟨0, h2, by omega, by simp, by simp, fun i hi => by simp at hi⟩
  · rw [if_neg hl] at h2
    have e : (0 : Int) :: flatT ts = (0 :: A) ++ headOf 3 l.length :: (byts l ++ B) := by
      rw [h1]; unfold txt; rw [if_neg hl]; simp
    have eA : ((1 + A.length : Nat) : Int) = (((0 : Int) :: A).length : Int) := by simp; omega
    have hAl : ((0 : Int) :: A).length ≤ 1000000 := by
      have : (flatT ts).length = A.length + (txt l).length + B.length := by rw [h1]; simp; omega
      simp only [List.length_cons]
      omega
    refine ⟨_, h2, by omega, ?_, ?_, fun i hi => ?_⟩
    · rw [e, eA, Int.toNat_natCast, len_obj (by omega) (by omega)]
    · rw [e]; simp [byts]; omega
    · rw [e, eA, atV_obj (by omega) (by omega) hi hAl, Int.toNat_natCast, obj_word]
      rw [List.getD_eq_getElem?_getD, List.getElem?_append_left (by simpa [byts] using hi)]
      simp [byts, hi]

theorem law_run (hS6 : S 6 = []) (hS11 : S 11 = [([], .bool true)]) (hS10 : S 10 = []) (hS23 : S 23 = []) (hS24 : S 24 = []) (hS21 : S 21 = []) (hS12 : S 12 = []) (hS17 : S 17 = []) (hS18 : S 18 = []) (hS36 : S 36 = []) (hS20 : S 20 = []) (hS37 : S 37 = []) (hS22 : S 22 = [])
    {rs : List (List UInt8)} {ao : Option Addr} {fr : Nat} (hr : Rs m ao rs.length (rs.flatMap fun l : List UInt8 => [Value.string ⟨l.toArray⟩]) 9 1 fr) (hfr : fr < m.next) (hrl : rs.length ≤ 9223372036854775807) (hsz : ∀ l ∈ rs, l.length ≤ 9223372036854775807) :
    ∃ v m', callw Try.prog TT S 6 [.slice ao rs.length rs.length] m = some (v, m') ∧ v = .bool true := by
  obtain ⟨v, m1, hn, hb, wb, rfl, hh, hb1, wb1, hk1⟩ := new_run (m := m) hS10 65536 (by omega) (by omega)
  have hkn := fun m' => sum_ok (P := Try.prog) (T := TT) (m := m') hS11
  have hbl := hh.h.flt
  have wbl := hh.w.flt
  refine fn_w 12 [25, 33, 61, 69, 101] k6 hS6 rfl ?_
  simp [w_seq, w_cond_tmp, w_ret, w_skip, w_exit, w_block, w_loop, r_nil, r_seq, r_seq_ret, r_seq_exit, r_block, r_block_ret, r_block_exit, r_loop, r_loop_ret, r_loop_exit, cnd_t, cnd_f, rg_some, lgo_n, lgo_c, lops_nil, lops_cons, lk_some, lop1_plain, lop1_guard, gd_tt, gd_ff, gd_tf, gd_ft, lput_s, lput_n, lev_t, lev_c, lev_g, lev_f, lget_n, lget_c, lset_n, lset_c, lkeep_n, lkeep_c, lsets_n, lsets_c, lconds_n, lconds_c, lfill, qf_d, okx, lresults, lresultsL, lres_tmp, o_move, o_assign, o_bin, o_pick, o_nilCheck, o_fieldAddr, o_load, o_len, o_store, o_conv, o_un, o_extract, o_append, o_call2, o_callv, o_buildSlice, o_box, o_alloc, o_build, o_indexAddr, o_slice, o_index, o_field, o_makeFunc, o_makeSlice, o_min, o_max, loOf_none, loOf_some, hiOf_none, hiOf_some, natOf_int, sliceS_some, strOp, sz_str, cat_str, list_str, s_binOp, fastBin, s_unOp, fastUn, boolEq, int_beq, int_bne, txt_beq, one_int, one_slice, one_ptr, one_bool, one_str, cells_int, cells_slice, cells_ptr, cells_bool, cells_str, cells_agg, loadRow_new, window, over, Instr.fill, repl, -BitVec.toNat_or, -BitVec.toNat_ofInt, -BitVec.toNat_and, body6, w6_0, L6_0, w6_1, L6_1, w6_2, L6_2, w6_3, L6_3, w6_4, L6_4, w6_5, L6_5, w6_6, L6_6, w6_7, L6_7, w6_8, L6_8, w6_9, L6_9, w6_10, L6_10, w6_11, L6_11, w6_12, L6_12, w6_13, L6_13, w6_14, L6_14, w6_15, L6_15, w6_16, L6_16, w6_17, L6_17, w6_18, L6_18, w6_19, L6_19, bin_ptr u24, len_slice u46, index_slice u46 sz9, load_of ld9, len_string u9, slice_str u9, bin_bool u4 .neq (Or.inr rfl), buildSlice_of u34 bs29 rfl, append_s u34 sz29, len_slice u34, index_slice u34 sz29, load_of ld29, hn, hkn]
  refine wsem_loop 12 [25, 33, 61, 69, 101] (fun d E m2 => ∃ (i : Nat) (ro : Option Addr) (fam wb2 : Nat), rs.length - i = d ∧ i ≤ rs.length ∧ i ≤ 30 ∧ E = [(0, .slice ao rs.length rs.length), (3, .pointer (some ⟨hb, 0, none⟩)), (5, .slice ro i i), (6, .int .i64 i)] ∧
    HeapAt m2 hb hb wb2 wb (0 :: flatT ((rs.take i).map (·.take 500))) 65536 ∧ Sl m2 ro i (words (refsT 1 ((rs.take i).map (·.take 500)))) 29 1 fam ∧ m1.next ≤ fam ∧ Keeps m m2 [] ∧ m1.next ≤ m2.next) _ ⟨_, ⟨0, none, m1.next, wb, rfl, by omega, by omega, rfl, by simpa [flatT] using hh, Sl.nil _ _ _ _, Nat.le_refl _, hk1, Nat.le_refl _⟩, ⟨rfl, rfl, rfl, rfl, trivial⟩⟩ ?_
  rintro d E m2 ih ⟨i, ro, fam, wb2, hdi, hi, hi30, rfl, h2, s2, hfam, k2, hm12⟩
  have hrl2 := (hr.keep k2 (by simp))
  generalize hP : (rs.take i).map (·.take 500) = P at h2 s2
  have hlen5 : ∀ l ∈ P, l.length ≤ 500 := by
    subst hP
    intro l hl
    simp only [List.mem_map] at hl
    obtain ⟨a, _, rfl⟩ := hl
    simp; omega
  have hfl := flatT_len hlen5
  have htl : P.length = i := by subst hP; simp; omega
  have hwd : Wd (0 :: flatT P) := wd_cons.2 ⟨by omega, wd_flatT hlen5⟩
  have hw : ((0 : Int) :: flatT P).length ≤ 1000000 := by simp only [List.length_cons]; omega
  by_cases hgo : i < rs.length ∧ i < 30
  · obtain ⟨hi1, hi2⟩ := hgo
    obtain ⟨rb, rfl, ho⟩ := hrl2.rdo (by omega)
    have la := ho.load1 (off := i) (row_get hi1)
    have e1 : (i : Int) < rs.length := by omega
    have e2 : (i : Int) < 30 := by omega
    have hmax : (i : Int) ≤ 9223372036854775807 := by omega
    have w1 : IntKind.i64.wrap ((i : Int) + 1) = ((i + 1 : Nat) : Int) := by rw [wrap_i64 (by omega) (by omega)]; omega
    have hsz1 := hsz _ (List.getElem_mem hi1)
    have htake : (rs.take (i + 1)).map (·.take 500) = P ++ [(rs[i]).take 500] := by
      rw [List.take_succ_eq_append_getElem hi1, List.map_append, hP]; rfl
    generalize rs[i] = l at la hsz1 htake
    obtain ⟨n, hn⟩ : ∃ n, n = (l.take 500).length := ⟨_, rfl⟩
    have h500 : (if (500 : Int) < (l.length : Int) then (500 : Int) else l.length) = (n : Int) := by rw [hn, List.length_take]; split <;> omega
    have hnl : n ≤ l.length := by rw [hn, List.length_take]; omega
    have hn5 : n ≤ 500 := by rw [hn, List.length_take]; omega
    have htk : l.take n = l.take 500 := by rw [hn]; exact tk l
    have hnm : (n : Int) ≤ 9223372036854775807 := by omega
    have hs'5 : (l.take 500).length ≤ 500 := by rw [← hn]; exact hn5
    generalize l.take 500 = s at htk hn hs'5 htake
    obtain ⟨v, m3, hc, rfl, ⟨wb3, h3⟩, k3⟩ := text_run (l := s) hS23 hS12 hS17 hS18 hS36 hS20 hS37 hS22 h2 (by omega) (by simp only [List.length_cons]; omega) hwd
    have s3 := s2.keep k3 (by simp; omega)
    simp only [List.length_cons] at hc
    have snoc := refsT_snoc P 1 s
    have flsn := flatT_snoc P s
    by_cases hs : s = []
    · subst hs
      simp [w_seq, w_cond_tmp, w_ret, w_skip, w_exit, w_block, w_loop, r_nil, r_seq, r_seq_ret, r_seq_exit, r_block, r_block_ret, r_block_exit, r_loop, r_loop_ret, r_loop_exit, cnd_t, cnd_f, rg_some, lgo_n, lgo_c, lops_nil, lops_cons, lk_some, lop1_plain, lop1_guard, gd_tt, gd_ff, gd_tf, gd_ft, lput_s, lput_n, lev_t, lev_c, lev_g, lev_f, lget_n, lget_c, lset_n, lset_c, lkeep_n, lkeep_c, lsets_n, lsets_c, lconds_n, lconds_c, lfill, qf_d, okx, lresults, lresultsL, lres_tmp, o_move, o_assign, o_bin, o_pick, o_nilCheck, o_fieldAddr, o_load, o_len, o_store, o_conv, o_un, o_extract, o_append, o_call2, o_callv, o_buildSlice, o_box, o_alloc, o_build, o_indexAddr, o_slice, o_index, o_field, o_makeFunc, o_makeSlice, o_min, o_max, loOf_none, loOf_some, hiOf_none, hiOf_some, natOf_int, sliceS_some, strOp, sz_str, cat_str, list_str, s_binOp, fastBin, s_unOp, fastUn, boolEq, int_beq, int_bne, txt_beq, one_int, one_slice, one_ptr, one_bool, one_str, cells_int, cells_slice, cells_ptr, cells_bool, cells_str, cells_agg, loadRow_new, window, over, Instr.fill, repl, -BitVec.toNat_or, -BitVec.toNat_ofInt, -BitVec.toNat_and, body6, w6_0, L6_0, w6_1, L6_1, w6_2, L6_2, w6_3, L6_3, w6_4, L6_4, w6_5, L6_5, w6_6, L6_6, w6_7, L6_7, w6_8, L6_8, w6_9, L6_9, w6_10, L6_10, w6_11, L6_11, w6_12, L6_12, w6_13, L6_13, w6_14, L6_14, w6_15, L6_15, w6_16, L6_16, w6_17, L6_17, w6_18, L6_18, w6_19, L6_19, bin_ptr u24, len_slice u46, index_slice u46 sz9, load_of ld9, len_string u9, slice_str u9, bin_bool u4 .neq (Or.inr rfl), buildSlice_of u34 bs29 rfl, append_s u34 sz29, len_slice u34, index_slice u34 sz29, load_of ld29, e1, e2, hmax, hi1, la, h500, hnl, hnm, htk, hc]
      generalize hr5 : sappend _ _ _ _ _ _ = x
      obtain ⟨m4, ao4, fam4, rfl, s4, k4, hf4⟩ := app_sl_new hr5 u34 ap29 s3 (by simp) (by simp [one_int]) (by omega) (by omega)
      have h4 := h3.keep k4 (by simp; omega) (by simp; omega)
      simp [w_seq, w_cond_tmp, w_ret, w_skip, w_exit, w_block, w_loop, r_nil, r_seq, r_seq_ret, r_seq_exit, r_block, r_block_ret, r_block_exit, r_loop, r_loop_ret, r_loop_exit, cnd_t, cnd_f, rg_some, lgo_n, lgo_c, lops_nil, lops_cons, lk_some, lop1_plain, lop1_guard, gd_tt, gd_ff, gd_tf, gd_ft, lput_s, lput_n, lev_t, lev_c, lev_g, lev_f, lget_n, lget_c, lset_n, lset_c, lkeep_n, lkeep_c, lsets_n, lsets_c, lconds_n, lconds_c, lfill, qf_d, okx, lresults, lresultsL, lres_tmp, o_move, o_assign, o_bin, o_pick, o_nilCheck, o_fieldAddr, o_load, o_len, o_store, o_conv, o_un, o_extract, o_append, o_call2, o_callv, o_buildSlice, o_box, o_alloc, o_build, o_indexAddr, o_slice, o_index, o_field, o_makeFunc, o_makeSlice, o_min, o_max, loOf_none, loOf_some, hiOf_none, hiOf_some, natOf_int, sliceS_some, strOp, sz_str, cat_str, list_str, s_binOp, fastBin, s_unOp, fastUn, boolEq, int_beq, int_bne, txt_beq, one_int, one_slice, one_ptr, one_bool, one_str, cells_int, cells_slice, cells_ptr, cells_bool, cells_str, cells_agg, loadRow_new, window, over, Instr.fill, repl, -BitVec.toNat_or, -BitVec.toNat_ofInt, -BitVec.toNat_and, body6, w6_0, L6_0, w6_1, L6_1, w6_2, L6_2, w6_3, L6_3, w6_4, L6_4, w6_5, L6_5, w6_6, L6_6, w6_7, L6_7, w6_8, L6_8, w6_9, L6_9, w6_10, L6_10, w6_11, L6_11, w6_12, L6_12, w6_13, L6_13, w6_14, L6_14, w6_15, L6_15, w6_16, L6_16, w6_17, L6_17, w6_18, L6_18, w6_19, L6_19, bin_ptr u24, len_slice u46, index_slice u46 sz9, load_of ld9, len_string u9, slice_str u9, bin_bool u4 .neq (Or.inr rfl), buildSlice_of u34 bs29 rfl, append_s u34 sz29, len_slice u34, index_slice u34 sz29, load_of ld29, w1]
      refine ih _ _ _ _ ⟨i + 1, ao4, fam4, wb3, rfl, by omega, by omega, rfl, ?_, ?_, by have := k3.1; omega, ?_, by have := k3.1; have := k4.1; omega⟩ (by omega) ⟨rfl, rfl, rfl, by simp [lget], trivial⟩
      · rw [htake, flsn]; exact h4
      · rw [htake, snoc]; simpa [words, Int.add_comm] using s4
      · exact (k2.fresh k3 (by simp; omega)).fresh k4 (by simp; omega)
    · have hsb : s.isEmpty = false := by simpa using hs
      rw [if_neg hs] at snoc hc
      have hne0 : ¬ (((flatT P).length : Int) + 1 = 0) := by omega
      simp [hne0, w_seq, w_cond_tmp, w_ret, w_skip, w_exit, w_block, w_loop, r_nil, r_seq, r_seq_ret, r_seq_exit, r_block, r_block_ret, r_block_exit, r_loop, r_loop_ret, r_loop_exit, cnd_t, cnd_f, rg_some, lgo_n, lgo_c, lops_nil, lops_cons, lk_some, lop1_plain, lop1_guard, gd_tt, gd_ff, gd_tf, gd_ft, lput_s, lput_n, lev_t, lev_c, lev_g, lev_f, lget_n, lget_c, lset_n, lset_c, lkeep_n, lkeep_c, lsets_n, lsets_c, lconds_n, lconds_c, lfill, qf_d, okx, lresults, lresultsL, lres_tmp, o_move, o_assign, o_bin, o_pick, o_nilCheck, o_fieldAddr, o_load, o_len, o_store, o_conv, o_un, o_extract, o_append, o_call2, o_callv, o_buildSlice, o_box, o_alloc, o_build, o_indexAddr, o_slice, o_index, o_field, o_makeFunc, o_makeSlice, o_min, o_max, loOf_none, loOf_some, hiOf_none, hiOf_some, natOf_int, sliceS_some, strOp, sz_str, cat_str, list_str, s_binOp, fastBin, s_unOp, fastUn, boolEq, int_beq, int_bne, txt_beq, one_int, one_slice, one_ptr, one_bool, one_str, cells_int, cells_slice, cells_ptr, cells_bool, cells_str, cells_agg, loadRow_new, window, over, Instr.fill, repl, -BitVec.toNat_or, -BitVec.toNat_ofInt, -BitVec.toNat_and, body6, w6_0, L6_0, w6_1, L6_1, w6_2, L6_2, w6_3, L6_3, w6_4, L6_4, w6_5, L6_5, w6_6, L6_6, w6_7, L6_7, w6_8, L6_8, w6_9, L6_9, w6_10, L6_10, w6_11, L6_11, w6_12, L6_12, w6_13, L6_13, w6_14, L6_14, w6_15, L6_15, w6_16, L6_16, w6_17, L6_17, w6_18, L6_18, w6_19, L6_19, bin_ptr u24, len_slice u46, index_slice u46 sz9, load_of ld9, len_string u9, slice_str u9, bin_bool u4 .neq (Or.inr rfl), buildSlice_of u34 bs29 rfl, append_s u34 sz29, len_slice u34, index_slice u34 sz29, load_of ld29, e1, e2, hmax, hi1, la, h500, hnl, hnm, htk, hc, hs, hsb]
      generalize hr5 : sappend _ _ _ _ _ _ = x
      obtain ⟨m4, ao4, fam4, rfl, s4, k4, hf4⟩ := app_sl_new hr5 u34 ap29 s3 (by simp) (by simp [one_int]) (by omega) (by omega)
      have h4 := h3.keep k4 (by simp; omega) (by simp; omega)
      simp [w_seq, w_cond_tmp, w_ret, w_skip, w_exit, w_block, w_loop, r_nil, r_seq, r_seq_ret, r_seq_exit, r_block, r_block_ret, r_block_exit, r_loop, r_loop_ret, r_loop_exit, cnd_t, cnd_f, rg_some, lgo_n, lgo_c, lops_nil, lops_cons, lk_some, lop1_plain, lop1_guard, gd_tt, gd_ff, gd_tf, gd_ft, lput_s, lput_n, lev_t, lev_c, lev_g, lev_f, lget_n, lget_c, lset_n, lset_c, lkeep_n, lkeep_c, lsets_n, lsets_c, lconds_n, lconds_c, lfill, qf_d, okx, lresults, lresultsL, lres_tmp, o_move, o_assign, o_bin, o_pick, o_nilCheck, o_fieldAddr, o_load, o_len, o_store, o_conv, o_un, o_extract, o_append, o_call2, o_callv, o_buildSlice, o_box, o_alloc, o_build, o_indexAddr, o_slice, o_index, o_field, o_makeFunc, o_makeSlice, o_min, o_max, loOf_none, loOf_some, hiOf_none, hiOf_some, natOf_int, sliceS_some, strOp, sz_str, cat_str, list_str, s_binOp, fastBin, s_unOp, fastUn, boolEq, int_beq, int_bne, txt_beq, one_int, one_slice, one_ptr, one_bool, one_str, cells_int, cells_slice, cells_ptr, cells_bool, cells_str, cells_agg, loadRow_new, window, over, Instr.fill, repl, -BitVec.toNat_or, -BitVec.toNat_ofInt, -BitVec.toNat_and, body6, w6_0, L6_0, w6_1, L6_1, w6_2, L6_2, w6_3, L6_3, w6_4, L6_4, w6_5, L6_5, w6_6, L6_6, w6_7, L6_7, w6_8, L6_8, w6_9, L6_9, w6_10, L6_10, w6_11, L6_11, w6_12, L6_12, w6_13, L6_13, w6_14, L6_14, w6_15, L6_15, w6_16, L6_16, w6_17, L6_17, w6_18, L6_18, w6_19, L6_19, bin_ptr u24, len_slice u46, index_slice u46 sz9, load_of ld9, len_string u9, slice_str u9, bin_bool u4 .neq (Or.inr rfl), buildSlice_of u34 bs29 rfl, append_s u34 sz29, len_slice u34, index_slice u34 sz29, load_of ld29, w1]
      refine ih _ _ _ _ ⟨i + 1, ao4, fam4, wb3, rfl, by omega, by omega, rfl, ?_, ?_, by have := k3.1; omega, ?_, by have := k3.1; have := k4.1; omega⟩ (by omega) ⟨rfl, rfl, rfl, by simp [lget], trivial⟩
      · rw [htake, flsn]; exact h4
      · rw [htake, snoc]; simpa [words, Int.add_comm] using s4
      · exact (k2.fresh k3 (by simp; omega)).fresh k4 (by simp; omega)
  · have e1 : i < 30 → ¬ ((i : Int) < rs.length) := by omega
    by_cases a : i < rs.length
    · have a1 : (i : Int) < rs.length := by omega
      have a2 : ¬ ((i : Int) < 30) := by omega
      simp [w_seq, w_cond_tmp, w_ret, w_skip, w_exit, w_block, w_loop, r_nil, r_seq, r_seq_ret, r_seq_exit, r_block, r_block_ret, r_block_exit, r_loop, r_loop_ret, r_loop_exit, cnd_t, cnd_f, rg_some, lgo_n, lgo_c, lops_nil, lops_cons, lk_some, lop1_plain, lop1_guard, gd_tt, gd_ff, gd_tf, gd_ft, lput_s, lput_n, lev_t, lev_c, lev_g, lev_f, lget_n, lget_c, lset_n, lset_c, lkeep_n, lkeep_c, lsets_n, lsets_c, lconds_n, lconds_c, lfill, qf_d, okx, lresults, lresultsL, lres_tmp, o_move, o_assign, o_bin, o_pick, o_nilCheck, o_fieldAddr, o_load, o_len, o_store, o_conv, o_un, o_extract, o_append, o_call2, o_callv, o_buildSlice, o_box, o_alloc, o_build, o_indexAddr, o_slice, o_index, o_field, o_makeFunc, o_makeSlice, o_min, o_max, loOf_none, loOf_some, hiOf_none, hiOf_some, natOf_int, sliceS_some, strOp, sz_str, cat_str, list_str, s_binOp, fastBin, s_unOp, fastUn, boolEq, int_beq, int_bne, txt_beq, one_int, one_slice, one_ptr, one_bool, one_str, cells_int, cells_slice, cells_ptr, cells_bool, cells_str, cells_agg, loadRow_new, window, over, Instr.fill, repl, -BitVec.toNat_or, -BitVec.toNat_ofInt, -BitVec.toNat_and, body6, w6_0, L6_0, w6_1, L6_1, w6_2, L6_2, w6_3, L6_3, w6_4, L6_4, w6_5, L6_5, w6_6, L6_6, w6_7, L6_7, w6_8, L6_8, w6_9, L6_9, w6_10, L6_10, w6_11, L6_11, w6_12, L6_12, w6_13, L6_13, w6_14, L6_14, w6_15, L6_15, w6_16, L6_16, w6_17, L6_17, w6_18, L6_18, w6_19, L6_19, bin_ptr u24, len_slice u46, index_slice u46 sz9, load_of ld9, len_string u9, slice_str u9, bin_bool u4 .neq (Or.inr rfl), buildSlice_of u34 bs29 rfl, append_s u34 sz29, len_slice u34, index_slice u34 sz29, load_of ld29, a, a1, a2]
      refine wsem_loop 12 [25, 33, 61, 69, 101] (fun d E m5 => ∃ (j : Nat), i - j = d ∧ j ≤ i ∧ E = [(0, .slice ao rs.length rs.length), (3, .pointer (some ⟨hb, 0, none⟩)), (5, .slice ro i i), (10, .int .i64 j)] ∧ Keeps m2 m5 []) _ ⟨_, ⟨0, rfl, by omega, rfl, .refl _ _⟩, ⟨rfl, rfl, rfl, rfl, trivial⟩⟩ ?_
      rintro d2 E2 m5 ih2 ⟨j, hdj, hj, rfl, k5⟩
      by_cases hji : j < i
      · have f1 : (j : Int) < i := by omega
        have fm : (j : Int) ≤ 9223372036854775807 := by omega
        have w1 : IntKind.i64.wrap ((j : Int) + 1) = ((j + 1 : Nat) : Int) := by rw [wrap_i64 (by omega) (by omega)]; omega
        obtain ⟨rb, rfl, ho⟩ := (hrl2.keep k5 (by simp)).rdo (by omega)
        have hjr : j < rs.length := by omega
        have la := ho.load1 (off := j) (row_get hjr)
        have hsz1 := hsz _ (List.getElem_mem hjr)
        have hPj : P[j]? = some ((rs[j]).take 500) := by subst hP; simp [hji, hjr]
        generalize rs[j] = l at la hsz1 hPj
        obtain ⟨n, hn'⟩ : ∃ n, n = (l.take 500).length := ⟨_, rfl⟩
        have h500 : (if (500 : Int) < (l.length : Int) then (500 : Int) else l.length) = (n : Int) := by rw [hn', List.length_take]; split <;> omega
        have hnl : n ≤ l.length := by rw [hn', List.length_take]; omega
        have htk : l.take n = l.take 500 := by rw [hn']; exact tk l
        have hnm : (n : Int) ≤ 9223372036854775807 := by omega
        generalize l.take 500 = s at htk hn' hPj
        obtain ⟨r, hr1, hr0, hrl', hrle, hrat⟩ := texts_at hlen5 (by omega) hPj
        obtain ⟨qb, rfl, ho2⟩ := (s2.keep k5 (by simp)).own (by omega)
        have lq := ho2.load1 (off := j) (v := .int .u64 r) (by simp [words, hr1])
        have h5 := h2.keep k5 (by simp) (by simp)
        obtain ⟨v6, m6, hc6, rfl, k6⟩ := string_run hS24 hS21 hS36 hS20 hS37 hS22 h5 hr0 hw hwd hrl' hrle hrat
        have lq6 := (ho2.keep k6 (by simp)).load1 (off := j) (v := .int .u64 r) (by simp [words, hr1])
        have hc7 := len_run hS20 hS37 hS22 (h5.keep k6 (by simp) (by simp)) hr0 hw hwd
        rw [hrl'] at hc7
        simp [w_seq, w_cond_tmp, w_ret, w_skip, w_exit, w_block, w_loop, r_nil, r_seq, r_seq_ret, r_seq_exit, r_block, r_block_ret, r_block_exit, r_loop, r_loop_ret, r_loop_exit, cnd_t, cnd_f, rg_some, lgo_n, lgo_c, lops_nil, lops_cons, lk_some, lop1_plain, lop1_guard, gd_tt, gd_ff, gd_tf, gd_ft, lput_s, lput_n, lev_t, lev_c, lev_g, lev_f, lget_n, lget_c, lset_n, lset_c, lkeep_n, lkeep_c, lsets_n, lsets_c, lconds_n, lconds_c, lfill, qf_d, okx, lresults, lresultsL, lres_tmp, o_move, o_assign, o_bin, o_pick, o_nilCheck, o_fieldAddr, o_load, o_len, o_store, o_conv, o_un, o_extract, o_append, o_call2, o_callv, o_buildSlice, o_box, o_alloc, o_build, o_indexAddr, o_slice, o_index, o_field, o_makeFunc, o_makeSlice, o_min, o_max, loOf_none, loOf_some, hiOf_none, hiOf_some, natOf_int, sliceS_some, strOp, sz_str, cat_str, list_str, s_binOp, fastBin, s_unOp, fastUn, boolEq, int_beq, int_bne, txt_beq, one_int, one_slice, one_ptr, one_bool, one_str, cells_int, cells_slice, cells_ptr, cells_bool, cells_str, cells_agg, loadRow_new, window, over, Instr.fill, repl, -BitVec.toNat_or, -BitVec.toNat_ofInt, -BitVec.toNat_and, body6, w6_0, L6_0, w6_1, L6_1, w6_2, L6_2, w6_3, L6_3, w6_4, L6_4, w6_5, L6_5, w6_6, L6_6, w6_7, L6_7, w6_8, L6_8, w6_9, L6_9, w6_10, L6_10, w6_11, L6_11, w6_12, L6_12, w6_13, L6_13, w6_14, L6_14, w6_15, L6_15, w6_16, L6_16, w6_17, L6_17, w6_18, L6_18, w6_19, L6_19, bin_ptr u24, len_slice u46, index_slice u46 sz9, load_of ld9, len_string u9, slice_str u9, bin_bool u4 .neq (Or.inr rfl), buildSlice_of u34 bs29 rfl, append_s u34 sz29, len_slice u34, index_slice u34 sz29, load_of ld29, f1, fm, hji, hjr, la, h500, hnl, hnm, htk, lq, lq6, hc6, hc7, w1]
        exact ih2 _ _ _ _ ⟨j + 1, rfl, by omega, rfl, k5.trans k6⟩ (by omega) ⟨rfl, rfl, rfl, by simp [lget], trivial⟩
      · have f1 : ¬ (j : Int) < i := by omega
        simp [w_seq, w_cond_tmp, w_ret, w_skip, w_exit, w_block, w_loop, r_nil, r_seq, r_seq_ret, r_seq_exit, r_block, r_block_ret, r_block_exit, r_loop, r_loop_ret, r_loop_exit, cnd_t, cnd_f, rg_some, lgo_n, lgo_c, lops_nil, lops_cons, lk_some, lop1_plain, lop1_guard, gd_tt, gd_ff, gd_tf, gd_ft, lput_s, lput_n, lev_t, lev_c, lev_g, lev_f, lget_n, lget_c, lset_n, lset_c, lkeep_n, lkeep_c, lsets_n, lsets_c, lconds_n, lconds_c, lfill, qf_d, okx, lresults, lresultsL, lres_tmp, o_move, o_assign, o_bin, o_pick, o_nilCheck, o_fieldAddr, o_load, o_len, o_store, o_conv, o_un, o_extract, o_append, o_call2, o_callv, o_buildSlice, o_box, o_alloc, o_build, o_indexAddr, o_slice, o_index, o_field, o_makeFunc, o_makeSlice, o_min, o_max, loOf_none, loOf_some, hiOf_none, hiOf_some, natOf_int, sliceS_some, strOp, sz_str, cat_str, list_str, s_binOp, fastBin, s_unOp, fastUn, boolEq, int_beq, int_bne, txt_beq, one_int, one_slice, one_ptr, one_bool, one_str, cells_int, cells_slice, cells_ptr, cells_bool, cells_str, cells_agg, loadRow_new, window, over, Instr.fill, repl, -BitVec.toNat_or, -BitVec.toNat_ofInt, -BitVec.toNat_and, body6, w6_0, L6_0, w6_1, L6_1, w6_2, L6_2, w6_3, L6_3, w6_4, L6_4, w6_5, L6_5, w6_6, L6_6, w6_7, L6_7, w6_8, L6_8, w6_9, L6_9, w6_10, L6_10, w6_11, L6_11, w6_12, L6_12, w6_13, L6_13, w6_14, L6_14, w6_15, L6_15, w6_16, L6_16, w6_17, L6_17, w6_18, L6_18, w6_19, L6_19, bin_ptr u24, len_slice u46, index_slice u46 sz9, load_of ld9, len_string u9, slice_str u9, bin_bool u4 .neq (Or.inr rfl), buildSlice_of u34 bs29 rfl, append_s u34 sz29, len_slice u34, index_slice u34 sz29, load_of ld29, f1, hji]
    · have a1 : ¬ (i : Int) < rs.length := by omega
      simp [w_seq, w_cond_tmp, w_ret, w_skip, w_exit, w_block, w_loop, r_nil, r_seq, r_seq_ret, r_seq_exit, r_block, r_block_ret, r_block_exit, r_loop, r_loop_ret, r_loop_exit, cnd_t, cnd_f, rg_some, lgo_n, lgo_c, lops_nil, lops_cons, lk_some, lop1_plain, lop1_guard, gd_tt, gd_ff, gd_tf, gd_ft, lput_s, lput_n, lev_t, lev_c, lev_g, lev_f, lget_n, lget_c, lset_n, lset_c, lkeep_n, lkeep_c, lsets_n, lsets_c, lconds_n, lconds_c, lfill, qf_d, okx, lresults, lresultsL, lres_tmp, o_move, o_assign, o_bin, o_pick, o_nilCheck, o_fieldAddr, o_load, o_len, o_store, o_conv, o_un, o_extract, o_append, o_call2, o_callv, o_buildSlice, o_box, o_alloc, o_build, o_indexAddr, o_slice, o_index, o_field, o_makeFunc, o_makeSlice, o_min, o_max, loOf_none, loOf_some, hiOf_none, hiOf_some, natOf_int, sliceS_some, strOp, sz_str, cat_str, list_str, s_binOp, fastBin, s_unOp, fastUn, boolEq, int_beq, int_bne, txt_beq, one_int, one_slice, one_ptr, one_bool, one_str, cells_int, cells_slice, cells_ptr, cells_bool, cells_str, cells_agg, loadRow_new, window, over, Instr.fill, repl, -BitVec.toNat_or, -BitVec.toNat_ofInt, -BitVec.toNat_and, body6, w6_0, L6_0, w6_1, L6_1, w6_2, L6_2, w6_3, L6_3, w6_4, L6_4, w6_5, L6_5, w6_6, L6_6, w6_7, L6_7, w6_8, L6_8, w6_9, L6_9, w6_10, L6_10, w6_11, L6_11, w6_12, L6_12, w6_13, L6_13, w6_14, L6_14, w6_15, L6_15, w6_16, L6_16, w6_17, L6_17, w6_18, L6_18, w6_19, L6_19, bin_ptr u24, len_slice u46, index_slice u46 sz9, load_of ld9, len_string u9, slice_str u9, bin_bool u4 .neq (Or.inr rfl), buildSlice_of u34 bs29 rfl, append_s u34 sz29, len_slice u34, index_slice u34 sz29, load_of ld29, a, a1]
      refine wsem_loop 12 [25, 33, 61, 69, 101] (fun d E m5 => ∃ (j : Nat), i - j = d ∧ j ≤ i ∧ E = [(0, .slice ao rs.length rs.length), (3, .pointer (some ⟨hb, 0, none⟩)), (5, .slice ro i i), (10, .int .i64 j)] ∧ Keeps m2 m5 []) _ ⟨_, ⟨0, rfl, by omega, rfl, .refl _ _⟩, ⟨rfl, rfl, rfl, rfl, trivial⟩⟩ ?_
      rintro d2 E2 m5 ih2 ⟨j, hdj, hj, rfl, k5⟩
      by_cases hji : j < i
      · have f1 : (j : Int) < i := by omega
        have fm : (j : Int) ≤ 9223372036854775807 := by omega
        have w1 : IntKind.i64.wrap ((j : Int) + 1) = ((j + 1 : Nat) : Int) := by rw [wrap_i64 (by omega) (by omega)]; omega
        obtain ⟨rb, rfl, ho⟩ := (hrl2.keep k5 (by simp)).rdo (by omega)
        have hjr : j < rs.length := by omega
        have la := ho.load1 (off := j) (row_get hjr)
        have hsz1 := hsz _ (List.getElem_mem hjr)
        have hPj : P[j]? = some ((rs[j]).take 500) := by subst hP; simp [hji, hjr]
        generalize rs[j] = l at la hsz1 hPj
        obtain ⟨n, hn'⟩ : ∃ n, n = (l.take 500).length := ⟨_, rfl⟩
        have h500 : (if (500 : Int) < (l.length : Int) then (500 : Int) else l.length) = (n : Int) := by rw [hn', List.length_take]; split <;> omega
        have hnl : n ≤ l.length := by rw [hn', List.length_take]; omega
        have htk : l.take n = l.take 500 := by rw [hn']; exact tk l
        have hnm : (n : Int) ≤ 9223372036854775807 := by omega
        generalize l.take 500 = s at htk hn' hPj
        obtain ⟨r, hr1, hr0, hrl', hrle, hrat⟩ := texts_at hlen5 (by omega) hPj
        obtain ⟨qb, rfl, ho2⟩ := (s2.keep k5 (by simp)).own (by omega)
        have lq := ho2.load1 (off := j) (v := .int .u64 r) (by simp [words, hr1])
        have h5 := h2.keep k5 (by simp) (by simp)
        obtain ⟨v6, m6, hc6, rfl, k6⟩ := string_run hS24 hS21 hS36 hS20 hS37 hS22 h5 hr0 hw hwd hrl' hrle hrat
        have lq6 := (ho2.keep k6 (by simp)).load1 (off := j) (v := .int .u64 r) (by simp [words, hr1])
        have hc7 := len_run hS20 hS37 hS22 (h5.keep k6 (by simp) (by simp)) hr0 hw hwd
        rw [hrl'] at hc7
        simp [w_seq, w_cond_tmp, w_ret, w_skip, w_exit, w_block, w_loop, r_nil, r_seq, r_seq_ret, r_seq_exit, r_block, r_block_ret, r_block_exit, r_loop, r_loop_ret, r_loop_exit, cnd_t, cnd_f, rg_some, lgo_n, lgo_c, lops_nil, lops_cons, lk_some, lop1_plain, lop1_guard, gd_tt, gd_ff, gd_tf, gd_ft, lput_s, lput_n, lev_t, lev_c, lev_g, lev_f, lget_n, lget_c, lset_n, lset_c, lkeep_n, lkeep_c, lsets_n, lsets_c, lconds_n, lconds_c, lfill, qf_d, okx, lresults, lresultsL, lres_tmp, o_move, o_assign, o_bin, o_pick, o_nilCheck, o_fieldAddr, o_load, o_len, o_store, o_conv, o_un, o_extract, o_append, o_call2, o_callv, o_buildSlice, o_box, o_alloc, o_build, o_indexAddr, o_slice, o_index, o_field, o_makeFunc, o_makeSlice, o_min, o_max, loOf_none, loOf_some, hiOf_none, hiOf_some, natOf_int, sliceS_some, strOp, sz_str, cat_str, list_str, s_binOp, fastBin, s_unOp, fastUn, boolEq, int_beq, int_bne, txt_beq, one_int, one_slice, one_ptr, one_bool, one_str, cells_int, cells_slice, cells_ptr, cells_bool, cells_str, cells_agg, loadRow_new, window, over, Instr.fill, repl, -BitVec.toNat_or, -BitVec.toNat_ofInt, -BitVec.toNat_and, body6, w6_0, L6_0, w6_1, L6_1, w6_2, L6_2, w6_3, L6_3, w6_4, L6_4, w6_5, L6_5, w6_6, L6_6, w6_7, L6_7, w6_8, L6_8, w6_9, L6_9, w6_10, L6_10, w6_11, L6_11, w6_12, L6_12, w6_13, L6_13, w6_14, L6_14, w6_15, L6_15, w6_16, L6_16, w6_17, L6_17, w6_18, L6_18, w6_19, L6_19, bin_ptr u24, len_slice u46, index_slice u46 sz9, load_of ld9, len_string u9, slice_str u9, bin_bool u4 .neq (Or.inr rfl), buildSlice_of u34 bs29 rfl, append_s u34 sz29, len_slice u34, index_slice u34 sz29, load_of ld29, f1, fm, hji, hjr, la, h500, hnl, hnm, htk, lq, lq6, hc6, hc7, w1]
        exact ih2 _ _ _ _ ⟨j + 1, rfl, by omega, rfl, k5.trans k6⟩ (by omega) ⟨rfl, rfl, rfl, by simp [lget], trivial⟩
      · have f1 : ¬ (j : Int) < i := by omega
        simp [w_seq, w_cond_tmp, w_ret, w_skip, w_exit, w_block, w_loop, r_nil, r_seq, r_seq_ret, r_seq_exit, r_block, r_block_ret, r_block_exit, r_loop, r_loop_ret, r_loop_exit, cnd_t, cnd_f, rg_some, lgo_n, lgo_c, lops_nil, lops_cons, lk_some, lop1_plain, lop1_guard, gd_tt, gd_ff, gd_tf, gd_ft, lput_s, lput_n, lev_t, lev_c, lev_g, lev_f, lget_n, lget_c, lset_n, lset_c, lkeep_n, lkeep_c, lsets_n, lsets_c, lconds_n, lconds_c, lfill, qf_d, okx, lresults, lresultsL, lres_tmp, o_move, o_assign, o_bin, o_pick, o_nilCheck, o_fieldAddr, o_load, o_len, o_store, o_conv, o_un, o_extract, o_append, o_call2, o_callv, o_buildSlice, o_box, o_alloc, o_build, o_indexAddr, o_slice, o_index, o_field, o_makeFunc, o_makeSlice, o_min, o_max, loOf_none, loOf_some, hiOf_none, hiOf_some, natOf_int, sliceS_some, strOp, sz_str, cat_str, list_str, s_binOp, fastBin, s_unOp, fastUn, boolEq, int_beq, int_bne, txt_beq, one_int, one_slice, one_ptr, one_bool, one_str, cells_int, cells_slice, cells_ptr, cells_bool, cells_str, cells_agg, loadRow_new, window, over, Instr.fill, repl, -BitVec.toNat_or, -BitVec.toNat_ofInt, -BitVec.toNat_and, body6, w6_0, L6_0, w6_1, L6_1, w6_2, L6_2, w6_3, L6_3, w6_4, L6_4, w6_5, L6_5, w6_6, L6_6, w6_7, L6_7, w6_8, L6_8, w6_9, L6_9, w6_10, L6_10, w6_11, L6_11, w6_12, L6_12, w6_13, L6_13, w6_14, L6_14, w6_15, L6_15, w6_16, L6_16, w6_17, L6_17, w6_18, L6_18, w6_19, L6_19, bin_ptr u24, len_slice u46, index_slice u46 sz9, load_of ld9, len_string u9, slice_str u9, bin_bool u4 .neq (Or.inr rfl), buildSlice_of u34 bs29 rfl, append_s u34 sz29, len_slice u34, index_slice u34 sz29, load_of ld29, f1, hji]

/- the row -/
open Go.ChangeShapes Go.WideShapes Go.ChangeAt Go.RowKit
theorem own : ownKnob Try.prog.godebug = none := by kernel_rfl
theorem mixed : Try.prog.follows .mixedOrders = true := by kernel_rfl
theorem tab : Sh.tabCheck Try.prog fns = true := by kernel_rfl
theorem known : Sh.isVal (.bool true) (Sh.call Try.prog (Sh.tabOf Try.prog fns) Sh.noSums 100000 11 [] (Sh.memG Try.prog [])) = true := by kernel_rfl
def sums : Sums := fun f => if f = 11 then [([], .bool true)] else []
theorem sumsOk : SumsOk Try.prog sums := by
  intro f p hp
  unfold sums at hp
  split at hp
  · rename_i hf
    subst hf
    simp only [List.mem_cons, List.not_mem_nil, or_false] at hp
    subst hp
    exact ⟨rfl, rfl, ⟨Try.f11, Try.func11, by kernel_rfl, by kernel_rfl⟩, fun w => Sh.closed_val mixed (Sh.tab_ok tab) (Sh.noSums_ok _) 100000 11 Try.func11 (by kernel_rfl) (gs := []) (by kernel_rfl) (by kernel_rfl) known w (fun p hp => by simp at hp)⟩
  · simp at hp

theorem walk (w : World) {v0 : Value} (h0 : RowArg Try.prog w (fun l : List UInt8 => [Value.string ⟨l.toArray⟩]) (fun l => l.length ≤ 9223372036854775807) 9 1 v0) :
    Calls Try.prog 6 #[v0] w fun e w' => e = .returned (.bool true) ∧ Below w.heap.size w w' := by
  have hM := start_rel Try.prog w
  obtain ⟨rs0, J0, m0, ao0, fr0, le0, hM0, vr0, hr0, hg0, hl0, hk0, hz0, hw0⟩ := row_in hM sz9 (by omega) (fun _ => rfl) h0
  obtain ⟨v', m', h, rfl⟩ := law_run (S := sums) (m := m0) rfl rfl rfl rfl rfl rfl rfl rfl rfl rfl rfl rfl rfl hr0 hl0 hz0 hw0
  exact calls_of mixed (Sh.tab_ok tab) sumsOk Try.func6 (by kernel_rfl) h rfl hM0 (.cons vr0 LRel.nil)

theorem laidOut : laidOutB Try.prog = true := by kernel_rfl

theorem lifted (os : Os) (started : os.Started) (H : Type) (enc : TypeId × Value → H) :
    ReturnsInHanded {} Try.checked os 6 .any (Rows.heapTextsSpec.pre6 enc Try.prog Try.f6 Rows.heapTextsRow.domain false) (Rows.heapTextsSpec.post enc Try.prog Try.f6 false true false false) := by
  refine returnsInHanded_of_change (C := Try.checked) own started (by kernel_rfl) Try.func6
    (ChangeSpec.witness6 (enc := enc) (C := Try.checked) false ⟨#[], #[.slice none 0 0], []⟩ 8 (by kernel_rfl) (by kernel_rfl) (by kernel_rfl) (by kernel_rfl)) ?_
  intro W base args ds gs before hval0 hW hcnd _
  have hval : ∀ (j : Nat) t v, Try.f6.params[j]? = some t → args[j]? = some v → Value.okWide Try.prog W .any base t v := hval0
  have hW' := hW
  obtain ⟨p, q, hA0, hV, rfl, hfz, hnd⟩ := hW
  have hA : DataW.TrodAll enc Try.prog W 0 (fun _ => true) true Try.f6.params.toList args.toList ds p := hA0
  rw [Try.params6] at hA hval
  obtain ⟨v0, d0, rfl, rfl, t0⟩ := trodAll_one hA
  obtain ⟨rfl, rfl⟩ := trodVars_none hV
  have hv0 := strs_row u46 u9 sz9 (hval 0 _ _ rfl rfl) t0
  clear hA0 hval0
  simp only [List.append_nil, List.nil_append] at hW'
  refine (walk W hv0).mono fun e W' ⟨he, hg⟩ => ?_
  subst he
  have hlt0 : ∀ z ∈ p, z.block < W.heap.size := fun z hz => hW'.lt z (by simp [hz])
  exact ⟨_, rfl, Sh.law_post (pa := p) (pv := []) hW' hg (by simp) (fun sp hsp => trodAll_mk1 (WideElems.Trod_stays laidOut (by kernel_rfl) (of_decide_eq_true (by kernel_rfl)) t0 (fun z hz => hg.same (hlt0 z hz)) (fun z hz => hsp z (by simp [hz])))) (fun _ _ => rfl) (fun _ _ _ => (trodAll_cons_mk (shut_bool u4 _) trodAll_mk0))
    (ok_one (by kernel_rfl) rfl (okWide_bool_mk u4 _))⟩

theorem over : Rows.heapTextsRow.holds Try.pinned (OpenSpec.ofChange Rows.heapTextsSpec) :=
  OpenClaim.holds_of_wide 6 Try.f6 rfl rfl rfl rfl rfl rfl rfl ⟨rfl, rfl, rfl, rfl, rfl⟩ rfl rfl rfl rfl rfl (by kernel_rfl) Try.func6 (by kernel_rfl)
    (of_decide_eq_true (by kernel_rfl)) (by unfold Func.isWrapper; first | (rw [if_pos (by decide +kernel)]; kernel_rfl) | (rw [if_neg (by decide +kernel)]; exact ⟨rfl, rfl⟩))
    (fun os started H enc _ => lifted os started H enc)

theorem proved : Rows.HeapTextsSaid :=
  over
#print axioms proved
end Go.Proofs.Ytmehepbejckmlaa.heapTexts

