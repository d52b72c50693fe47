/-
  This text proves 'Rows.HeapCopiesSaid': the law 'HeapCopies' returns true at any sizes, values and place, in whatever memory and on every tape, and its input reads as it did.
  No condition.
-/
import Derived.Test.YtmehepbejckmlaaRows
import Derived.Test.YtmehepbejckmlaaHeapBase
set_option maxRecDepth 100000
set_option linter.unusedSimpArgs false
set_option linter.unusedVariables false
namespace Go.Proofs.Ytmehepbejckmlaa.heapCopies
open Go.Sh heapBase
variable {S : Sums} {m : Mem}
noncomputable def c4 : Code := bodyOf Try.f4
noncomputable def r4_0 : Code := Code.sub [0] c4
noncomputable def r4_1 : Code := Code.sub [1, 0] c4
noncomputable def r4_2 : Code := Code.sub [1, 1, 0, 0] c4
noncomputable def r4_3 : Code := Code.sub [1, 1, 0, 1, 0, 0] c4
noncomputable def r4_4 : Code := Code.sub [1, 1, 1, 0, 0] c4
noncomputable def r4_5 : Code := Code.sub [1, 1, 1, 0, 1, 0, 0, 0, 0] c4
noncomputable def r4_6 : Code := Code.sub [1, 1, 1, 0, 1, 0, 0, 1, 0, 0] c4
noncomputable def r4_7 : Code := Code.sub [1, 1, 1, 0, 1, 0, 0, 1, 1] c4
noncomputable def r4_8 : Code := Code.sub [1, 1, 1, 1, 0] c4
noncomputable def r4_9 : Code := Code.sub [1, 1, 1, 1, 1, 0] c4
noncomputable def r4_10 : Code := Code.sub [1, 1, 1, 1, 1, 1, 0, 0] c4
noncomputable def r4_11 : Code := Code.sub [1, 1, 1, 1, 1, 1, 0, 1, 0, 0] c4
noncomputable def r4_12 : Code := Code.sub [1, 1, 1, 1, 1, 1, 1, 0, 0] c4
noncomputable def r4_13 : Code := Code.sub [1, 1, 1, 1, 1, 1, 1, 0, 1, 0, 0, 0, 0] c4
noncomputable def r4_14 : Code := Code.sub [1, 1, 1, 1, 1, 1, 1, 0, 1, 0, 0, 1, 0, 0, 0] c4
noncomputable def r4_15 : Code := Code.sub [1, 1, 1, 1, 1, 1, 1, 0, 1, 0, 0, 1, 0, 0, 1, 0] c4
noncomputable def r4_16 : Code := Code.sub [1, 1, 1, 1, 1, 1, 1, 0, 1, 0, 0, 1, 0, 0, 1, 1, 0, 0] c4
noncomputable def r4_17 : Code := Code.sub [1, 1, 1, 1, 1, 1, 1, 0, 1, 0, 0, 1, 0, 0, 1, 1, 0, 1, 0] c4
noncomputable def r4_18 : Code := Code.sub [1, 1, 1, 1, 1, 1, 1, 0, 1, 0, 0, 1, 0, 0, 1, 1, 0, 1, 1, 0, 0] c4
noncomputable def r4_19 : Code := Code.sub [1, 1, 1, 1, 1, 1, 1, 0, 1, 0, 0, 1, 1] c4
noncomputable def r4_20 : Code := Code.sub [1, 1, 1, 1, 1, 1, 1, 1, 0] c4
noncomputable def r4_21 : Code := Code.sub [1, 1, 1, 1, 1, 1, 1, 1, 1, 0] c4
noncomputable def r4_22 : Code := Code.sub [1, 1, 1, 1, 1, 1, 1, 1, 1, 1, 0] c4
noncomputable def r4_23 : Code := Code.sub [1, 1, 1, 1, 1, 1, 1, 1, 1, 1, 1, 0] c4
theorem body4 : c4 = (.seq r4_0 (.seq r4_1 (.seq (.seq r4_2 (.cond (.tmp 28) (.seq r4_3 .ret) .skip)) (.seq (.seq r4_4 (.block 0 (.loop (.seq (.seq r4_5 (.cond (.tmp 36) .skip (.exit 0))) (.seq (.block 1 r4_6) r4_7))))) (.seq r4_8 (.seq r4_9 (.seq (.seq r4_10 (.cond (.tmp 58) (.seq r4_11 .ret) .skip)) (.seq (.seq r4_12 (.block 2 (.loop (.seq (.seq r4_13 (.cond (.tmp 66) .skip (.exit 2))) (.seq (.block 3 (.seq r4_14 (.seq r4_15 (.cond (.tmp 79) (.seq r4_16 (.seq r4_17 (.cond (.tmp 91) (.seq r4_18 .ret) .skip))) .skip)))) r4_19))))) (.seq r4_20 (.seq r4_21 (.seq r4_22 (.seq r4_23 .ret)))))))))))) := by kernel_rfl
/-- the slots of the first loop -/
structure S1 (t : Tree Value) (v0 v1 : Value) (at_ : Int) (hb i : Nat) : Prop where
  s0 : t.get 0 = some v0
  s1 : t.get 1 = some v1
  s2 : t.get 2 = some (.int .i64 at_)
  s7 : t.get 7 = some (.pointer (some ⟨hb, 0, none⟩))
  s9 : t.get 9 = some (.int .i64 i)

noncomputable def roundA : Code := .seq (.seq r4_5 (.cond (.tmp 36) .skip (.exit 0))) (.seq (.block 1 r4_6) r4_7)

theorem loopA (hS9 : S 9 = []) (hS12 : S 12 = []) {ao : Option Addr} {c hb hf wf la lf : Nat} {zs : List Int} {v1 : Value} {at_ : Int} (n1 : lf ≠ hf) (n2 : lf ≠ wf) (ha : zs ≠ [] → ao = some ⟨la, 0, none⟩) (h63 : zs.length ≤ 9223372036854775807) :
    ∀ (d i : Nat) (m : Mem) (t : Tree Value) (wb : Nat) (ws : List Int), 20 - i ≤ d → i ≤ 20 → S1 t (.slice ao zs.length c) v1 at_ hb i → HeapAt m hb hf wb wf ws 500 → (zs ≠ [] → Rdo m la (zs.map (Value.int .i64)) 3 lf) → (ws.length : Int) ≤ 500 → ws ≠ [] →
      ∃ t' m' wb' ws' i', execw Try.prog TT S (.loop roundA) t m = some (.exit 0, t', m') ∧ S1 t' (.slice ao zs.length c) v1 at_ hb i' ∧ HeapAt m' hb hf wb' wf ws' 500 ∧ (ws'.length : Int) ≤ 500 ∧ ws' ≠ [] ∧ Keeps m m' [hf, wf] := by
  intro d
  have stop : ∀ (i : Nat) (m : Mem) (t : Tree Value), S1 t (.slice ao zs.length c) v1 at_ hb i → ¬ (i < zs.length ∧ i < 20) → ∃ t', execw Try.prog TT S (.seq r4_5 (.cond (.tmp 36) .skip (.exit 0))) t m = some (.exit 0, t', m) ∧ S1 t' (.slice ao zs.length c) v1 at_ hb i := by
    intro i m t h hi
    obtain ⟨s0, s1, s2, s7, s9⟩ := h
    have : ∃ t', execw Try.prog TT S (.seq r4_5 (.cond (.tmp 36) .skip (.exit 0))) t m = some (.exit 0, t', m) ∧ t'.get 0 = t.get 0 ∧ t'.get 1 = t.get 1 ∧ t'.get 2 = t.get 2 ∧ t'.get 7 = t.get 7 ∧ t'.get 9 = t.get 9 := by
      simp only [r4_5, c4, bodyOf, Try.f4, Code.sub]
      by_cases a : i < zs.length
      · have e2 : ¬ ((i : Int) < 20) := by omega
        have e1 : ((i : Int) < zs.length) := by omega
        simp [x_seq, x_region, x_cond, x_ret, x_skip, x_exit, sregion_false, sregion_quiet, floatB, quiet, loudB, sops_nil, sops_cons, sop1_plain, sop1_guard, syield, put_some, put_none, ev_tmp, ev_const, fill_nil, fill_cons, o_move, o_assign, o_bin, o_pick, o_nilCheck, o_fieldAddr, o_load, o_len, o_store, o_conv, o_un, o_extract, o_append, o_call, o_buildSlice, o_box, o_alloc, o_build, o_indexAddr, Tree.get_set, s_binOp, fastBin, s_unOp, fastUn, boolEq, sresults, sresultsL, sresult, one_int, one_slice, one_ptr, one_bool, one_str, cells_int, cells_slice, cells_ptr, cells_bool, cells_str, cells_agg, loadRow_new, window, over, -BitVec.toNat_or, -BitVec.toNat_ofInt, -BitVec.toNat_and, fieldAddr_of fa0, fieldAddr_of fa1, load_of ld3, load_of ld34, len_slice u34, store_of sz34, conv_i u3 u29, build_one u34 el29, append_s u34 sz29, append_m u3 u34, box_of b58, build_of bo58, len_slice u22, index_slice u22 sz3, bin_ptr u24, bin_bool u4 .eql (Or.inl rfl), bin_bool u4 .neq (Or.inr rfl), load_of ld29, store_of sz29, index_slice u34 sz29, s0, s1, s2, s7, s9, a, e1, e2]
      · have e1 : ¬ ((i : Int) < zs.length) := by omega
        simp [x_seq, x_region, x_cond, x_ret, x_skip, x_exit, sregion_false, sregion_quiet, floatB, quiet, loudB, sops_nil, sops_cons, sop1_plain, sop1_guard, syield, put_some, put_none, ev_tmp, ev_const, fill_nil, fill_cons, o_move, o_assign, o_bin, o_pick, o_nilCheck, o_fieldAddr, o_load, o_len, o_store, o_conv, o_un, o_extract, o_append, o_call, o_buildSlice, o_box, o_alloc, o_build, o_indexAddr, Tree.get_set, s_binOp, fastBin, s_unOp, fastUn, boolEq, sresults, sresultsL, sresult, one_int, one_slice, one_ptr, one_bool, one_str, cells_int, cells_slice, cells_ptr, cells_bool, cells_str, cells_agg, loadRow_new, window, over, -BitVec.toNat_or, -BitVec.toNat_ofInt, -BitVec.toNat_and, fieldAddr_of fa0, fieldAddr_of fa1, load_of ld3, load_of ld34, len_slice u34, store_of sz34, conv_i u3 u29, build_one u34 el29, append_s u34 sz29, append_m u3 u34, box_of b58, build_of bo58, len_slice u22, index_slice u22 sz3, bin_ptr u24, bin_bool u4 .eql (Or.inl rfl), bin_bool u4 .neq (Or.inr rfl), load_of ld29, store_of sz29, index_slice u34 sz29, s0, s1, s2, s7, s9, a, e1]
    obtain ⟨t', g, g0, g1, g2, g7, g9⟩ := this
    exact ⟨t', g, ⟨g0.trans s0, g1.trans s1, g2.trans s2, g7.trans s7, g9.trans s9⟩⟩
  induction d with
  | zero =>
    intro i m t wb ws hd hi h hp hr hw hne
    obtain ⟨t', g, k⟩ := stop i m t h (by omega)
    exact ⟨t', m, wb, ws, i, loop_exit (seq_exit g), k, hp, hw, hne, .refl _ _⟩
  | succ d ih =>
    intro i m t wb ws hd hi h hp hr hw hne
    by_cases hgo : i < zs.length ∧ i < 20
    · obtain ⟨s0, s1, s2, s7, s9⟩ := h
      have hz : zs ≠ [] := by intro e; rw [e] at hgo; simp at hgo
      have ha' := ha hz
      have hlt := hgo.1
      have e1 : ((i : Int) < zs.length) := by omega
      have e2 : ((i : Int) < 20) := by omega
      have hmax : (i : Int) ≤ 9223372036854775807 := by omega
      have hl : loadRow m ⟨la, i, none⟩ 1 = some [.int .i64 (zs.getD i 0)] := (hr hz).load1 (by simp [List.getD_eq_getElem?_getD, List.getElem?_eq_getElem hlt])
      generalize zs.getD i 0 = z at hl
      have hpk := pick_run (m := m) hS9 z 9 (by omega) (by omega)
      obtain ⟨v, m1, wb', ws', hc, hp', hk, hle, hw'⟩ := alloc_any (t := 5) (k := z % 9) hS12 hp (by omega) hw
      have q1 : ∃ t1, execw Try.prog TT S (.seq r4_5 (.cond (.tmp 36) .skip (.exit 0))) t m = some (.normal, t1, m) ∧ t1.get 0 = t.get 0 ∧ t1.get 1 = t.get 1 ∧ t1.get 2 = t.get 2 ∧ t1.get 7 = t.get 7 ∧ t1.get 9 = t.get 9 := by
        simp only [r4_5, c4, bodyOf, Try.f4, Code.sub]
        simp [x_seq, x_region, x_cond, x_ret, x_skip, x_exit, sregion_false, sregion_quiet, floatB, quiet, loudB, sops_nil, sops_cons, sop1_plain, sop1_guard, syield, put_some, put_none, ev_tmp, ev_const, fill_nil, fill_cons, o_move, o_assign, o_bin, o_pick, o_nilCheck, o_fieldAddr, o_load, o_len, o_store, o_conv, o_un, o_extract, o_append, o_call, o_buildSlice, o_box, o_alloc, o_build, o_indexAddr, Tree.get_set, s_binOp, fastBin, s_unOp, fastUn, boolEq, sresults, sresultsL, sresult, one_int, one_slice, one_ptr, one_bool, one_str, cells_int, cells_slice, cells_ptr, cells_bool, cells_str, cells_agg, loadRow_new, window, over, -BitVec.toNat_or, -BitVec.toNat_ofInt, -BitVec.toNat_and, fieldAddr_of fa0, fieldAddr_of fa1, load_of ld3, load_of ld34, len_slice u34, store_of sz34, conv_i u3 u29, build_one u34 el29, append_s u34 sz29, append_m u3 u34, box_of b58, build_of bo58, len_slice u22, index_slice u22 sz3, bin_ptr u24, bin_bool u4 .eql (Or.inl rfl), bin_bool u4 .neq (Or.inr rfl), load_of ld29, store_of sz29, index_slice u34 sz29, s0, s1, s2, s7, s9, hlt, e1, e2]
      obtain ⟨t1, g1, a0, a1, a2, a7, a9⟩ := q1
      have b0 := a0.trans s0; have b1 := a1.trans s1; have b2 := a2.trans s2; have b7 := a7.trans s7; have b9 := a9.trans s9
      rw [ha'] at b0
      have q2 : ∃ t2, execw Try.prog TT S r4_6 t1 m = some (.normal, t2, m1) ∧ t2.get 0 = t1.get 0 ∧ t2.get 1 = t1.get 1 ∧ t2.get 2 = t1.get 2 ∧ t2.get 7 = t1.get 7 ∧ t2.get 9 = t1.get 9 := by
        simp only [r4_6, c4, bodyOf, Try.f4, Code.sub]
        simp [x_seq, x_region, x_cond, x_ret, x_skip, x_exit, sregion_false, sregion_quiet, floatB, quiet, loudB, sops_nil, sops_cons, sop1_plain, sop1_guard, syield, put_some, put_none, ev_tmp, ev_const, fill_nil, fill_cons, o_move, o_assign, o_bin, o_pick, o_nilCheck, o_fieldAddr, o_load, o_len, o_store, o_conv, o_un, o_extract, o_append, o_call, o_buildSlice, o_box, o_alloc, o_build, o_indexAddr, Tree.get_set, s_binOp, fastBin, s_unOp, fastUn, boolEq, sresults, sresultsL, sresult, one_int, one_slice, one_ptr, one_bool, one_str, cells_int, cells_slice, cells_ptr, cells_bool, cells_str, cells_agg, loadRow_new, window, over, -BitVec.toNat_or, -BitVec.toNat_ofInt, -BitVec.toNat_and, fieldAddr_of fa0, fieldAddr_of fa1, load_of ld3, load_of ld34, len_slice u34, store_of sz34, conv_i u3 u29, build_one u34 el29, append_s u34 sz29, append_m u3 u34, box_of b58, build_of bo58, len_slice u22, index_slice u22 sz3, bin_ptr u24, bin_bool u4 .eql (Or.inl rfl), bin_bool u4 .neq (Or.inr rfl), load_of ld29, store_of sz29, index_slice u34 sz29, b0, b1, b2, b7, b9, hlt, hmax, hl, hpk, hc]
      obtain ⟨t2, g2, c0, c1, c2, c7, c9⟩ := q2
      have d0 := c0.trans b0; have d1 := c1.trans b1; have d2 := c2.trans b2; have d7 := c7.trans b7; have d9 := c9.trans b9
      have w1 : IntKind.i64.wrap ((i : Int) + 1) = ((i + 1 : Nat) : Int) := by rw [wrap_i64 (by omega) (by omega)]; omega
      have q3 : ∃ t3, execw Try.prog TT S r4_7 t2 m1 = some (.normal, t3, m1) ∧ t3.get 0 = t2.get 0 ∧ t3.get 1 = t2.get 1 ∧ t3.get 2 = t2.get 2 ∧ t3.get 7 = t2.get 7 ∧ t3.get 9 = some (.int .i64 ((i + 1 : Nat) : Int)) := by
        simp only [r4_7, c4, bodyOf, Try.f4, Code.sub]
        simp [x_seq, x_region, x_cond, x_ret, x_skip, x_exit, sregion_false, sregion_quiet, floatB, quiet, loudB, sops_nil, sops_cons, sop1_plain, sop1_guard, syield, put_some, put_none, ev_tmp, ev_const, fill_nil, fill_cons, o_move, o_assign, o_bin, o_pick, o_nilCheck, o_fieldAddr, o_load, o_len, o_store, o_conv, o_un, o_extract, o_append, o_call, o_buildSlice, o_box, o_alloc, o_build, o_indexAddr, Tree.get_set, s_binOp, fastBin, s_unOp, fastUn, boolEq, sresults, sresultsL, sresult, one_int, one_slice, one_ptr, one_bool, one_str, cells_int, cells_slice, cells_ptr, cells_bool, cells_str, cells_agg, loadRow_new, window, over, -BitVec.toNat_or, -BitVec.toNat_ofInt, -BitVec.toNat_and, d0, d1, d2, d7, d9, w1]
      obtain ⟨t3, g3, f0, f1, f2, f7, f9⟩ := q3
      rw [loop_go (b := roundA) (seq_ok g1 (seq_ok (block_ok g2) g3))]
      obtain ⟨t', m', wb2, ws2, i2, e, k, hp2, hw2, hne2, hk2⟩ := ih (i + 1) m1 t3 wb' ws' (by omega) (by omega) ⟨by rw [ha']; exact f0.trans d0, f1.trans d1, f2.trans d2, f7.trans d7, f9⟩ hp' (fun _ => (hr hz).keep hk (by simp [n1, n2])) hw' (by intro e0; rw [e0] at hle; simp at hle; exact hne hle)
      exact ⟨t', m', wb2, ws2, i2, e, k, hp2, hw2, hne2, hk.trans hk2⟩
    · obtain ⟨t', g, k⟩ := stop i m t h hgo
      exact ⟨t', m, wb, ws, i, loop_exit (seq_exit g), k, hp, hw, hne, .refl _ _⟩

/-- the slots of the second loop -/
structure S2 (t : Tree Value) (v1 : Value) (at_ : Int) (hb cb nb L i : Nat) : Prop where
  s1 : t.get 1 = some v1
  s2 : t.get 2 = some (.int .i64 at_)
  s7 : t.get 7 = some (.pointer (some ⟨hb, 0, none⟩))
  s10 : t.get 10 = some (.pointer (some ⟨cb, 0, none⟩))
  s11 : t.get 11 = some (.slice (some ⟨nb, 0, none⟩) L L)
  s12 : t.get 12 = some (.int .i64 i)

noncomputable def roundB : Code := .seq (.seq r4_13 (.cond (.tmp 66) .skip (.exit 2))) (.seq (.block 3 (.seq r4_14 (.seq r4_15 (.cond (.tmp 79) (.seq r4_16 (.seq r4_17 (.cond (.tmp 91) (.seq r4_18 .ret) .skip))) .skip)))) r4_19)

theorem loopB (hS9 : S 9 = []) (hS15 : S 15 = []) (hS16 : S 16 = []) (hS17 : S 17 = []) {bo : Option Addr} {c hb hf wb wf cb cf wb2 wf2 nb nf la lf : Nat} {zs : List Int} {at_ : Int} {ws : List Int}
    (n1 : lf ≠ wf2) (n2 : hf ≠ wf2) (n3 : wf ≠ wf2) (n4 : nf ≠ wf2) (ha : zs ≠ [] → bo = some ⟨la, 0, none⟩) (h63 : zs.length ≤ 9223372036854775807) (hws : ws ≠ []) (hwl : ws.length ≤ 500) :
    ∀ (d i : Nat) (m : Mem) (t : Tree Value) (us : List Int), 20 - i ≤ d → i ≤ 20 → S2 t (.slice bo zs.length c) at_ hb cb nb ws.length i → HeapAt m hb hf wb wf ws 500 → HeapAt m cb cf wb2 wf2 us 500 → us.length = ws.length → Rdo m nb (words ws) 29 nf → (zs ≠ [] → Rdo m la (zs.map (Value.int .u64)) 29 lf) →
      ∃ t' m' us' i', execw Try.prog TT S (.loop roundB) t m = some (.exit 2, t', m') ∧ S2 t' (.slice bo zs.length c) at_ hb cb nb ws.length i' ∧ HeapAt m' hb hf wb wf ws 500 ∧ HeapAt m' cb cf wb2 wf2 us' 500 ∧ us'.length = ws.length := by
  intro d
  have stop : ∀ (i : Nat) (m : Mem) (t : Tree Value), S2 t (.slice bo zs.length c) at_ hb cb nb ws.length i → ¬ (i < zs.length ∧ i < 20) → ∃ t', execw Try.prog TT S (.seq r4_13 (.cond (.tmp 66) .skip (.exit 2))) t m = some (.exit 2, t', m) ∧ S2 t' (.slice bo zs.length c) at_ hb cb nb ws.length i := by
    intro i m t h hi
    obtain ⟨s1, s2, s7, s10, s11, s12⟩ := h
    have : ∃ t', execw Try.prog TT S (.seq r4_13 (.cond (.tmp 66) .skip (.exit 2))) t m = some (.exit 2, t', m) ∧ t'.get 1 = t.get 1 ∧ t'.get 2 = t.get 2 ∧ t'.get 7 = t.get 7 ∧ t'.get 10 = t.get 10 ∧ t'.get 11 = t.get 11 ∧ t'.get 12 = t.get 12 := by
      simp only [r4_13, c4, bodyOf, Try.f4, Code.sub]
      by_cases a : i < zs.length
      · have e2 : ¬ ((i : Int) < 20) := by omega
        have e1 : ((i : Int) < zs.length) := by omega
        simp [x_seq, x_region, x_cond, x_ret, x_skip, x_exit, sregion_false, sregion_quiet, floatB, quiet, loudB, sops_nil, sops_cons, sop1_plain, sop1_guard, syield, put_some, put_none, ev_tmp, ev_const, fill_nil, fill_cons, o_move, o_assign, o_bin, o_pick, o_nilCheck, o_fieldAddr, o_load, o_len, o_store, o_conv, o_un, o_extract, o_append, o_call, o_buildSlice, o_box, o_alloc, o_build, o_indexAddr, Tree.get_set, s_binOp, fastBin, s_unOp, fastUn, boolEq, sresults, sresultsL, sresult, one_int, one_slice, one_ptr, one_bool, one_str, cells_int, cells_slice, cells_ptr, cells_bool, cells_str, cells_agg, loadRow_new, window, over, -BitVec.toNat_or, -BitVec.toNat_ofInt, -BitVec.toNat_and, fieldAddr_of fa0, fieldAddr_of fa1, load_of ld3, load_of ld34, len_slice u34, store_of sz34, conv_i u3 u29, build_one u34 el29, append_s u34 sz29, append_m u3 u34, box_of b58, build_of bo58, len_slice u22, index_slice u22 sz3, bin_ptr u24, bin_bool u4 .eql (Or.inl rfl), bin_bool u4 .neq (Or.inr rfl), load_of ld29, store_of sz29, index_slice u34 sz29, s1, s2, s7, s10, s11, s12, a, e1, e2]
      · have e1 : ¬ ((i : Int) < zs.length) := by omega
        simp [x_seq, x_region, x_cond, x_ret, x_skip, x_exit, sregion_false, sregion_quiet, floatB, quiet, loudB, sops_nil, sops_cons, sop1_plain, sop1_guard, syield, put_some, put_none, ev_tmp, ev_const, fill_nil, fill_cons, o_move, o_assign, o_bin, o_pick, o_nilCheck, o_fieldAddr, o_load, o_len, o_store, o_conv, o_un, o_extract, o_append, o_call, o_buildSlice, o_box, o_alloc, o_build, o_indexAddr, Tree.get_set, s_binOp, fastBin, s_unOp, fastUn, boolEq, sresults, sresultsL, sresult, one_int, one_slice, one_ptr, one_bool, one_str, cells_int, cells_slice, cells_ptr, cells_bool, cells_str, cells_agg, loadRow_new, window, over, -BitVec.toNat_or, -BitVec.toNat_ofInt, -BitVec.toNat_and, fieldAddr_of fa0, fieldAddr_of fa1, load_of ld3, load_of ld34, len_slice u34, store_of sz34, conv_i u3 u29, build_one u34 el29, append_s u34 sz29, append_m u3 u34, box_of b58, build_of bo58, len_slice u22, index_slice u22 sz3, bin_ptr u24, bin_bool u4 .eql (Or.inl rfl), bin_bool u4 .neq (Or.inr rfl), load_of ld29, store_of sz29, index_slice u34 sz29, s1, s2, s7, s10, s11, s12, a, e1]
    obtain ⟨t', g, g1, g2, g7, g10, g11, g12⟩ := this
    exact ⟨t', g, ⟨g1.trans s1, g2.trans s2, g7.trans s7, g10.trans s10, g11.trans s11, g12.trans s12⟩⟩
  induction d with
  | zero =>
    intro i m t us hd hi h hp hq hu hn hr
    obtain ⟨t', g, k⟩ := stop i m t h (by omega)
    exact ⟨t', m, us, i, loop_exit (seq_exit g), k, hp, hq, hu⟩
  | succ d ih =>
    intro i m t us hd hi h hp hq hu hn hr
    by_cases hgo : i < zs.length ∧ i < 20
    · obtain ⟨s1, s2, s7, s10, s11, s12⟩ := h
      have hz : zs ≠ [] := by intro e; rw [e] at hgo; simp at hgo
      have ha' := ha hz
      have hlt := hgo.1
      have e1 : ((i : Int) < zs.length) := by omega
      have e2 : ((i : Int) < 20) := by omega
      have hmax : (i : Int) ≤ 9223372036854775807 := by omega
      have hl : loadRow m ⟨la, i, none⟩ 1 = some [.int .u64 (zs.getD i 0)] := (hr hz).load1 (by simp [List.getD_eq_getElem?_getD, List.getElem?_eq_getElem hlt])
      generalize zs.getD i 0 = z at hl
      have hL : 0 < ws.length := by cases ws with | nil => exact absurd rfl hws | cons _ _ => simp
      have q1 : ∃ t1, execw Try.prog TT S (.seq r4_13 (.cond (.tmp 66) .skip (.exit 2))) t m = some (.normal, t1, m) ∧ t1.get 1 = t.get 1 ∧ t1.get 2 = t.get 2 ∧ t1.get 7 = t.get 7 ∧ t1.get 10 = t.get 10 ∧ t1.get 11 = t.get 11 ∧ t1.get 12 = t.get 12 := by
        simp only [r4_13, c4, bodyOf, Try.f4, Code.sub]
        simp [x_seq, x_region, x_cond, x_ret, x_skip, x_exit, sregion_false, sregion_quiet, floatB, quiet, loudB, sops_nil, sops_cons, sop1_plain, sop1_guard, syield, put_some, put_none, ev_tmp, ev_const, fill_nil, fill_cons, o_move, o_assign, o_bin, o_pick, o_nilCheck, o_fieldAddr, o_load, o_len, o_store, o_conv, o_un, o_extract, o_append, o_call, o_buildSlice, o_box, o_alloc, o_build, o_indexAddr, Tree.get_set, s_binOp, fastBin, s_unOp, fastUn, boolEq, sresults, sresultsL, sresult, one_int, one_slice, one_ptr, one_bool, one_str, cells_int, cells_slice, cells_ptr, cells_bool, cells_str, cells_agg, loadRow_new, window, over, -BitVec.toNat_or, -BitVec.toNat_ofInt, -BitVec.toNat_and, fieldAddr_of fa0, fieldAddr_of fa1, load_of ld3, load_of ld34, len_slice u34, store_of sz34, conv_i u3 u29, build_one u34 el29, append_s u34 sz29, append_m u3 u34, box_of b58, build_of bo58, len_slice u22, index_slice u22 sz3, bin_ptr u24, bin_bool u4 .eql (Or.inl rfl), bin_bool u4 .neq (Or.inr rfl), load_of ld29, store_of sz29, index_slice u34 sz29, s1, s2, s7, s10, s11, s12, hlt, e1, e2]
      obtain ⟨t1, g1, a1, a2, a7, a10, a11, a12⟩ := q1
      have b1 := a1.trans s1; have b2 := a2.trans s2; have b7 := a7.trans s7; have b10 := a10.trans s10; have b11 := a11.trans s11; have b12 := a12.trans s12
      rw [ha'] at b1
      generalize hx : IntKind.i64.wrap (at_ + i) = x
      have hpk := pick_run (m := m) hS9 x ws.length (by omega) (by omega)
      have q0 : 0 ≤ x % (ws.length : Int) := Int.emod_nonneg _ (by omega)
      have q0' : x % (ws.length : Int) < ws.length := Int.emod_lt_of_pos _ (by omega)
      have w2 : IntKind.i64.wrap (1 + x % (ws.length : Int)) = 1 + x % (ws.length : Int) := wrap_i64 (by omega) (by omega)
      have w3 : IntKind.u64.wrap (1 + x % (ws.length : Int)) = 1 + x % (ws.length : Int) := wrap_u64 (by omega) (by omega)
      have q2 : ∃ t2, execw Try.prog TT S r4_14 t1 m = some (.normal, t2, m) ∧ t2.get 1 = t1.get 1 ∧ t2.get 2 = t1.get 2 ∧ t2.get 7 = t1.get 7 ∧ t2.get 10 = t1.get 10 ∧ t2.get 11 = t1.get 11 ∧ t2.get 12 = t1.get 12 ∧ t2.get 13 = some (.int .u64 (1 + x % (ws.length : Int))) := by
        simp only [r4_14, c4, bodyOf, Try.f4, Code.sub]
        simp [x_seq, x_region, x_cond, x_ret, x_skip, x_exit, sregion_false, sregion_quiet, floatB, quiet, loudB, sops_nil, sops_cons, sop1_plain, sop1_guard, syield, put_some, put_none, ev_tmp, ev_const, fill_nil, fill_cons, o_move, o_assign, o_bin, o_pick, o_nilCheck, o_fieldAddr, o_load, o_len, o_store, o_conv, o_un, o_extract, o_append, o_call, o_buildSlice, o_box, o_alloc, o_build, o_indexAddr, Tree.get_set, s_binOp, fastBin, s_unOp, fastUn, boolEq, sresults, sresultsL, sresult, one_int, one_slice, one_ptr, one_bool, one_str, cells_int, cells_slice, cells_ptr, cells_bool, cells_str, cells_agg, loadRow_new, window, over, -BitVec.toNat_or, -BitVec.toNat_ofInt, -BitVec.toNat_and, fieldAddr_of fa0, fieldAddr_of fa1, load_of ld3, load_of ld34, len_slice u34, store_of sz34, conv_i u3 u29, build_one u34 el29, append_s u34 sz29, append_m u3 u34, box_of b58, build_of bo58, len_slice u22, index_slice u22 sz3, bin_ptr u24, bin_bool u4 .eql (Or.inl rfl), bin_bool u4 .neq (Or.inr rfl), load_of ld29, store_of sz29, index_slice u34 sz29, b1, b2, b7, b10, b11, b12, hx, hpk, w2, w3]
      obtain ⟨t2, g2, c1, c2, c7, c10, c11, c12, c13⟩ := q2
      have d1 := c1.trans b1; have d2 := c2.trans b2; have d7 := c7.trans b7; have d10 := c10.trans b10; have d11 := c11.trans b11; have d12 := c12.trans b12
      have w1 : IntKind.i64.wrap ((i : Int) + 1) = ((i + 1 : Nat) : Int) := by rw [wrap_i64 (by omega) (by omega)]; omega
      have last : ∀ (t3 : Tree Value) (m3 : Mem), S2 t3 (.slice bo zs.length c) at_ hb cb nb ws.length i → ∃ t4, execw Try.prog TT S r4_19 t3 m3 = some (.normal, t4, m3) ∧ S2 t4 (.slice bo zs.length c) at_ hb cb nb ws.length (i + 1) := by
        intro t3 m3 h3
        obtain ⟨d1, d2, d7, d10, d11, d12⟩ := h3
        have : ∃ t4, execw Try.prog TT S r4_19 t3 m3 = some (.normal, t4, m3) ∧ t4.get 1 = t3.get 1 ∧ t4.get 2 = t3.get 2 ∧ t4.get 7 = t3.get 7 ∧ t4.get 10 = t3.get 10 ∧ t4.get 11 = t3.get 11 ∧ t4.get 12 = some (.int .i64 ((i + 1 : Nat) : Int)) := by
          simp only [r4_19, c4, bodyOf, Try.f4, Code.sub]
          simp [x_seq, x_region, x_cond, x_ret, x_skip, x_exit, sregion_false, sregion_quiet, floatB, quiet, loudB, sops_nil, sops_cons, sop1_plain, sop1_guard, syield, put_some, put_none, ev_tmp, ev_const, fill_nil, fill_cons, o_move, o_assign, o_bin, o_pick, o_nilCheck, o_fieldAddr, o_load, o_len, o_store, o_conv, o_un, o_extract, o_append, o_call, o_buildSlice, o_box, o_alloc, o_build, o_indexAddr, Tree.get_set, s_binOp, fastBin, s_unOp, fastUn, boolEq, sresults, sresultsL, sresult, one_int, one_slice, one_ptr, one_bool, one_str, cells_int, cells_slice, cells_ptr, cells_bool, cells_str, cells_agg, loadRow_new, window, over, -BitVec.toNat_or, -BitVec.toNat_ofInt, -BitVec.toNat_and, d1, d2, d7, d10, d11, d12, w1]
        obtain ⟨t4, g4, f1, f2, f7, f10, f11, f12⟩ := this
        exact ⟨t4, g4, f1.trans d1, f2.trans d2, f7.trans d7, f10.trans d10, f11.trans d11, f12⟩
      by_cases hev : (i : Int).tmod 2 = 0
      · have q3 : ∃ t3, execw Try.prog TT S r4_15 t2 m = some (.normal, t3, m) ∧ t3.get 79 = some (.bool true) ∧ t3.get 1 = t2.get 1 ∧ t3.get 2 = t2.get 2 ∧ t3.get 7 = t2.get 7 ∧ t3.get 10 = t2.get 10 ∧ t3.get 11 = t2.get 11 ∧ t3.get 12 = t2.get 12 ∧ t3.get 13 = t2.get 13 := by
          simp only [r4_15, c4, bodyOf, Try.f4, Code.sub]
          simp [x_seq, x_region, x_cond, x_ret, x_skip, x_exit, sregion_false, sregion_quiet, floatB, quiet, loudB, sops_nil, sops_cons, sop1_plain, sop1_guard, syield, put_some, put_none, ev_tmp, ev_const, fill_nil, fill_cons, o_move, o_assign, o_bin, o_pick, o_nilCheck, o_fieldAddr, o_load, o_len, o_store, o_conv, o_un, o_extract, o_append, o_call, o_buildSlice, o_box, o_alloc, o_build, o_indexAddr, Tree.get_set, s_binOp, fastBin, s_unOp, fastUn, boolEq, sresults, sresultsL, sresult, one_int, one_slice, one_ptr, one_bool, one_str, cells_int, cells_slice, cells_ptr, cells_bool, cells_str, cells_agg, loadRow_new, window, over, -BitVec.toNat_or, -BitVec.toNat_ofInt, -BitVec.toNat_and, fieldAddr_of fa0, fieldAddr_of fa1, load_of ld3, load_of ld34, len_slice u34, store_of sz34, conv_i u3 u29, build_one u34 el29, append_s u34 sz29, append_m u3 u34, box_of b58, build_of bo58, len_slice u22, index_slice u22 sz3, bin_ptr u24, bin_bool u4 .eql (Or.inl rfl), bin_bool u4 .neq (Or.inr rfl), load_of ld29, store_of sz29, index_slice u34 sz29, d1, d2, d7, d10, d11, d12, c13, hev]
        obtain ⟨t3, g3, f79, f1, f2, f7, f10, f11, f12, f13⟩ := q3
        have e1' := f1.trans d1; have e2' := f2.trans d2; have e7' := f7.trans d7; have e10' := f10.trans d10; have e11' := f11.trans d11; have e12' := f12.trans d12; have e13' := f13.trans c13
        obtain ⟨bb, m1, us', hc, hq1, hk1, hul⟩ := put_any (v := z) (at_ := 1 + x % (ws.length : Int)) hS17 hq (by omega) (by omega)
        have hp1 := hp.keep hk1 (by simpa using n2) (by simpa using n3)
        have hn1 := hn.keep hk1 (by simpa using n4)
        have hr1 := (hr hz).keep hk1 (by simpa using n1)
        obtain ⟨m2, kb, kf, hcw, hok, k1, k2, hk2, k3, k4⟩ := words_run hS15 hp1 hws (by omega)
        have hn2 := hn1.keep hk2 (by simp)
        have heq := eq_run (m := m2) hS16 hok.rdo hn2 (by omega)
        have hlt' : i < zs.length := hlt
        have q4 : ∃ t4, execw Try.prog TT S r4_16 t3 m = some (.normal, t4, m1) ∧ t4.get 1 = t3.get 1 ∧ t4.get 2 = t3.get 2 ∧ t4.get 7 = t3.get 7 ∧ t4.get 10 = t3.get 10 ∧ t4.get 11 = t3.get 11 ∧ t4.get 12 = t3.get 12 := by
          simp only [r4_16, c4, bodyOf, Try.f4, Code.sub]
          simp [x_seq, x_region, x_cond, x_ret, x_skip, x_exit, sregion_false, sregion_quiet, floatB, quiet, loudB, sops_nil, sops_cons, sop1_plain, sop1_guard, syield, put_some, put_none, ev_tmp, ev_const, fill_nil, fill_cons, o_move, o_assign, o_bin, o_pick, o_nilCheck, o_fieldAddr, o_load, o_len, o_store, o_conv, o_un, o_extract, o_append, o_call, o_buildSlice, o_box, o_alloc, o_build, o_indexAddr, Tree.get_set, s_binOp, fastBin, s_unOp, fastUn, boolEq, sresults, sresultsL, sresult, one_int, one_slice, one_ptr, one_bool, one_str, cells_int, cells_slice, cells_ptr, cells_bool, cells_str, cells_agg, loadRow_new, window, over, -BitVec.toNat_or, -BitVec.toNat_ofInt, -BitVec.toNat_and, fieldAddr_of fa0, fieldAddr_of fa1, load_of ld3, load_of ld34, len_slice u34, store_of sz34, conv_i u3 u29, build_one u34 el29, append_s u34 sz29, append_m u3 u34, box_of b58, build_of bo58, len_slice u22, index_slice u22 sz3, bin_ptr u24, bin_bool u4 .eql (Or.inl rfl), bin_bool u4 .neq (Or.inr rfl), load_of ld29, store_of sz29, index_slice u34 sz29, e1', e2', e7', e10', e11', e12', e13', hlt, hmax, hl, hc]
        obtain ⟨t4, g4, i1, i2, i7, i10, i11, i12⟩ := q4
        have j1 := i1.trans e1'; have j2 := i2.trans e2'; have j7 := i7.trans e7'; have j10 := i10.trans e10'; have j11 := i11.trans e11'; have j12 := i12.trans e12'
        have q5 : ∃ t5, execw Try.prog TT S (.seq r4_17 (.cond (.tmp 91) (.seq r4_18 .ret) .skip)) t4 m1 = some (.normal, t5, m2) ∧ t5.get 1 = t4.get 1 ∧ t5.get 2 = t4.get 2 ∧ t5.get 7 = t4.get 7 ∧ t5.get 10 = t4.get 10 ∧ t5.get 11 = t4.get 11 ∧ t5.get 12 = t4.get 12 := by
          simp only [r4_17, c4, bodyOf, Try.f4, Code.sub]
          simp [x_seq, x_region, x_cond, x_ret, x_skip, x_exit, sregion_false, sregion_quiet, floatB, quiet, loudB, sops_nil, sops_cons, sop1_plain, sop1_guard, syield, put_some, put_none, ev_tmp, ev_const, fill_nil, fill_cons, o_move, o_assign, o_bin, o_pick, o_nilCheck, o_fieldAddr, o_load, o_len, o_store, o_conv, o_un, o_extract, o_append, o_call, o_buildSlice, o_box, o_alloc, o_build, o_indexAddr, Tree.get_set, s_binOp, fastBin, s_unOp, fastUn, boolEq, sresults, sresultsL, sresult, one_int, one_slice, one_ptr, one_bool, one_str, cells_int, cells_slice, cells_ptr, cells_bool, cells_str, cells_agg, loadRow_new, window, over, -BitVec.toNat_or, -BitVec.toNat_ofInt, -BitVec.toNat_and, fieldAddr_of fa0, fieldAddr_of fa1, load_of ld3, load_of ld34, len_slice u34, store_of sz34, conv_i u3 u29, build_one u34 el29, append_s u34 sz29, append_m u3 u34, box_of b58, build_of bo58, len_slice u22, index_slice u22 sz3, bin_ptr u24, bin_bool u4 .eql (Or.inl rfl), bin_bool u4 .neq (Or.inr rfl), load_of ld29, store_of sz29, index_slice u34 sz29, j1, j2, j7, j10, j11, j12, hcw, heq]
        obtain ⟨t5, g5, u1, u2, u7, u10, u11, u12⟩ := q5
        obtain ⟨t6, g6, k6⟩ := last t5 m2 ⟨by rw [ha']; exact u1.trans j1, u2.trans j2, u7.trans j7, u10.trans j10, u11.trans j11, u12.trans j12⟩
        rw [loop_go (b := roundB) (seq_ok g1 (seq_ok (block_ok (seq_ok g2 (seq_ok g3 (cond_t f79 (seq_ok g4 g5))))) g6))]
        exact ih (i + 1) m2 t6 us' (by omega) (by omega) k6 (hp1.keep hk2 (by simp) (by simp)) (hq1.keep hk2 (by simp) (by simp)) (hul.trans hu) hn2 (fun _ => hr1.keep hk2 (by simp))
      · have q3 : ∃ t3, execw Try.prog TT S r4_15 t2 m = some (.normal, t3, m) ∧ t3.get 79 = some (.bool false) ∧ t3.get 1 = t2.get 1 ∧ t3.get 2 = t2.get 2 ∧ t3.get 7 = t2.get 7 ∧ t3.get 10 = t2.get 10 ∧ t3.get 11 = t2.get 11 ∧ t3.get 12 = t2.get 12 := by
          simp only [r4_15, c4, bodyOf, Try.f4, Code.sub]
          simp [x_seq, x_region, x_cond, x_ret, x_skip, x_exit, sregion_false, sregion_quiet, floatB, quiet, loudB, sops_nil, sops_cons, sop1_plain, sop1_guard, syield, put_some, put_none, ev_tmp, ev_const, fill_nil, fill_cons, o_move, o_assign, o_bin, o_pick, o_nilCheck, o_fieldAddr, o_load, o_len, o_store, o_conv, o_un, o_extract, o_append, o_call, o_buildSlice, o_box, o_alloc, o_build, o_indexAddr, Tree.get_set, s_binOp, fastBin, s_unOp, fastUn, boolEq, sresults, sresultsL, sresult, one_int, one_slice, one_ptr, one_bool, one_str, cells_int, cells_slice, cells_ptr, cells_bool, cells_str, cells_agg, loadRow_new, window, over, -BitVec.toNat_or, -BitVec.toNat_ofInt, -BitVec.toNat_and, fieldAddr_of fa0, fieldAddr_of fa1, load_of ld3, load_of ld34, len_slice u34, store_of sz34, conv_i u3 u29, build_one u34 el29, append_s u34 sz29, append_m u3 u34, box_of b58, build_of bo58, len_slice u22, index_slice u22 sz3, bin_ptr u24, bin_bool u4 .eql (Or.inl rfl), bin_bool u4 .neq (Or.inr rfl), load_of ld29, store_of sz29, index_slice u34 sz29, d1, d2, d7, d10, d11, d12, hev]
        obtain ⟨t3, g3, f79, f1, f2, f7, f10, f11, f12⟩ := q3
        obtain ⟨t6, g6, k6⟩ := last t3 m ⟨by rw [ha']; exact f1.trans d1, f2.trans d2, f7.trans d7, f10.trans d10, f11.trans d11, f12.trans d12⟩
        rw [loop_go (b := roundB) (seq_ok g1 (seq_ok (block_ok (seq_ok g2 (seq_ok g3 (cond_f f79 x_skip)))) g6))]
        exact ih (i + 1) m t6 us (by omega) (by omega) k6 hp hq hu hn hr
    · obtain ⟨t', g, k⟩ := stop i m t h hgo
      exact ⟨t', m, us, i, loop_exit (seq_exit g), k, hp, hq, hu⟩

theorem law_run (hS4 : S 4 = []) (hS9 : S 9 = []) (hS10 : S 10 = []) (hS11 : S 11 = [([], .bool true)]) (hS12 : S 12 = []) (hS14 : S 14 = []) (hS15 : S 15 = []) (hS16 : S 16 = []) (hS17 : S 17 = []) (at_ : Int)
    {zs vs : List Int} {ao bo : Option Addr} {c c2 la lf lb lg : Nat} (ha : zs ≠ [] → ao = some ⟨la, 0, none⟩) (hb0 : vs ≠ [] → bo = some ⟨lb, 0, none⟩) (hlf : lf < m.next) (hlg : lg < m.next)
    (hr : zs ≠ [] → Rdo m la (zs.map (Value.int .i64)) 3 lf) (hr2 : vs ≠ [] → Rdo m lb (vs.map (Value.int .u64)) 29 lg) (h63 : zs.length ≤ 9223372036854775807) (h632 : vs.length ≤ 9223372036854775807) :
    ∃ m', callw Try.prog TT S 4 [.slice ao zs.length c, .slice bo vs.length c2, .int .i64 at_] m = some (.bool true, m') := by
  obtain ⟨m1, hb, wb, hn, hh, hb1, wb1, hk1⟩ := new_run (m := m) hS10 500 (by omega) (by omega)
  have hkn := fun m' => sum_ok (P := Try.prog) (T := TT) (m := m') hS11
  have p0 : ∃ t0, execw Try.prog TT S r4_0 (fill .leaf [.slice ao zs.length c, .slice bo vs.length c2, .int .i64 at_] 0) m = some (.normal, t0, m) ∧ t0.get 0 = some (.slice ao zs.length c) ∧ t0.get 1 = some (.slice bo vs.length c2) ∧ t0.get 2 = some (.int .i64 at_) := by
    simp only [r4_0, c4, bodyOf, Try.f4, Code.sub]
    simp [x_seq, x_region, x_cond, x_ret, x_skip, x_exit, sregion_false, sregion_quiet, floatB, quiet, loudB, sops_nil, sops_cons, sop1_plain, sop1_guard, syield, put_some, put_none, ev_tmp, ev_const, fill_nil, fill_cons, o_move, o_assign, o_bin, o_pick, o_nilCheck, o_fieldAddr, o_load, o_len, o_store, o_conv, o_un, o_extract, o_append, o_call, o_buildSlice, o_box, o_alloc, o_build, o_indexAddr, Tree.get_set, s_binOp, fastBin, s_unOp, fastUn, boolEq, sresults, sresultsL, sresult, one_int, one_slice, one_ptr, one_bool, one_str, cells_int, cells_slice, cells_ptr, cells_bool, cells_str, cells_agg, loadRow_new, window, over, -BitVec.toNat_or, -BitVec.toNat_ofInt, -BitVec.toNat_and]
  obtain ⟨t0, e0, a0, a1, a2⟩ := p0
  have p1 : ∃ t1, execw Try.prog TT S r4_1 t0 m = some (.normal, t1, m1) ∧ t1.get 0 = t0.get 0 ∧ t1.get 1 = t0.get 1 ∧ t1.get 2 = t0.get 2 ∧ t1.get 7 = some (.pointer (some ⟨hb, 0, none⟩)) ∧ t1.get 8 = some (.int .i64 0) := by
    simp only [r4_1, c4, bodyOf, Try.f4, Code.sub]
    simp [x_seq, x_region, x_cond, x_ret, x_skip, x_exit, sregion_false, sregion_quiet, floatB, quiet, loudB, sops_nil, sops_cons, sop1_plain, sop1_guard, syield, put_some, put_none, ev_tmp, ev_const, fill_nil, fill_cons, o_move, o_assign, o_bin, o_pick, o_nilCheck, o_fieldAddr, o_load, o_len, o_store, o_conv, o_un, o_extract, o_append, o_call, o_buildSlice, o_box, o_alloc, o_build, o_indexAddr, Tree.get_set, s_binOp, fastBin, s_unOp, fastUn, boolEq, sresults, sresultsL, sresult, one_int, one_slice, one_ptr, one_bool, one_str, cells_int, cells_slice, cells_ptr, cells_bool, cells_str, cells_agg, loadRow_new, window, over, -BitVec.toNat_or, -BitVec.toNat_ofInt, -BitVec.toNat_and, fieldAddr_of fa0, fieldAddr_of fa1, load_of ld3, load_of ld34, len_slice u34, store_of sz34, conv_i u3 u29, build_one u34 el29, append_s u34 sz29, append_m u3 u34, box_of b58, build_of bo58, len_slice u22, index_slice u22 sz3, bin_ptr u24, bin_bool u4 .eql (Or.inl rfl), bin_bool u4 .neq (Or.inr rfl), load_of ld29, store_of sz29, index_slice u34 sz29, a0, a1, a2, hn]
  obtain ⟨t1, e1, b0, b1, b2, b7, b8⟩ := p1
  have c0 := b0.trans a0; have c1 := b1.trans a1; have c2' := b2.trans a2
  have p2 : ∃ t2, execw Try.prog TT S (.seq r4_2 (.cond (.tmp 28) (.seq r4_3 .ret) .skip)) t1 m1 = some (.normal, t2, m1) ∧ t2.get 0 = t1.get 0 ∧ t2.get 1 = t1.get 1 ∧ t2.get 2 = t1.get 2 ∧ t2.get 7 = t1.get 7 := by
    simp only [r4_2, c4, bodyOf, Try.f4, Code.sub]
    simp [x_seq, x_region, x_cond, x_ret, x_skip, x_exit, sregion_false, sregion_quiet, floatB, quiet, loudB, sops_nil, sops_cons, sop1_plain, sop1_guard, syield, put_some, put_none, ev_tmp, ev_const, fill_nil, fill_cons, o_move, o_assign, o_bin, o_pick, o_nilCheck, o_fieldAddr, o_load, o_len, o_store, o_conv, o_un, o_extract, o_append, o_call, o_buildSlice, o_box, o_alloc, o_build, o_indexAddr, Tree.get_set, s_binOp, fastBin, s_unOp, fastUn, boolEq, sresults, sresultsL, sresult, one_int, one_slice, one_ptr, one_bool, one_str, cells_int, cells_slice, cells_ptr, cells_bool, cells_str, cells_agg, loadRow_new, window, over, -BitVec.toNat_or, -BitVec.toNat_ofInt, -BitVec.toNat_and, fieldAddr_of fa0, fieldAddr_of fa1, load_of ld3, load_of ld34, len_slice u34, store_of sz34, conv_i u3 u29, build_one u34 el29, append_s u34 sz29, append_m u3 u34, box_of b58, build_of bo58, len_slice u22, index_slice u22 sz3, bin_ptr u24, bin_bool u4 .eql (Or.inl rfl), bin_bool u4 .neq (Or.inr rfl), load_of ld29, store_of sz29, index_slice u34 sz29, c0, c1, c2', b7, b8, hkn]
  obtain ⟨t2, e2, d0, d1, d2, d7⟩ := p2
  have f0 := d0.trans c0; have f1 := d1.trans c1; have f2 := d2.trans c2'; have f7 := d7.trans b7
  have p4 : ∃ t4, execw Try.prog TT S r4_4 t2 m1 = some (.normal, t4, m1) ∧ S1 t4 (.slice ao zs.length c) (.slice bo vs.length c2) at_ hb 0 := by
    have : ∃ t4, execw Try.prog TT S r4_4 t2 m1 = some (.normal, t4, m1) ∧ t4.get 0 = t2.get 0 ∧ t4.get 1 = t2.get 1 ∧ t4.get 2 = t2.get 2 ∧ t4.get 7 = t2.get 7 ∧ t4.get 9 = some (.int .i64 ((0 : Nat) : Int)) := by
      simp only [r4_4, c4, bodyOf, Try.f4, Code.sub]
      simp [x_seq, x_region, x_cond, x_ret, x_skip, x_exit, sregion_false, sregion_quiet, floatB, quiet, loudB, sops_nil, sops_cons, sop1_plain, sop1_guard, syield, put_some, put_none, ev_tmp, ev_const, fill_nil, fill_cons, o_move, o_assign, o_bin, o_pick, o_nilCheck, o_fieldAddr, o_load, o_len, o_store, o_conv, o_un, o_extract, o_append, o_call, o_buildSlice, o_box, o_alloc, o_build, o_indexAddr, Tree.get_set, s_binOp, fastBin, s_unOp, fastUn, boolEq, sresults, sresultsL, sresult, one_int, one_slice, one_ptr, one_bool, one_str, cells_int, cells_slice, cells_ptr, cells_bool, cells_str, cells_agg, loadRow_new, window, over, -BitVec.toNat_or, -BitVec.toNat_ofInt, -BitVec.toNat_and, f0, f1, f2, f7]
    obtain ⟨t4, g, g0, g1, g2, g7, g9⟩ := this
    exact ⟨t4, g, g0.trans f0, g1.trans f1, g2.trans f2, g7.trans f7, g9⟩
  obtain ⟨t4, e4, k4⟩ := p4
  obtain ⟨t5, m2, wb2, ws, i5, e5, k5, hp2, hwl, hws, hk2⟩ := loopA (S := S) hS9 hS12 (hf := hb) (wf := wb) (lf := lf) (by omega) (by omega) ha h63 20 0 m1 t4 wb [0] (by omega) (by omega) k4 hh (fun hz => (hr hz).keep hk1 (by simp)) (by simp) (by simp)
  obtain ⟨_, s1, s2, s7, _⟩ := k5
  have hf2 := hp2.h.flt
  have wf2 := hp2.w.flt
  -- the copy, and the words
  obtain ⟨m3, cb, cf, wbc, wfc, hcc, hpc, q1, q2, q3, q4, hk3⟩ := copy_run hS14 hS15 hp2 hws (by omega)
  have hp3 := hp2.keep hk3 (by simp) (by simp)
  obtain ⟨m4, nb, nf, hcw, hon, n1, n2, hk4, n3, n4⟩ := words_run hS15 hp3 hws (by omega)
  have hp4 := hp3.keep hk4 (by simp) (by simp)
  have hpc4 := hpc.keep hk4 (by simp) (by simp)
  obtain ⟨m5, kb, kf, hcw2, hok, _, _, hk5, _, _⟩ := words_run hS15 hpc4 hws (by omega)
  have heq := eq_run (m := m5) hS16 hok.rdo (hon.rdo.keep hk5 (by simp)) (by omega)
  have p8 : ∃ t8, execw Try.prog TT S r4_8 t5 m2 = some (.normal, t8, m3) ∧ t8.get 1 = t5.get 1 ∧ t8.get 2 = t5.get 2 ∧ t8.get 7 = t5.get 7 ∧ t8.get 10 = some (.pointer (some ⟨cb, 0, none⟩)) := by
    simp only [r4_8, c4, bodyOf, Try.f4, Code.sub]
    simp [x_seq, x_region, x_cond, x_ret, x_skip, x_exit, sregion_false, sregion_quiet, floatB, quiet, loudB, sops_nil, sops_cons, sop1_plain, sop1_guard, syield, put_some, put_none, ev_tmp, ev_const, fill_nil, fill_cons, o_move, o_assign, o_bin, o_pick, o_nilCheck, o_fieldAddr, o_load, o_len, o_store, o_conv, o_un, o_extract, o_append, o_call, o_buildSlice, o_box, o_alloc, o_build, o_indexAddr, Tree.get_set, s_binOp, fastBin, s_unOp, fastUn, boolEq, sresults, sresultsL, sresult, one_int, one_slice, one_ptr, one_bool, one_str, cells_int, cells_slice, cells_ptr, cells_bool, cells_str, cells_agg, loadRow_new, window, over, -BitVec.toNat_or, -BitVec.toNat_ofInt, -BitVec.toNat_and, fieldAddr_of fa0, fieldAddr_of fa1, load_of ld3, load_of ld34, len_slice u34, store_of sz34, conv_i u3 u29, build_one u34 el29, append_s u34 sz29, append_m u3 u34, box_of b58, build_of bo58, len_slice u22, index_slice u22 sz3, bin_ptr u24, bin_bool u4 .eql (Or.inl rfl), bin_bool u4 .neq (Or.inr rfl), load_of ld29, store_of sz29, index_slice u34 sz29, s1, s2, s7, hcc]
  obtain ⟨t8, e8, g1, g2, g7, g10⟩ := p8
  have i1 := g1.trans s1; have i2 := g2.trans s2; have i7 := g7.trans s7
  have p9 : ∃ t9, execw Try.prog TT S r4_9 t8 m3 = some (.normal, t9, m4) ∧ t9.get 1 = t8.get 1 ∧ t9.get 2 = t8.get 2 ∧ t9.get 7 = t8.get 7 ∧ t9.get 10 = t8.get 10 ∧ t9.get 11 = some (.slice (some ⟨nb, 0, none⟩) ws.length ws.length) := by
    simp only [r4_9, c4, bodyOf, Try.f4, Code.sub]
    simp [x_seq, x_region, x_cond, x_ret, x_skip, x_exit, sregion_false, sregion_quiet, floatB, quiet, loudB, sops_nil, sops_cons, sop1_plain, sop1_guard, syield, put_some, put_none, ev_tmp, ev_const, fill_nil, fill_cons, o_move, o_assign, o_bin, o_pick, o_nilCheck, o_fieldAddr, o_load, o_len, o_store, o_conv, o_un, o_extract, o_append, o_call, o_buildSlice, o_box, o_alloc, o_build, o_indexAddr, Tree.get_set, s_binOp, fastBin, s_unOp, fastUn, boolEq, sresults, sresultsL, sresult, one_int, one_slice, one_ptr, one_bool, one_str, cells_int, cells_slice, cells_ptr, cells_bool, cells_str, cells_agg, loadRow_new, window, over, -BitVec.toNat_or, -BitVec.toNat_ofInt, -BitVec.toNat_and, fieldAddr_of fa0, fieldAddr_of fa1, load_of ld3, load_of ld34, len_slice u34, store_of sz34, conv_i u3 u29, build_one u34 el29, append_s u34 sz29, append_m u3 u34, box_of b58, build_of bo58, len_slice u22, index_slice u22 sz3, bin_ptr u24, bin_bool u4 .eql (Or.inl rfl), bin_bool u4 .neq (Or.inr rfl), load_of ld29, store_of sz29, index_slice u34 sz29, i1, i2, i7, g10, hcw]
  obtain ⟨t9, e9, j1, j2, j7, j10, j11⟩ := p9
  have l1 := j1.trans i1; have l2 := j2.trans i2; have l7 := j7.trans i7; have l10 := j10.trans g10
  have p10 : ∃ ta, execw Try.prog TT S (.seq r4_10 (.cond (.tmp 58) (.seq r4_11 .ret) .skip)) t9 m4 = some (.normal, ta, m5) ∧ ta.get 1 = t9.get 1 ∧ ta.get 2 = t9.get 2 ∧ ta.get 7 = t9.get 7 ∧ ta.get 10 = t9.get 10 ∧ ta.get 11 = t9.get 11 := by
    simp only [r4_10, c4, bodyOf, Try.f4, Code.sub]
    simp [x_seq, x_region, x_cond, x_ret, x_skip, x_exit, sregion_false, sregion_quiet, floatB, quiet, loudB, sops_nil, sops_cons, sop1_plain, sop1_guard, syield, put_some, put_none, ev_tmp, ev_const, fill_nil, fill_cons, o_move, o_assign, o_bin, o_pick, o_nilCheck, o_fieldAddr, o_load, o_len, o_store, o_conv, o_un, o_extract, o_append, o_call, o_buildSlice, o_box, o_alloc, o_build, o_indexAddr, Tree.get_set, s_binOp, fastBin, s_unOp, fastUn, boolEq, sresults, sresultsL, sresult, one_int, one_slice, one_ptr, one_bool, one_str, cells_int, cells_slice, cells_ptr, cells_bool, cells_str, cells_agg, loadRow_new, window, over, -BitVec.toNat_or, -BitVec.toNat_ofInt, -BitVec.toNat_and, fieldAddr_of fa0, fieldAddr_of fa1, load_of ld3, load_of ld34, len_slice u34, store_of sz34, conv_i u3 u29, build_one u34 el29, append_s u34 sz29, append_m u3 u34, box_of b58, build_of bo58, len_slice u22, index_slice u22 sz3, bin_ptr u24, bin_bool u4 .eql (Or.inl rfl), bin_bool u4 .neq (Or.inr rfl), load_of ld29, store_of sz29, index_slice u34 sz29, l1, l2, l7, l10, j11, hcw2, heq]
  obtain ⟨ta, ea, o1, o2, o7, o10, o11⟩ := p10
  have r1 := o1.trans l1; have r2 := o2.trans l2; have r7 := o7.trans l7; have r10 := o10.trans l10; have r11 := o11.trans j11
  have p12 : ∃ tb, execw Try.prog TT S r4_12 ta m5 = some (.normal, tb, m5) ∧ S2 tb (.slice bo vs.length c2) at_ hb cb nb ws.length 0 := by
    have : ∃ tb, execw Try.prog TT S r4_12 ta m5 = some (.normal, tb, m5) ∧ tb.get 1 = ta.get 1 ∧ tb.get 2 = ta.get 2 ∧ tb.get 7 = ta.get 7 ∧ tb.get 10 = ta.get 10 ∧ tb.get 11 = ta.get 11 ∧ tb.get 12 = some (.int .i64 ((0 : Nat) : Int)) := by
      simp only [r4_12, c4, bodyOf, Try.f4, Code.sub]
      simp [x_seq, x_region, x_cond, x_ret, x_skip, x_exit, sregion_false, sregion_quiet, floatB, quiet, loudB, sops_nil, sops_cons, sop1_plain, sop1_guard, syield, put_some, put_none, ev_tmp, ev_const, fill_nil, fill_cons, o_move, o_assign, o_bin, o_pick, o_nilCheck, o_fieldAddr, o_load, o_len, o_store, o_conv, o_un, o_extract, o_append, o_call, o_buildSlice, o_box, o_alloc, o_build, o_indexAddr, Tree.get_set, s_binOp, fastBin, s_unOp, fastUn, boolEq, sresults, sresultsL, sresult, one_int, one_slice, one_ptr, one_bool, one_str, cells_int, cells_slice, cells_ptr, cells_bool, cells_str, cells_agg, loadRow_new, window, over, -BitVec.toNat_or, -BitVec.toNat_ofInt, -BitVec.toNat_and, r1, r2, r7, r10, r11]
    obtain ⟨tb, g, g1, g2, g7, g10, g11, g12⟩ := this
    exact ⟨tb, g, g1.trans r1, g2.trans r2, g7.trans r7, g10.trans r10, g11.trans r11, g12⟩
  obtain ⟨tb, eb, kb'⟩ := p12
  have hl1 := hk1.1; have hl2 := hk2.1; have hl3 := hk3.1; have hl4 := hk4.1; have hl5 := hk5.1
  obtain ⟨tc, m6, us, i6, ec, kc, hp6, hpc6, hul⟩ := loopB (S := S) hS9 hS15 hS16 hS17 (lf := lg) (hf := hb) (wf := wb) (wf2 := wfc) (nf := nf) (by omega) (by omega) (by omega) (by omega) hb0 h632 hws (by omega) 20 0 m5 tb ws (by omega) (by omega) kb' (hp4.keep hk5 (by simp) (by simp)) (hpc4.keep hk5 (by simp) (by simp)) rfl (hon.rdo.keep hk5 (by simp))
    (fun hz => ((((hr2 hz).keep hk1 (by simp)).keep hk2 (by simp; omega)).keep hk3 (by simp)).keep (hk4.trans hk5) (by simp))
  obtain ⟨s1, s2, s7, s10, _, _⟩ := kc
  have hus : us ≠ [] := by intro e; rw [e] at hul; simp at hul; exact hws (List.length_eq_zero_iff.1 hul.symm)
  have hf6 := hp6.h.flt
  have wf6 := hp6.w.flt
  obtain ⟨m7, nb2, nf2, hcw7, hon7, _, hnf2, hk7, _, _⟩ := words_run hS15 hpc6 hus (by omega)
  have hp7 := hp6.keep hk7 (by simp) (by simp)
  have hpc7 := hpc6.keep hk7 (by simp) (by simp)
  obtain ⟨v8, m8, wb8, ws8, hca8, hp8, hk8, hle8, hw8⟩ := alloc_any (t := 7) (k := 3) hS12 hp7 (by omega) (by omega)
  have hpc8 := hpc7.keep hk8 (by simp; omega) (by simp; omega)
  have hon8 := hon7.rdo.keep hk8 (by simp; omega)
  obtain ⟨b9, m9, ws9, hcp9, hp9, hk9, _⟩ := put_any (v := 99) (at_ := 1) hS17 hp8 (by omega) (by omega)
  have hpc9 := hpc8.keep hk9 (by simp; omega) (by simp; omega)
  have hon9 := hon8.keep hk9 (by simp; omega)
  obtain ⟨mA, kbA, kfA, hcwA, hokA, _, _, hkA, _, _⟩ := words_run hS15 hpc9 hus (by omega)
  have heqA := eq_run (m := mA) hS16 hokA.rdo (hon9.keep hkA (by simp)) (by omega)
  have p20 : ∃ td, execw Try.prog TT S r4_20 tc m6 = some (.normal, td, m7) ∧ td.get 7 = tc.get 7 ∧ td.get 10 = tc.get 10 ∧ td.get 14 = some (.slice (some ⟨nb2, 0, none⟩) us.length us.length) := by
    simp only [r4_20, c4, bodyOf, Try.f4, Code.sub]
    simp [x_seq, x_region, x_cond, x_ret, x_skip, x_exit, sregion_false, sregion_quiet, floatB, quiet, loudB, sops_nil, sops_cons, sop1_plain, sop1_guard, syield, put_some, put_none, ev_tmp, ev_const, fill_nil, fill_cons, o_move, o_assign, o_bin, o_pick, o_nilCheck, o_fieldAddr, o_load, o_len, o_store, o_conv, o_un, o_extract, o_append, o_call, o_buildSlice, o_box, o_alloc, o_build, o_indexAddr, Tree.get_set, s_binOp, fastBin, s_unOp, fastUn, boolEq, sresults, sresultsL, sresult, one_int, one_slice, one_ptr, one_bool, one_str, cells_int, cells_slice, cells_ptr, cells_bool, cells_str, cells_agg, loadRow_new, window, over, -BitVec.toNat_or, -BitVec.toNat_ofInt, -BitVec.toNat_and, fieldAddr_of fa0, fieldAddr_of fa1, load_of ld3, load_of ld34, len_slice u34, store_of sz34, conv_i u3 u29, build_one u34 el29, append_s u34 sz29, append_m u3 u34, box_of b58, build_of bo58, len_slice u22, index_slice u22 sz3, bin_ptr u24, bin_bool u4 .eql (Or.inl rfl), bin_bool u4 .neq (Or.inr rfl), load_of ld29, store_of sz29, index_slice u34 sz29, s7, s10, hcw7]
  obtain ⟨td, ed, x7, x10, x14⟩ := p20
  have y7 := x7.trans s7; have y10 := x10.trans s10
  have p21 : ∃ te, execw Try.prog TT S r4_21 td m7 = some (.normal, te, m8) ∧ te.get 7 = td.get 7 ∧ te.get 10 = td.get 10 ∧ te.get 14 = td.get 14 := by
    simp only [r4_21, c4, bodyOf, Try.f4, Code.sub]
    simp [x_seq, x_region, x_cond, x_ret, x_skip, x_exit, sregion_false, sregion_quiet, floatB, quiet, loudB, sops_nil, sops_cons, sop1_plain, sop1_guard, syield, put_some, put_none, ev_tmp, ev_const, fill_nil, fill_cons, o_move, o_assign, o_bin, o_pick, o_nilCheck, o_fieldAddr, o_load, o_len, o_store, o_conv, o_un, o_extract, o_append, o_call, o_buildSlice, o_box, o_alloc, o_build, o_indexAddr, Tree.get_set, s_binOp, fastBin, s_unOp, fastUn, boolEq, sresults, sresultsL, sresult, one_int, one_slice, one_ptr, one_bool, one_str, cells_int, cells_slice, cells_ptr, cells_bool, cells_str, cells_agg, loadRow_new, window, over, -BitVec.toNat_or, -BitVec.toNat_ofInt, -BitVec.toNat_and, fieldAddr_of fa0, fieldAddr_of fa1, load_of ld3, load_of ld34, len_slice u34, store_of sz34, conv_i u3 u29, build_one u34 el29, append_s u34 sz29, append_m u3 u34, box_of b58, build_of bo58, len_slice u22, index_slice u22 sz3, bin_ptr u24, bin_bool u4 .eql (Or.inl rfl), bin_bool u4 .neq (Or.inr rfl), load_of ld29, store_of sz29, index_slice u34 sz29, y7, y10, x14, hca8]
  obtain ⟨te, ee, z7, z10, z14⟩ := p21
  have A7 := z7.trans y7; have A10 := z10.trans y10; have A14 := z14.trans x14
  have p22 : ∃ tf, execw Try.prog TT S r4_22 te m8 = some (.normal, tf, m9) ∧ tf.get 10 = te.get 10 ∧ tf.get 14 = te.get 14 := by
    simp only [r4_22, c4, bodyOf, Try.f4, Code.sub]
    simp [x_seq, x_region, x_cond, x_ret, x_skip, x_exit, sregion_false, sregion_quiet, floatB, quiet, loudB, sops_nil, sops_cons, sop1_plain, sop1_guard, syield, put_some, put_none, ev_tmp, ev_const, fill_nil, fill_cons, o_move, o_assign, o_bin, o_pick, o_nilCheck, o_fieldAddr, o_load, o_len, o_store, o_conv, o_un, o_extract, o_append, o_call, o_buildSlice, o_box, o_alloc, o_build, o_indexAddr, Tree.get_set, s_binOp, fastBin, s_unOp, fastUn, boolEq, sresults, sresultsL, sresult, one_int, one_slice, one_ptr, one_bool, one_str, cells_int, cells_slice, cells_ptr, cells_bool, cells_str, cells_agg, loadRow_new, window, over, -BitVec.toNat_or, -BitVec.toNat_ofInt, -BitVec.toNat_and, fieldAddr_of fa0, fieldAddr_of fa1, load_of ld3, load_of ld34, len_slice u34, store_of sz34, conv_i u3 u29, build_one u34 el29, append_s u34 sz29, append_m u3 u34, box_of b58, build_of bo58, len_slice u22, index_slice u22 sz3, bin_ptr u24, bin_bool u4 .eql (Or.inl rfl), bin_bool u4 .neq (Or.inr rfl), load_of ld29, store_of sz29, index_slice u34 sz29, A7, A10, A14, hcp9]
  obtain ⟨tf, ef, B10, B14⟩ := p22
  have C10 := B10.trans A10; have C14 := B14.trans A14
  have p23 : ∃ tg, execw Try.prog TT S (.seq r4_23 .ret) tf m9 = some (.ret, tg, mA) ∧ tg.get 6 = some (.bool true) := by
    simp only [r4_23, c4, bodyOf, Try.f4, Code.sub]
    simp [x_seq, x_region, x_cond, x_ret, x_skip, x_exit, sregion_false, sregion_quiet, floatB, quiet, loudB, sops_nil, sops_cons, sop1_plain, sop1_guard, syield, put_some, put_none, ev_tmp, ev_const, fill_nil, fill_cons, o_move, o_assign, o_bin, o_pick, o_nilCheck, o_fieldAddr, o_load, o_len, o_store, o_conv, o_un, o_extract, o_append, o_call, o_buildSlice, o_box, o_alloc, o_build, o_indexAddr, Tree.get_set, s_binOp, fastBin, s_unOp, fastUn, boolEq, sresults, sresultsL, sresult, one_int, one_slice, one_ptr, one_bool, one_str, cells_int, cells_slice, cells_ptr, cells_bool, cells_str, cells_agg, loadRow_new, window, over, -BitVec.toNat_or, -BitVec.toNat_ofInt, -BitVec.toNat_and, fieldAddr_of fa0, fieldAddr_of fa1, load_of ld3, load_of ld34, len_slice u34, store_of sz34, conv_i u3 u29, build_one u34 el29, append_s u34 sz29, append_m u3 u34, box_of b58, build_of bo58, len_slice u22, index_slice u22 sz3, bin_ptr u24, bin_bool u4 .eql (Or.inl rfl), bin_bool u4 .neq (Or.inr rfl), load_of ld29, store_of sz29, index_slice u34 sz29, C10, C14, hcwA, heqA]
  obtain ⟨tg, eg, n6⟩ := p23
  refine ⟨mA, call_ok (c := c4) tt4 (by simp only [Try.f4, c4, bodyOf]) hS4 (by simp [Try.f4]) (Or.inr rfl) (t' := tg) ?_ (by simp [sresults, sresultsL, sresult, Try.f4, n6])⟩
  rw [body4]
  exact seq_ok e0 (seq_ok e1 (seq_ok e2 (seq_ok (seq_ok e4 (block_exit e5)) (seq_ok e8 (seq_ok e9 (seq_ok ea (seq_ok (seq_ok eb (block_exit ec)) (seq_ok ed (seq_ok ee (seq_ok ef eg))))))))))


/- the row -/
open Go.ChangeShapes Go.WideShapes Go.ChangeAt Go.RowKit
theorem own : ownKnob Try.prog.godebug = none := by kernel_rfl
theorem mixed : Try.prog.follows .mixedOrders = true := by kernel_rfl
theorem tab : Sh.tabCheck Try.prog fns = true := by kernel_rfl
theorem known : Sh.isVal (.bool true) (Sh.call Try.prog (Sh.tabOf Try.prog fns) Sh.noSums 100000 11 [] (Sh.memG Try.prog [])) = true := by kernel_rfl
def sums : Sums := fun f => if f = 11 then [([], .bool true)] else []
theorem sumsOk : SumsOk Try.prog sums := by
  intro f p hp
  unfold sums at hp
  split at hp
  · rename_i hf
    subst hf
    simp only [List.mem_cons, List.not_mem_nil, or_false] at hp
    subst hp
    exact ⟨rfl, rfl, ⟨Try.f11, Try.func11, by kernel_rfl, by kernel_rfl⟩, fun w => Sh.closed_val mixed (Sh.tab_ok tab) (Sh.noSums_ok _) 100000 11 Try.func11 (by kernel_rfl) (gs := []) (by kernel_rfl) (by kernel_rfl) known w (fun p hp => by simp at hp)⟩
  · simp at hp

theorem walk (w : World) {v0 : Value} (h0 : IntsArg Try.prog w .i64 3 v0) {v1 : Value} (h1 : IntsArg Try.prog w .u64 29 v1) (x2 : Int) :
    Calls Try.prog 4 #[v0, v1, .int .i64 x2] w fun e w' => e = .returned (.bool true) ∧ Below w.heap.size w w' := by
  have hM := start_rel Try.prog w
  obtain ⟨zs0, J0, m0, ao0, c0, la0, lf0, le0, hM0, vr0, ha0, hr0, hl0, hk0, hz0, hw0⟩ := ints_in hM sz3 h0
  obtain ⟨zs1, J1, m1, ao1, c1, la1, lf1, le1, hM1, vr1, ha1, hr1, hl1, hk1, hz1, hw1⟩ := ints_in hM0 sz29 h1
  obtain ⟨m', h⟩ := law_run (S := sums) (m := m1) rfl rfl rfl rfl rfl rfl rfl rfl rfl (x2) ha0 ha1 (by have := hk0.1; have := hk1.1; omega) (by have := hk0.1; have := hk1.1; omega) (fun h => ((hr0 h).keep hk1 (by simp))) (fun h => (hr1 h)) hz0 hz1
  exact calls_of mixed (Sh.tab_ok tab) sumsOk Try.func4 (by kernel_rfl) h rfl hM1 (.cons (vr0.mono le1) (.cons vr1 (.cons (.clo _ rfl) LRel.nil)))

theorem laidOut : laidOutB Try.prog = true := by kernel_rfl

theorem lifted (os : Os) (started : os.Started) (H : Type) (enc : TypeId × Value → H) :
    ReturnsInHanded {} Try.checked os 4 .any (Rows.heapCopiesSpec.pre6 enc Try.prog Try.f4 Rows.heapCopiesRow.domain false) (Rows.heapCopiesSpec.post enc Try.prog Try.f4 false true false false) := by
  refine returnsInHanded_of_change (C := Try.checked) own started (by kernel_rfl) Try.func4
    (ChangeSpec.witness6 (enc := enc) (C := Try.checked) false ⟨#[], #[.slice none 0 0, .slice none 0 0, .int .i64 0], []⟩ 8 (by kernel_rfl) (by kernel_rfl) (by kernel_rfl) (by kernel_rfl)) ?_
  intro W base args ds gs before hval0 hW hcnd _
  have hval : ∀ (j : Nat) t v, Try.f4.params[j]? = some t → args[j]? = some v → Value.okWide Try.prog W .any base t v := hval0
  have hW' := hW
  obtain ⟨p, q, hA0, hV, rfl, hfz, hnd⟩ := hW
  have hA : DataW.TrodAll enc Try.prog W 0 (fun _ => true) true Try.f4.params.toList args.toList ds p := hA0
  rw [Try.params4] at hA hval
  obtain ⟨v0, v1, v2, d0, d1, d2, p0, p1, p2, rfl, rfl, rfl, t0, t1, t2⟩ := trodAll_three hA
  obtain ⟨rfl, rfl⟩ := trodVars_none hV
  obtain ⟨i0, hi0, hz0⟩ := Option.map_eq_some_iff.1 sz3
  have hv0 : IntsArg Try.prog W .i64 3 v0 := ints_arg u22 u3 hi0 hz0 (hval 0 _ _ rfl rfl) t0
  obtain ⟨i1, hi1, hz1⟩ := Option.map_eq_some_iff.1 sz29
  have hv1 : IntsArg Try.prog W .u64 29 v1 := ints_arg u34 u29 hi1 hz1 (hval 1 _ _ rfl rfl) t1
  obtain ⟨x2, rfl, rfl, rfl, hx2⟩ := open_int u3 (hval 2 _ _ rfl rfl) t2
  clear hA0 hval0
  simp only [List.append_nil, List.nil_append] at hW'
  refine (walk W hv0 hv1 x2).mono fun e W' ⟨he, hg⟩ => ?_
  subst he
  have hlt0 : ∀ z ∈ p0, z.block < W.heap.size := fun z hz => hW'.lt z (by simp [hz])
  have hlt1 : ∀ z ∈ p1, z.block < W.heap.size := fun z hz => hW'.lt z (by simp [hz])
  exact ⟨_, rfl, Sh.law_post (pa := (p0 ++ (p1 ++ []))) (pv := []) hW' hg (by simp) (fun sp hsp => trodAll_mk3 (WideElems.Trod_stays laidOut (by kernel_rfl) (of_decide_eq_true (by kernel_rfl)) t0 (fun z hz => hg.same (hlt0 z hz)) (fun z hz => hsp z (by simp [hz]))) (WideElems.Trod_stays laidOut (by kernel_rfl) (of_decide_eq_true (by kernel_rfl)) t1 (fun z hz => hg.same (hlt1 z hz)) (fun z hz => hsp z (by simp [hz]))) (shut_int u3 hx2)) (fun _ _ => rfl) (fun _ _ _ => (trodAll_cons_mk (shut_bool u4 _) trodAll_mk0))
    (ok_one (by kernel_rfl) rfl (okWide_bool_mk u4 _))⟩

theorem over : Rows.heapCopiesRow.holds Try.pinned (OpenSpec.ofChange Rows.heapCopiesSpec) :=
  OpenClaim.holds_of_wide 4 Try.f4 rfl rfl rfl rfl rfl rfl rfl ⟨rfl, rfl, rfl, rfl, rfl⟩ rfl rfl rfl rfl rfl (by kernel_rfl) Try.func4 (by kernel_rfl)
    (of_decide_eq_true (by kernel_rfl)) (by unfold Func.isWrapper; first | (rw [if_pos (by decide +kernel)]; kernel_rfl) | (rw [if_neg (by decide +kernel)]; exact ⟨rfl, rfl⟩))
    (fun os started H enc _ => lifted os started H enc)

theorem proved : Rows.HeapCopiesSaid :=
  over
#print axioms proved
end Go.Proofs.Ytmehepbejckmlaa.heapCopies
