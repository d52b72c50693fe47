/-
  This text proves 'Rows.HeapFullSaid': the law 'HeapFull' returns true at any room and any sizes, in whatever memory and on every tape, and its input reads as it did.
  No condition.
-/
import Derived.Test.YtmehepbejckmlaaRows
import Derived.Test.YtmehepbejckmlaaShC
set_option maxRecDepth 100000
set_option linter.unusedSimpArgs false
set_option linter.unusedVariables false
namespace Go.Proofs.Ytmehepbejckmlaa.heapFull
open Go.Sh
variable {S : Sums} {m : Mem}
/-- the functions that are walked, and those of the example -/
def fns : List FuncId := [3, 9, 10, 11, 12, 13, 19, 20, 22, 37]
noncomputable def TT : FuncId → Option Func := Sh.tabOf Try.prog fns
theorem tt3 : TT 3 = some Try.f3 := by kernel_rfl
theorem tt9 : TT 9 = some Try.f9 := by kernel_rfl
theorem tt10 : TT 10 = some Try.f10 := by kernel_rfl
theorem tt12 : TT 12 = some Try.f12 := by kernel_rfl
theorem tt13 : TT 13 = some Try.f13 := by kernel_rfl

theorem u3 : Try.prog.underlying 3 = some (.int .i64) := by kernel_rfl
theorem u4 : Try.prog.underlying 4 = some .bool := by kernel_rfl
theorem u22 : Try.prog.underlying 22 = some (.slice 3) := by kernel_rfl
theorem u24 : Try.prog.underlying 24 = some (.pointer 58) := by kernel_rfl
theorem u29 : Try.prog.underlying 29 = some (.int .u64) := by kernel_rfl
theorem u34 : Try.prog.underlying 34 = some (.slice 29) := by kernel_rfl
theorem fa0 : faOk Try.prog 58 0 0 = true := by kernel_rfl
theorem fa1 : faOk Try.prog 58 1 1 = true := by kernel_rfl
theorem ld3 : ldOk Try.prog 3 = true := by kernel_rfl
theorem ld34 : ldOk Try.prog 34 = true := by kernel_rfl
theorem sz3 : sizeOfT Try.prog 3 = some 1 := by kernel_rfl
theorem sz34 : sizeOfT Try.prog 34 = some 1 := by kernel_rfl
theorem sz29 : sizeOfT Try.prog 29 = some 1 := by kernel_rfl
theorem ap29 : apOk Try.prog 29 1 8 = true := by kernel_rfl
theorem el29 : elOk Try.prog 29 = true := by kernel_rfl
theorem z29 : zOk Try.prog 29 8 (.int .u64 0) = true := by kernel_rfl
theorem b58 : (Try.prog.info? 58).isSome = true := by kernel_rfl
theorem bo58 : buildOk Try.prog 58 [.slice none 0 0, .int .i64 0] [(0, 1), (1, 1)] = true := by kernel_rfl

def words (ws : List Int) : List Value := ws.map (Value.int .u64)
/-- the heap's struct in a block, its words in another -/
structure HeapAt (m : Mem) (hb hf wb wf : Nat) (ws : List Int) (room : Int) : Prop where
  h : Own m hb [.slice (some ⟨wb, 0, none⟩) ws.length ws.length, .int .i64 room] 58 hf
  w : Own m wb (words ws) 29 wf
  ne : hf ≠ wf

theorem used_run (hS : S 13 = []) {hb hf wb wf : Nat} {ws : List Int} {room : Int} (h : HeapAt m hb hf wb wf ws room) : callw Try.prog TT S 13 [.pointer (some ⟨hb, 0, none⟩)] m = some (.int .i64 ws.length, m) := by
  have l0 := h.h.load1 (off := 0) rfl
  rw [x_call tt13 (by simp only [Try.f13]; rfl) hS _ (by simp [Try.f13])]
  simp [x_seq, x_region, x_cond, x_ret, x_skip, x_exit, sregion_false, sregion_quiet, floatB, quiet, loudB, sops_nil, sops_cons, sop1_plain, sop1_guard, syield, put_some, put_none, ev_tmp, ev_const, fill_nil, fill_cons, o_move, o_assign, o_bin, o_pick, o_nilCheck, o_fieldAddr, o_load, o_len, o_store, o_conv, o_un, o_extract, o_append, o_call, o_buildSlice, o_box, o_alloc, o_build, o_indexAddr, Tree.get_set, s_binOp, fastBin, s_unOp, fastUn, boolEq, sresults, sresultsL, sresult, one_int, one_slice, one_ptr, one_bool, one_str, cells_int, cells_slice, cells_ptr, cells_bool, cells_str, cells_agg, loadRow_new, window, over, -BitVec.toNat_or, -BitVec.toNat_ofInt, -BitVec.toNat_and, fieldAddr_of fa0, fieldAddr_of fa1, load_of ld3, load_of ld34, len_slice u34, store_of sz34, conv_i u3 u29, build_one u34 el29, append_s u34 sz29, append_m u3 u34, box_of b58, build_of bo58, len_slice u22, index_slice u22 sz3, bin_ptr u24, bin_bool u4 .eql (Or.inl rfl), bin_bool u4 .neq (Or.inr rfl), l0, Tree.get_set, s_binOp, fastBin, sresults, sresultsL, sresult, Try.f13]

noncomputable def c12 : Code := bodyOf Try.f12
noncomputable def r12_0 : Code := Code.sub [0] c12
noncomputable def r12_1 : Code := Code.sub [1, 0, 0] c12
noncomputable def r12_2 : Code := Code.sub [1, 0, 1, 0, 0] c12
noncomputable def r12_3 : Code := Code.sub [1, 1, 0] c12
noncomputable def r12_4 : Code := Code.sub [1, 1, 1, 0] c12
noncomputable def r12_5 : Code := Code.sub [1, 1, 1, 1, 0] c12
noncomputable def r12_6 : Code := Code.sub [1, 1, 1, 1, 1, 0] c12
theorem body12 : c12 = (.seq r12_0 (.seq (.seq r12_1 (.cond (.tmp 36) (.seq r12_2 .ret) .skip)) (.seq r12_3 (.seq r12_4 (.seq r12_5 (.seq r12_6 .ret)))))) := by kernel_rfl
/-- what Alloc asks first -/
def noRoom (ws : List Int) (room t n : Int) : Prop := t < 0 ∨ 1048576 < t ∨ n < 0 ∨ 1048576 < n ∨ room - ws.length ≤ n

theorem alloc_no (hS : S 12 = []) {hb hf wb wf : Nat} {ws : List Int} {room t n : Int} (h : HeapAt m hb hf wb wf ws room)
    (hr : 0 < room ∧ room ≤ 65536) (hw : ws.length ≤ 65536) (hno : noRoom ws room t n) :
    callw Try.prog TT S 12 [.pointer (some ⟨hb, 0, none⟩), .int .i64 t, .int .i64 n] m = some (.tuple #[.int .u64 0, .bool false], m) := by
  have l0 := h.h.load1 (off := 0) rfl
  have l1 := h.h.load1 (off := 1) rfl
  have hwr : IntKind.i64.wrap (room - ws.length) = room - ws.length := wrap_i64 (by omega) (by omega)
  rw [x_call tt12 (by simp only [Try.f12]; rfl) hS _ (by simp [Try.f12])]
  unfold noRoom at hno
  by_cases a1 : t < 0
  · simp [x_seq, x_region, x_cond, x_ret, x_skip, x_exit, sregion_false, sregion_quiet, floatB, quiet, loudB, sops_nil, sops_cons, sop1_plain, sop1_guard, syield, put_some, put_none, ev_tmp, ev_const, fill_nil, fill_cons, o_move, o_assign, o_bin, o_pick, o_nilCheck, o_fieldAddr, o_load, o_len, o_store, o_conv, o_un, o_extract, o_append, o_call, o_buildSlice, o_box, o_alloc, o_build, o_indexAddr, Tree.get_set, s_binOp, fastBin, s_unOp, fastUn, boolEq, sresults, sresultsL, sresult, one_int, one_slice, one_ptr, one_bool, one_str, cells_int, cells_slice, cells_ptr, cells_bool, cells_str, cells_agg, loadRow_new, window, over, -BitVec.toNat_or, -BitVec.toNat_ofInt, -BitVec.toNat_and, fieldAddr_of fa0, fieldAddr_of fa1, load_of ld3, load_of ld34, len_slice u34, store_of sz34, conv_i u3 u29, build_one u34 el29, append_s u34 sz29, append_m u3 u34, box_of b58, build_of bo58, len_slice u22, index_slice u22 sz3, bin_ptr u24, bin_bool u4 .eql (Or.inl rfl), bin_bool u4 .neq (Or.inr rfl), l0, l1, a1, Try.f12]
  by_cases a2 : 1048576 < t
  · simp [x_seq, x_region, x_cond, x_ret, x_skip, x_exit, sregion_false, sregion_quiet, floatB, quiet, loudB, sops_nil, sops_cons, sop1_plain, sop1_guard, syield, put_some, put_none, ev_tmp, ev_const, fill_nil, fill_cons, o_move, o_assign, o_bin, o_pick, o_nilCheck, o_fieldAddr, o_load, o_len, o_store, o_conv, o_un, o_extract, o_append, o_call, o_buildSlice, o_box, o_alloc, o_build, o_indexAddr, Tree.get_set, s_binOp, fastBin, s_unOp, fastUn, boolEq, sresults, sresultsL, sresult, one_int, one_slice, one_ptr, one_bool, one_str, cells_int, cells_slice, cells_ptr, cells_bool, cells_str, cells_agg, loadRow_new, window, over, -BitVec.toNat_or, -BitVec.toNat_ofInt, -BitVec.toNat_and, fieldAddr_of fa0, fieldAddr_of fa1, load_of ld3, load_of ld34, len_slice u34, store_of sz34, conv_i u3 u29, build_one u34 el29, append_s u34 sz29, append_m u3 u34, box_of b58, build_of bo58, len_slice u22, index_slice u22 sz3, bin_ptr u24, bin_bool u4 .eql (Or.inl rfl), bin_bool u4 .neq (Or.inr rfl), l0, l1, a1, a2, Try.f12]
  by_cases a3 : n < 0
  · simp [x_seq, x_region, x_cond, x_ret, x_skip, x_exit, sregion_false, sregion_quiet, floatB, quiet, loudB, sops_nil, sops_cons, sop1_plain, sop1_guard, syield, put_some, put_none, ev_tmp, ev_const, fill_nil, fill_cons, o_move, o_assign, o_bin, o_pick, o_nilCheck, o_fieldAddr, o_load, o_len, o_store, o_conv, o_un, o_extract, o_append, o_call, o_buildSlice, o_box, o_alloc, o_build, o_indexAddr, Tree.get_set, s_binOp, fastBin, s_unOp, fastUn, boolEq, sresults, sresultsL, sresult, one_int, one_slice, one_ptr, one_bool, one_str, cells_int, cells_slice, cells_ptr, cells_bool, cells_str, cells_agg, loadRow_new, window, over, -BitVec.toNat_or, -BitVec.toNat_ofInt, -BitVec.toNat_and, fieldAddr_of fa0, fieldAddr_of fa1, load_of ld3, load_of ld34, len_slice u34, store_of sz34, conv_i u3 u29, build_one u34 el29, append_s u34 sz29, append_m u3 u34, box_of b58, build_of bo58, len_slice u22, index_slice u22 sz3, bin_ptr u24, bin_bool u4 .eql (Or.inl rfl), bin_bool u4 .neq (Or.inr rfl), l0, l1, a1, a2, a3, Try.f12]
  by_cases a4 : 1048576 < n
  · simp [x_seq, x_region, x_cond, x_ret, x_skip, x_exit, sregion_false, sregion_quiet, floatB, quiet, loudB, sops_nil, sops_cons, sop1_plain, sop1_guard, syield, put_some, put_none, ev_tmp, ev_const, fill_nil, fill_cons, o_move, o_assign, o_bin, o_pick, o_nilCheck, o_fieldAddr, o_load, o_len, o_store, o_conv, o_un, o_extract, o_append, o_call, o_buildSlice, o_box, o_alloc, o_build, o_indexAddr, Tree.get_set, s_binOp, fastBin, s_unOp, fastUn, boolEq, sresults, sresultsL, sresult, one_int, one_slice, one_ptr, one_bool, one_str, cells_int, cells_slice, cells_ptr, cells_bool, cells_str, cells_agg, loadRow_new, window, over, -BitVec.toNat_or, -BitVec.toNat_ofInt, -BitVec.toNat_and, fieldAddr_of fa0, fieldAddr_of fa1, load_of ld3, load_of ld34, len_slice u34, store_of sz34, conv_i u3 u29, build_one u34 el29, append_s u34 sz29, append_m u3 u34, box_of b58, build_of bo58, len_slice u22, index_slice u22 sz3, bin_ptr u24, bin_bool u4 .eql (Or.inl rfl), bin_bool u4 .neq (Or.inr rfl), l0, l1, a1, a2, a3, a4, Try.f12]
  have a5 : room - ws.length ≤ n := by omega
  simp [x_seq, x_region, x_cond, x_ret, x_skip, x_exit, sregion_false, sregion_quiet, floatB, quiet, loudB, sops_nil, sops_cons, sop1_plain, sop1_guard, syield, put_some, put_none, ev_tmp, ev_const, fill_nil, fill_cons, o_move, o_assign, o_bin, o_pick, o_nilCheck, o_fieldAddr, o_load, o_len, o_store, o_conv, o_un, o_extract, o_append, o_call, o_buildSlice, o_box, o_alloc, o_build, o_indexAddr, Tree.get_set, s_binOp, fastBin, s_unOp, fastUn, boolEq, sresults, sresultsL, sresult, one_int, one_slice, one_ptr, one_bool, one_str, cells_int, cells_slice, cells_ptr, cells_bool, cells_str, cells_agg, loadRow_new, window, over, -BitVec.toNat_or, -BitVec.toNat_ofInt, -BitVec.toNat_and, fieldAddr_of fa0, fieldAddr_of fa1, load_of ld3, load_of ld34, len_slice u34, store_of sz34, conv_i u3 u29, build_one u34 el29, append_s u34 sz29, append_m u3 u34, box_of b58, build_of bo58, len_slice u22, index_slice u22 sz3, bin_ptr u24, bin_bool u4 .eql (Or.inl rfl), bin_bool u4 .neq (Or.inr rfl), l0, l1, hwr, a1, a2, a3, a4, a5, Try.f12]

/-- the head that Alloc lays -/
def headOf (t n : Int) : Int := IntKind.u64.wrap (BitVec.ofInt IntKind.u64.bits (IntKind.u64.wrap (IntKind.u64.wrap t * 2 ^ (min 32 IntKind.u64.bits))) ||| BitVec.ofInt IntKind.u64.bits (IntKind.u64.wrap n)).toNat

theorem alloc_head (t0 : Tree Value) {hb hf wb wf : Nat} {ws : List Int} {room t n : Int} (h : HeapAt m hb hf wb wf ws room) (h0 : t0.get 0 = some (.pointer (some ⟨hb, 0, none⟩))) (h1 : t0.get 1 = some (.int .i64 t)) (h2 : t0.get 2 = some (.int .i64 n)) (hw : ws.length ≤ 65536) :
    ∃ t1 m1, execw Try.prog TT S r12_4 t0 m = some (.normal, t1, m1) ∧ (∃ wb', HeapAt m1 hb hf wb' wf (ws ++ [headOf t n]) room) ∧ Keeps m m1 [hf, wf] ∧
      t1.get 0 = t0.get 0 ∧ t1.get 1 = t0.get 1 ∧ t1.get 2 = t0.get 2 ∧ t1.get 8 = t0.get 8 := by
  have l0 := h.h.load1 (off := 0) rfl
  have hs0 : ∀ v, one v = true → sappend Try.prog 34 (m.new [v] 29) (.slice (some ⟨wb, 0, none⟩) ws.length ws.length) [v] 1 = some (.slice (some ⟨(m.new [v] 29).next, 0, none⟩) (ws.length + 1) (ws.length + 1), (m.new [v] 29).grow ⟨words ws, 29, wf⟩ (words ws ++ [v]) true) := by
    intro v hv
    exact sappend_full u34 ap29 (h.w.new_other [v] 29) (by simp [words]) (by omega) rfl (by simp [hv]) (by omega) (by omega)
  have hs := fun x => hs0 (.int .u64 x) rfl
  have hst0 : ∀ v x, one x = true → storeRow ((m.new [v] 29).grow ⟨words ws, 29, wf⟩ (words ws ++ [v]) true) ⟨hb, 0, none⟩ [x] = some (((m.new [v] 29).grow ⟨words ws, 29, wf⟩ (words ws ++ [v]) true).put hb ⟨[.slice (some ⟨wb, 0, none⟩) ws.length ws.length, .int .i64 room], 58, hf⟩ [x, .int .i64 room]) := by
    intro v x hx
    exact (((h.w.new_other [v] 29).grow_other (h.h.new_other [v] 29) h.ne _ _)).store (vs := [x]) (by simp) (by simp [hx])
  have hst := fun y a n c => hst0 (.int .u64 y) (.slice a n c) rfl
  clear hs0 hst0
  have e : ∃ t1, execw Try.prog TT S r12_4 t0 m = some (.normal, t1, ((m.new [.int .u64 (headOf t n)] 29).grow ⟨words ws, 29, wf⟩ (words ws ++ [.int .u64 (headOf t n)]) true).put hb ⟨[.slice (some ⟨wb, 0, none⟩) ws.length ws.length, .int .i64 room], 58, hf⟩
      [.slice (some ⟨(m.new [.int .u64 (headOf t n)] 29).next, 0, none⟩) (ws.length + 1) (ws.length + 1), .int .i64 room]) ∧ t1.get 0 = t0.get 0 ∧ t1.get 1 = t0.get 1 ∧ t1.get 2 = t0.get 2 ∧ t1.get 8 = t0.get 8 := by
    simp only [r12_0, r12_1, r12_2, r12_3, r12_4, r12_5, r12_6, c12, bodyOf, Try.f12, Code.sub, headOf]
    simp [x_seq, x_region, x_cond, x_ret, x_skip, x_exit, sregion_false, sregion_quiet, floatB, quiet, loudB, sops_nil, sops_cons, sop1_plain, sop1_guard, syield, put_some, put_none, ev_tmp, ev_const, fill_nil, fill_cons, o_move, o_assign, o_bin, o_pick, o_nilCheck, o_fieldAddr, o_load, o_len, o_store, o_conv, o_un, o_extract, o_append, o_call, o_buildSlice, o_box, o_alloc, o_build, o_indexAddr, Tree.get_set, s_binOp, fastBin, s_unOp, fastUn, boolEq, sresults, sresultsL, sresult, one_int, one_slice, one_ptr, one_bool, one_str, cells_int, cells_slice, cells_ptr, cells_bool, cells_str, cells_agg, loadRow_new, window, over, -BitVec.toNat_or, -BitVec.toNat_ofInt, -BitVec.toNat_and, fieldAddr_of fa0, fieldAddr_of fa1, load_of ld3, load_of ld34, len_slice u34, store_of sz34, conv_i u3 u29, build_one u34 el29, append_s u34 sz29, append_m u3 u34, box_of b58, build_of bo58, len_slice u22, index_slice u22 sz3, bin_ptr u24, bin_bool u4 .eql (Or.inl rfl), bin_bool u4 .neq (Or.inr rfl), l0, h0, h1, h2, loadRow_new, window, hs, hst]
  obtain ⟨t1, e, g0, g1, g2, g3⟩ := e
  refine ⟨t1, _, e, ⟨(m.new [.int .u64 (headOf t n)] 29).next, ?_⟩, ?_, g0, g1, g2, g3⟩
  · have hn := h.w.new_other [.int .u64 (headOf t n)] 29
    have hh := h.h.new_other [.int .u64 (headOf t n)] 29
    have hg := hn.grow_other hh h.ne (words ws ++ [.int .u64 (headOf t n)]) true
    refine ⟨?_, ?_, h.ne⟩
    · have := hg.put [.slice (some ⟨(m.new [.int .u64 (headOf t n)] 29).next, 0, none⟩) (ws.length + 1) (ws.length + 1), .int .i64 room]
      simpa using this
    · have := hg.put_other (hn.grow (words ws ++ [.int .u64 (headOf t n)]) true) h.ne.symm [.slice (some ⟨(m.new [.int .u64 (headOf t n)] 29).next, 0, none⟩) (ws.length + 1) (ws.length + 1), .int .i64 room]
      simpa [words] using this
  · have hn := h.w.new_other [.int .u64 (headOf t n)] 29
    have hh := h.h.new_other [.int .u64 (headOf t n)] 29
    have hg := hn.grow_other hh h.ne (words ws ++ [.int .u64 (headOf t n)]) true
    exact ((keeps_new m _ 29 [hf, wf]).trans (hn.keeps_grow _ true (by simp))).trans (hg.keeps_put _ (by simp))


/-- the zeros behind it -/
theorem alloc_rest (t0 : Tree Value) {hb hf wb wf : Nat} {ws : List Int} {room : Int} {n : Nat} (h : HeapAt m hb hf wb wf ws room) (h0 : t0.get 0 = some (.pointer (some ⟨hb, 0, none⟩))) (h2 : t0.get 2 = some (.int .i64 n)) (hw : ws.length ≤ 65537) (hn : n ≤ 1048576) :
    ∃ t1 m1, execw Try.prog TT S r12_5 t0 m = some (.normal, t1, m1) ∧ (∃ wb', HeapAt m1 hb hf wb' wf (ws ++ List.replicate n 0) room) ∧ Keeps m m1 [hf, wf] ∧
      t1.get 0 = t0.get 0 ∧ t1.get 8 = t0.get 8 := by
  have l0 := h.h.load1 (off := 0) rfl
  have hz : zerosOf Try.prog 29 n = some (List.replicate n (.int .u64 0)) := zeros_one z29 rfl rfl (by omega)
  have hc1 : (0 : Int) ≤ n := by omega
  have hc2 : (n : Int) ≤ 9223372036854775807 := by omega
  have key : ∃ m1 wb', sappend Try.prog 34 m (.slice (some ⟨wb, 0, none⟩) ws.length ws.length) (List.replicate n (.int .u64 0)) n = some (.slice (some ⟨wb', 0, none⟩) (ws.length + n) (ws.length + n), m1) ∧
      Own m1 hb [.slice (some ⟨wb, 0, none⟩) ws.length ws.length, .int .i64 room] 58 hf ∧ Own m1 wb' (words (ws ++ List.replicate n 0)) 29 wf ∧ Keeps m m1 [hf, wf] := by
    by_cases hn0 : n = 0
    · subst hn0
      exact ⟨m, wb, sappend_none u34 ap29 h.w (by omega) (by omega), h.h, by simpa [words] using h.w, .refl _ _⟩
    · refine ⟨_, _, sappend_full u34 ap29 h.w (by simp [words]) hn0 (by simp) (by simp [one_int]) (by omega) (by omega), h.w.grow_other h.h h.ne _ _, ?_, h.w.keeps_grow _ true (by simp)⟩
      have := h.w.grow (words ws ++ List.replicate n (.int .u64 0)) true
      simpa [words] using this
  obtain ⟨m1, wb', k1, k2, k3, k4⟩ := key
  have hst := fun a n c => k2.store (off := 0) (vs := [.slice a n c]) (by simp) (by simp [one_slice])
  have e : ∃ t1, execw Try.prog TT S r12_5 t0 m = some (.normal, t1, m1.put hb ⟨[.slice (some ⟨wb, 0, none⟩) ws.length ws.length, .int .i64 room], 58, hf⟩ [.slice (some ⟨wb', 0, none⟩) (ws.length + n) (ws.length + n), .int .i64 room]) ∧ t1.get 0 = t0.get 0 ∧ t1.get 8 = t0.get 8 := by
    simp only [r12_0, r12_1, r12_2, r12_3, r12_4, r12_5, r12_6, c12, bodyOf, Try.f12, Code.sub]
    simp [x_seq, x_region, x_cond, x_ret, x_skip, x_exit, sregion_false, sregion_quiet, floatB, quiet, loudB, sops_nil, sops_cons, sop1_plain, sop1_guard, syield, put_some, put_none, ev_tmp, ev_const, fill_nil, fill_cons, o_move, o_assign, o_bin, o_pick, o_nilCheck, o_fieldAddr, o_load, o_len, o_store, o_conv, o_un, o_extract, o_append, o_call, o_buildSlice, o_box, o_alloc, o_build, o_indexAddr, Tree.get_set, s_binOp, fastBin, s_unOp, fastUn, boolEq, sresults, sresultsL, sresult, one_int, one_slice, one_ptr, one_bool, one_str, cells_int, cells_slice, cells_ptr, cells_bool, cells_str, cells_agg, loadRow_new, window, over, -BitVec.toNat_or, -BitVec.toNat_ofInt, -BitVec.toNat_and, fieldAddr_of fa0, fieldAddr_of fa1, load_of ld3, load_of ld34, len_slice u34, store_of sz34, conv_i u3 u29, build_one u34 el29, append_s u34 sz29, append_m u3 u34, box_of b58, build_of bo58, len_slice u22, index_slice u22 sz3, bin_ptr u24, bin_bool u4 .eql (Or.inl rfl), bin_bool u4 .neq (Or.inr rfl), l0, h0, h2, hz, hc1, hc2, k1, hst, over]
  obtain ⟨t1, e, g0, g3⟩ := e
  refine ⟨t1, _, e, ⟨wb', ?_⟩, ?_, g0, g3⟩
  · refine ⟨?_, k2.put_other k3 h.ne.symm _, h.ne⟩
    have := k2.put [.slice (some ⟨wb', 0, none⟩) (ws.length + n) (ws.length + n), .int .i64 room]
    simpa using this
  · exact k4.trans (k2.keeps_put _ (by simp))


theorem alloc_yes (hS : S 12 = []) {hb hf wb wf : Nat} {ws : List Int} {room t : Int} {n : Nat} (h : HeapAt m hb hf wb wf ws room)
    (hr : 0 < room ∧ room ≤ 65536) (hw : ws.length ≤ 65536) (hno : ¬ noRoom ws room t n) :
    ∃ m1 wb', callw Try.prog TT S 12 [.pointer (some ⟨hb, 0, none⟩), .int .i64 t, .int .i64 n] m = some (.tuple #[.int .u64 ws.length, .bool true], m1) ∧
      HeapAt m1 hb hf wb' wf (ws ++ [headOf t n] ++ List.replicate n 0) room ∧ Keeps m m1 [hf, wf] := by
  have l0 := h.h.load1 (off := 0) rfl
  have l1 := h.h.load1 (off := 1) rfl
  have hwr : IntKind.i64.wrap (room - ws.length) = room - ws.length := wrap_i64 (by omega) (by omega)
  have hwu : IntKind.u64.wrap ws.length = ws.length := wrap_u64 (by omega) (by omega)
  unfold noRoom at hno
  have a1 : ¬ t < 0 := by omega
  have a2 : ¬ 1048576 < t := by omega
  have a3 : ¬ (n : Int) < 0 := by omega
  have a4 : ¬ 1048576 < (n : Int) := by omega
  have a5 : ¬ room - ws.length ≤ n := by omega
  have p0 : ∃ t0, execw Try.prog TT S r12_0 (fill .leaf [.pointer (some ⟨hb, 0, none⟩), .int .i64 t, .int .i64 n] 0) m = some (.normal, t0, m) ∧
      t0.get 0 = some (.pointer (some ⟨hb, 0, none⟩)) ∧ t0.get 1 = some (.int .i64 t) ∧ t0.get 2 = some (.int .i64 n) := by
    simp only [r12_0, r12_1, r12_2, r12_3, r12_4, r12_5, r12_6, c12, bodyOf, Try.f12, Code.sub]
    simp [x_seq, x_region, x_cond, x_ret, x_skip, x_exit, sregion_false, sregion_quiet, floatB, quiet, loudB, sops_nil, sops_cons, sop1_plain, sop1_guard, syield, put_some, put_none, ev_tmp, ev_const, fill_nil, fill_cons, o_move, o_assign, o_bin, o_pick, o_nilCheck, o_fieldAddr, o_load, o_len, o_store, o_conv, o_un, o_extract, o_append, o_call, o_buildSlice, o_box, o_alloc, o_build, o_indexAddr, Tree.get_set, s_binOp, fastBin, s_unOp, fastUn, boolEq, sresults, sresultsL, sresult, one_int, one_slice, one_ptr, one_bool, one_str, cells_int, cells_slice, cells_ptr, cells_bool, cells_str, cells_agg, loadRow_new, window, over, -BitVec.toNat_or, -BitVec.toNat_ofInt, -BitVec.toNat_and]
  obtain ⟨t0, e0, d0, d1, d2⟩ := p0
  have p1 : ∃ t1, execw Try.prog TT S (.seq r12_1 (.cond (.tmp 36) (.seq r12_2 .ret) .skip)) t0 m = some (.normal, t1, m) ∧
      t1.get 0 = some (.pointer (some ⟨hb, 0, none⟩)) ∧ t1.get 1 = some (.int .i64 t) ∧ t1.get 2 = some (.int .i64 n) := by
    simp only [r12_0, r12_1, r12_2, r12_3, r12_4, r12_5, r12_6, c12, bodyOf, Try.f12, Code.sub]
    simp [x_seq, x_region, x_cond, x_ret, x_skip, x_exit, sregion_false, sregion_quiet, floatB, quiet, loudB, sops_nil, sops_cons, sop1_plain, sop1_guard, syield, put_some, put_none, ev_tmp, ev_const, fill_nil, fill_cons, o_move, o_assign, o_bin, o_pick, o_nilCheck, o_fieldAddr, o_load, o_len, o_store, o_conv, o_un, o_extract, o_append, o_call, o_buildSlice, o_box, o_alloc, o_build, o_indexAddr, Tree.get_set, s_binOp, fastBin, s_unOp, fastUn, boolEq, sresults, sresultsL, sresult, one_int, one_slice, one_ptr, one_bool, one_str, cells_int, cells_slice, cells_ptr, cells_bool, cells_str, cells_agg, loadRow_new, window, over, -BitVec.toNat_or, -BitVec.toNat_ofInt, -BitVec.toNat_and, fieldAddr_of fa0, fieldAddr_of fa1, load_of ld3, load_of ld34, len_slice u34, store_of sz34, conv_i u3 u29, build_one u34 el29, append_s u34 sz29, append_m u3 u34, box_of b58, build_of bo58, len_slice u22, index_slice u22 sz3, bin_ptr u24, bin_bool u4 .eql (Or.inl rfl), bin_bool u4 .neq (Or.inr rfl), l0, l1, d0, d1, d2, hwr, a1, a2, a3, a4, a5]
  obtain ⟨t1, e1, f0, f1, f2⟩ := p1
  have p2 : ∃ t2, execw Try.prog TT S r12_3 t1 m = some (.normal, t2, m) ∧ t2.get 0 = some (.pointer (some ⟨hb, 0, none⟩)) ∧ t2.get 1 = some (.int .i64 t) ∧ t2.get 2 = some (.int .i64 n) ∧ t2.get 8 = some (.int .u64 ws.length) := by
    simp only [r12_0, r12_1, r12_2, r12_3, r12_4, r12_5, r12_6, c12, bodyOf, Try.f12, Code.sub]
    simp [x_seq, x_region, x_cond, x_ret, x_skip, x_exit, sregion_false, sregion_quiet, floatB, quiet, loudB, sops_nil, sops_cons, sop1_plain, sop1_guard, syield, put_some, put_none, ev_tmp, ev_const, fill_nil, fill_cons, o_move, o_assign, o_bin, o_pick, o_nilCheck, o_fieldAddr, o_load, o_len, o_store, o_conv, o_un, o_extract, o_append, o_call, o_buildSlice, o_box, o_alloc, o_build, o_indexAddr, Tree.get_set, s_binOp, fastBin, s_unOp, fastUn, boolEq, sresults, sresultsL, sresult, one_int, one_slice, one_ptr, one_bool, one_str, cells_int, cells_slice, cells_ptr, cells_bool, cells_str, cells_agg, loadRow_new, window, over, -BitVec.toNat_or, -BitVec.toNat_ofInt, -BitVec.toNat_and, fieldAddr_of fa0, fieldAddr_of fa1, load_of ld3, load_of ld34, len_slice u34, store_of sz34, conv_i u3 u29, build_one u34 el29, append_s u34 sz29, append_m u3 u34, box_of b58, build_of bo58, len_slice u22, index_slice u22 sz3, bin_ptr u24, bin_bool u4 .eql (Or.inl rfl), bin_bool u4 .neq (Or.inr rfl), l0, l1, f0, f1, f2, hwu]
  obtain ⟨t2, e2, g0, g1, g2, g8⟩ := p2
  obtain ⟨t3, m3, e3, ⟨wb3, h3⟩, k3, i0, i1, i2, i8⟩ := alloc_head (S := S) t2 h g0 g1 g2 hw
  obtain ⟨t4, m4, e4, ⟨wb4, h4⟩, k4, j0, j8⟩ := alloc_rest (S := S) t3 h3 (i0.trans g0) (i2.trans g2) (by simp; omega) (by omega)
  have p5 : ∃ t5, execw Try.prog TT S (.seq r12_6 .ret) t4 m4 = some (.ret, t5, m4) ∧ t5.get 6 = some (.int .u64 ws.length) ∧ t5.get 7 = some (.bool true) := by
    simp only [r12_0, r12_1, r12_2, r12_3, r12_4, r12_5, r12_6, c12, bodyOf, Try.f12, Code.sub]
    simp [x_seq, x_region, x_cond, x_ret, x_skip, x_exit, sregion_false, sregion_quiet, floatB, quiet, loudB, sops_nil, sops_cons, sop1_plain, sop1_guard, syield, put_some, put_none, ev_tmp, ev_const, fill_nil, fill_cons, o_move, o_assign, o_bin, o_pick, o_nilCheck, o_fieldAddr, o_load, o_len, o_store, o_conv, o_un, o_extract, o_append, o_call, o_buildSlice, o_box, o_alloc, o_build, o_indexAddr, Tree.get_set, s_binOp, fastBin, s_unOp, fastUn, boolEq, sresults, sresultsL, sresult, one_int, one_slice, one_ptr, one_bool, one_str, cells_int, cells_slice, cells_ptr, cells_bool, cells_str, cells_agg, loadRow_new, window, over, -BitVec.toNat_or, -BitVec.toNat_ofInt, -BitVec.toNat_and, fieldAddr_of fa0, fieldAddr_of fa1, load_of ld3, load_of ld34, len_slice u34, store_of sz34, conv_i u3 u29, build_one u34 el29, append_s u34 sz29, append_m u3 u34, box_of b58, build_of bo58, len_slice u22, index_slice u22 sz3, bin_ptr u24, bin_bool u4 .eql (Or.inl rfl), bin_bool u4 .neq (Or.inr rfl), j8, i8, g8]
  obtain ⟨t5, e5, n6, n7⟩ := p5
  refine ⟨m4, wb4, ?_, h4, k3.trans k4⟩
  refine call_ok (c := c12) tt12 (by simp only [Try.f12, c12, bodyOf]) hS (by simp [Try.f12]) (Or.inr rfl) (t' := t5) ?_ (by simp [sresults, sresultsL, sresult, Try.f12, n6, n7])
  rw [body12]
  exact seq_ok e0 (seq_ok e1 (seq_ok e2 (seq_ok e3 (seq_ok e4 e5))))

noncomputable def c10 : Code := bodyOf Try.f10
noncomputable def r10_0 : Code := Code.sub [0] c10
noncomputable def r10_1 : Code := Code.sub [1, 0, 0] c10
noncomputable def r10_2 : Code := Code.sub [1, 0, 1, 0, 0] c10
noncomputable def r10_3 : Code := Code.sub [1, 1, 0] c10
theorem body10 : c10 = (.seq r10_0 (.seq (.seq r10_1 (.cond (.tmp 9) (.seq r10_2 .ret) .skip)) (.seq r10_3 .ret))) := by kernel_rfl
theorem new_run (hS : S 10 = []) (room : Int) (h1 : 1 ≤ room) (h2 : room ≤ 65536) : ∃ m1 hb wb, callw Try.prog TT S 10 [.int .i64 room] m = some (.tuple #[.pointer (some ⟨hb, 0, none⟩), .int .i64 0], m1) ∧
    HeapAt m1 hb hb wb wb [0] room ∧ m.next ≤ hb ∧ m.next ≤ wb ∧ Keeps m m1 [] := by
  have a1 : ¬ room < 1 := by omega
  have a2 : ¬ 65536 < room := by omega
  refine ⟨(m.new [.int .u64 0] 29).new [.slice (some ⟨m.next, 0, none⟩) 1 1, .int .i64 room] 58, m.next + 1, m.next, ?_, ⟨?_, ?_, by omega⟩, by omega, by omega, (keeps_new _ _ _ _).trans (keeps_new _ _ _ _)⟩
  · rw [x_call tt10 (by simp only [Try.f10]; rfl) hS _ (by simp [Try.f10])]
    simp [x_seq, x_region, x_cond, x_ret, x_skip, x_exit, sregion_false, sregion_quiet, floatB, quiet, loudB, sops_nil, sops_cons, sop1_plain, sop1_guard, syield, put_some, put_none, ev_tmp, ev_const, fill_nil, fill_cons, o_move, o_assign, o_bin, o_pick, o_nilCheck, o_fieldAddr, o_load, o_len, o_store, o_conv, o_un, o_extract, o_append, o_call, o_buildSlice, o_box, o_alloc, o_build, o_indexAddr, Tree.get_set, s_binOp, fastBin, s_unOp, fastUn, boolEq, sresults, sresultsL, sresult, one_int, one_slice, one_ptr, one_bool, one_str, cells_int, cells_slice, cells_ptr, cells_bool, cells_str, cells_agg, loadRow_new, window, over, -BitVec.toNat_or, -BitVec.toNat_ofInt, -BitVec.toNat_and, fieldAddr_of fa0, fieldAddr_of fa1, load_of ld3, load_of ld34, len_slice u34, store_of sz34, conv_i u3 u29, build_one u34 el29, append_s u34 sz29, append_m u3 u34, box_of b58, build_of bo58, len_slice u22, index_slice u22 sz3, bin_ptr u24, bin_bool u4 .eql (Or.inl rfl), bin_bool u4 .neq (Or.inr rfl), Instr.fill, a1, a2, Try.f10, Mem.new]
  · exact Own.new (m.new [.int .u64 0] 29) _ 58
  · exact (Own.new m _ 29).new_other _ _
theorem emod_tmod (x k : Int) (hk : 0 < k) : x % k = if x.tmod k < 0 then x.tmod k + k else x.tmod k := by
  have hx := Int.emod_nonneg x (by omega : k ≠ 0)
  have hx2 := Int.emod_lt_of_pos x hk
  split
  · rename_i h
    have : (x.tmod k + k) % k = x % k := by
      rw [Int.add_emod_right]
      have h3 := Int.tmod_add_mul_tdiv x k
      have : x.tmod k = x - k * x.tdiv k := by omega
      rw [this, Int.sub_mul_emod_self_left]
    rw [← this]
    have := Int.lt_tmod_of_pos x hk
    exact Int.emod_eq_of_lt (by omega) (by omega)
  · rename_i h
    have : (x.tmod k) % k = x % k := by
      have h3 := Int.tmod_add_mul_tdiv x k
      have : x.tmod k = x - k * x.tdiv k := by omega
      rw [this, Int.sub_mul_emod_self_left]
    rw [← this]
    have := Int.tmod_lt_of_pos x hk
    exact Int.emod_eq_of_lt (by omega) (by omega)


theorem pick_run (hS : S 9 = []) (x k : Int) (hk : 0 < k) (hk2 : k < 1000000) : callw Try.prog TT S 9 [.int .i64 x, .int .i64 k] m = some (.int .i64 (x % k), m) := by
  have hx := Int.emod_nonneg x (by omega : k ≠ 0)
  have hx2 := Int.emod_lt_of_pos x hk
  have hk0 : k ≠ 0 := by omega
  have hw : IntKind.i64.wrap (x % k) = x % k := wrap_i64 (by omega) (by omega)
  rw [x_call tt9 (by simp only [Try.f9]; rfl) hS _ (by simp [Try.f9])]
  have e := emod_tmod x k hk
  by_cases h : x.tmod k < 0
  · rw [if_pos h] at e
    rw [e] at hw ⊢
    simp [x_seq, x_region, x_cond, x_ret, x_skip, x_exit, sregion_false, sregion_quiet, floatB, quiet, loudB, sops_nil, sops_cons, sop1_plain, sop1_guard, syield, put_some, put_none, ev_tmp, ev_const, fill_nil, fill_cons, o_move, o_assign, o_bin, o_pick, o_nilCheck, o_fieldAddr, o_load, o_len, o_store, o_conv, o_un, o_extract, o_append, o_call, o_buildSlice, o_box, o_alloc, o_build, o_indexAddr, Tree.get_set, s_binOp, fastBin, s_unOp, fastUn, boolEq, sresults, sresultsL, sresult, one_int, one_slice, one_ptr, one_bool, one_str, cells_int, cells_slice, cells_ptr, cells_bool, cells_str, cells_agg, loadRow_new, window, over, -BitVec.toNat_or, -BitVec.toNat_ofInt, -BitVec.toNat_and, hk0, h, hw, Try.f9]
  · rw [if_neg h] at e
    rw [e]
    simp [x_seq, x_region, x_cond, x_ret, x_skip, x_exit, sregion_false, sregion_quiet, floatB, quiet, loudB, sops_nil, sops_cons, sop1_plain, sop1_guard, syield, put_some, put_none, ev_tmp, ev_const, fill_nil, fill_cons, o_move, o_assign, o_bin, o_pick, o_nilCheck, o_fieldAddr, o_load, o_len, o_store, o_conv, o_un, o_extract, o_append, o_call, o_buildSlice, o_box, o_alloc, o_build, o_indexAddr, Tree.get_set, s_binOp, fastBin, s_unOp, fastUn, boolEq, sresults, sresultsL, sresult, one_int, one_slice, one_ptr, one_bool, one_str, cells_int, cells_slice, cells_ptr, cells_bool, cells_str, cells_agg, loadRow_new, window, over, -BitVec.toNat_or, -BitVec.toNat_ofInt, -BitVec.toNat_and, hk0, h, Try.f9]

noncomputable def c3 : Code := bodyOf Try.f3
noncomputable def r3_0 : Code := Code.sub [0] c3
noncomputable def r3_1 : Code := Code.sub [1, 0] c3
noncomputable def r3_2 : Code := Code.sub [1, 1, 0] c3
noncomputable def r3_3 : Code := Code.sub [1, 1, 1, 0, 0] c3
noncomputable def r3_4 : Code := Code.sub [1, 1, 1, 0, 1, 0, 0] c3
noncomputable def r3_5 : Code := Code.sub [1, 1, 1, 1, 0] c3
noncomputable def r3_6 : Code := Code.sub [1, 1, 1, 1, 1, 0, 0] c3
noncomputable def r3_7 : Code := Code.sub [1, 1, 1, 1, 1, 0, 1, 0, 0, 0, 0] c3
noncomputable def r3_8 : Code := Code.sub [1, 1, 1, 1, 1, 0, 1, 0, 0, 1, 0, 0, 0] c3
noncomputable def r3_9 : Code := Code.sub [1, 1, 1, 1, 1, 0, 1, 0, 0, 1, 0, 0, 1, 0] c3
noncomputable def r3_10 : Code := Code.sub [1, 1, 1, 1, 1, 0, 1, 0, 0, 1, 0, 0, 1, 1, 0, 0] c3
noncomputable def r3_11 : Code := Code.sub [1, 1, 1, 1, 1, 0, 1, 0, 0, 1, 0, 0, 1, 1, 0, 1, 0, 0] c3
noncomputable def r3_12 : Code := Code.sub [1, 1, 1, 1, 1, 0, 1, 0, 0, 1, 0, 0, 1, 1, 1, 0, 0] c3
noncomputable def r3_13 : Code := Code.sub [1, 1, 1, 1, 1, 0, 1, 0, 0, 1, 0, 0, 1, 1, 1, 0, 1, 0] c3
noncomputable def r3_14 : Code := Code.sub [1, 1, 1, 1, 1, 0, 1, 0, 0, 1, 0, 0, 1, 1, 1, 1, 0] c3
noncomputable def r3_15 : Code := Code.sub [1, 1, 1, 1, 1, 0, 1, 0, 0, 1, 0, 0, 1, 1, 1, 1, 1, 0, 0] c3
noncomputable def r3_16 : Code := Code.sub [1, 1, 1, 1, 1, 0, 1, 0, 0, 1, 1] c3
noncomputable def r3_17 : Code := Code.sub [1, 1, 1, 1, 1, 1, 0] c3
theorem body3 : c3 = (.seq r3_0 (.seq r3_1 (.seq r3_2 (.seq (.seq r3_3 (.cond (.tmp 29) (.seq r3_4 .ret) .skip)) (.seq r3_5 (.seq (.seq r3_6 (.block 0 (.loop (.seq (.seq r3_7 (.cond (.tmp 37) .skip (.exit 0))) (.seq (.block 1 (.seq r3_8 (.seq r3_9 (.seq (.seq r3_10 (.cond (.tmp 75) (.seq r3_11 .ret) .skip)) (.seq (.seq r3_12 (.cond (.tmp 76) r3_13 .skip)) (.seq r3_14 (.cond (.tmp 84) (.seq r3_15 .ret) .skip))))))) r3_16))))) (.seq r3_17 .ret))))))) := by kernel_rfl
/-- the slots that the loop reads -/
structure Sl (t : Tree Value) (room : Int) (ao : Option Addr) (n c hb : Nat) (used : Int) (i : Nat) : Prop where
  s0 : t.get 0 = some (.int .i64 room)
  s1 : t.get 1 = some (.slice ao n c)
  s5 : t.get 5 = some (.pointer (some ⟨hb, 0, none⟩))
  s7 : t.get 7 = some (.int .i64 used)
  s8 : t.get 8 = some (.int .i64 i)

/-- the body of a round -/
noncomputable def round3 : Code := .seq (.seq r3_7 (.cond (.tmp 37) .skip (.exit 0))) (.seq (.block 1 (.seq r3_8 (.seq r3_9 (.seq (.seq r3_10 (.cond (.tmp 75) (.seq r3_11 .ret) .skip)) (.seq (.seq r3_12 (.cond (.tmp 76) r3_13 .skip)) (.seq r3_14 (.cond (.tmp 84) (.seq r3_15 .ret) .skip))))))) r3_16)

section
variable {t : Tree Value} {room : Int} {ao : Option Addr} {n c hb : Nat} {used : Int} {i : Nat}
theorem p7_go (h : Sl t room ao n c hb used i) (h1 : i < n) (h2 : i < 60) : ∃ t', execw Try.prog TT S (.seq r3_7 (.cond (.tmp 37) .skip (.exit 0))) t m = some (.normal, t', m) ∧ Sl t' room ao n c hb used i := by
  obtain ⟨s0, s1, s5, s7, s8⟩ := h
  have e1 : ((i : Int) < n) := by omega
  have e2 : ((i : Int) < 60) := by omega
  have : ∃ t', execw Try.prog TT S (.seq r3_7 (.cond (.tmp 37) .skip (.exit 0))) t m = some (.normal, t', m) ∧ t'.get 0 = t.get 0 ∧ t'.get 1 = t.get 1 ∧ t'.get 5 = t.get 5 ∧ t'.get 7 = t.get 7 ∧ t'.get 8 = t.get 8 := by
    simp only [r3_7, c3, bodyOf, Try.f3, Code.sub]
    simp [x_seq, x_region, x_cond, x_ret, x_skip, x_exit, sregion_false, sregion_quiet, floatB, quiet, loudB, sops_nil, sops_cons, sop1_plain, sop1_guard, syield, put_some, put_none, ev_tmp, ev_const, fill_nil, fill_cons, o_move, o_assign, o_bin, o_pick, o_nilCheck, o_fieldAddr, o_load, o_len, o_store, o_conv, o_un, o_extract, o_append, o_call, o_buildSlice, o_box, o_alloc, o_build, o_indexAddr, Tree.get_set, s_binOp, fastBin, s_unOp, fastUn, boolEq, sresults, sresultsL, sresult, one_int, one_slice, one_ptr, one_bool, one_str, cells_int, cells_slice, cells_ptr, cells_bool, cells_str, cells_agg, loadRow_new, window, over, -BitVec.toNat_or, -BitVec.toNat_ofInt, -BitVec.toNat_and, fieldAddr_of fa0, fieldAddr_of fa1, load_of ld3, load_of ld34, len_slice u34, store_of sz34, conv_i u3 u29, build_one u34 el29, append_s u34 sz29, append_m u3 u34, box_of b58, build_of bo58, len_slice u22, index_slice u22 sz3, bin_ptr u24, bin_bool u4 .eql (Or.inl rfl), bin_bool u4 .neq (Or.inr rfl), s0, s1, s5, s7, s8, h1, e1, e2]
  obtain ⟨t', g, g0, g1, g5, g7, g8⟩ := this
  exact ⟨t', g, g0.trans s0, g1.trans s1, g5.trans s5, g7.trans s7, g8.trans s8⟩
theorem p7_end (h : Sl t room ao n c hb used i) (h1 : ¬ (i < n ∧ i < 60)) : ∃ t', execw Try.prog TT S (.seq r3_7 (.cond (.tmp 37) .skip (.exit 0))) t m = some (.exit 0, t', m) := by
  obtain ⟨s0, s1, s5, s7, s8⟩ := h
  simp only [r3_7, c3, bodyOf, Try.f3, Code.sub]
  by_cases a : i < n
  · have e2 : ¬ ((i : Int) < 60) := by omega
    have e1 : ((i : Int) < n) := by omega
    simp [x_seq, x_region, x_cond, x_ret, x_skip, x_exit, sregion_false, sregion_quiet, floatB, quiet, loudB, sops_nil, sops_cons, sop1_plain, sop1_guard, syield, put_some, put_none, ev_tmp, ev_const, fill_nil, fill_cons, o_move, o_assign, o_bin, o_pick, o_nilCheck, o_fieldAddr, o_load, o_len, o_store, o_conv, o_un, o_extract, o_append, o_call, o_buildSlice, o_box, o_alloc, o_build, o_indexAddr, Tree.get_set, s_binOp, fastBin, s_unOp, fastUn, boolEq, sresults, sresultsL, sresult, one_int, one_slice, one_ptr, one_bool, one_str, cells_int, cells_slice, cells_ptr, cells_bool, cells_str, cells_agg, loadRow_new, window, over, -BitVec.toNat_or, -BitVec.toNat_ofInt, -BitVec.toNat_and, fieldAddr_of fa0, fieldAddr_of fa1, load_of ld3, load_of ld34, len_slice u34, store_of sz34, conv_i u3 u29, build_one u34 el29, append_s u34 sz29, append_m u3 u34, box_of b58, build_of bo58, len_slice u22, index_slice u22 sz3, bin_ptr u24, bin_bool u4 .eql (Or.inl rfl), bin_bool u4 .neq (Or.inr rfl), s0, s1, s5, s7, s8, a, e1, e2]
  · have e1 : ¬ ((i : Int) < n) := by omega
    simp [x_seq, x_region, x_cond, x_ret, x_skip, x_exit, sregion_false, sregion_quiet, floatB, quiet, loudB, sops_nil, sops_cons, sop1_plain, sop1_guard, syield, put_some, put_none, ev_tmp, ev_const, fill_nil, fill_cons, o_move, o_assign, o_bin, o_pick, o_nilCheck, o_fieldAddr, o_load, o_len, o_store, o_conv, o_un, o_extract, o_append, o_call, o_buildSlice, o_box, o_alloc, o_build, o_indexAddr, Tree.get_set, s_binOp, fastBin, s_unOp, fastUn, boolEq, sresults, sresultsL, sresult, one_int, one_slice, one_ptr, one_bool, one_str, cells_int, cells_slice, cells_ptr, cells_bool, cells_str, cells_agg, loadRow_new, window, over, -BitVec.toNat_or, -BitVec.toNat_ofInt, -BitVec.toNat_and, fieldAddr_of fa0, fieldAddr_of fa1, load_of ld3, load_of ld34, len_slice u34, store_of sz34, conv_i u3 u29, build_one u34 el29, append_s u34 sz29, append_m u3 u34, box_of b58, build_of bo58, len_slice u22, index_slice u22 sz3, bin_ptr u24, bin_bool u4 .eql (Or.inl rfl), bin_bool u4 .neq (Or.inr rfl), s0, s1, s5, s7, s8, a, e1]
theorem p8 (hS : S 9 = []) (h : Sl t room ao n c hb used i) {la lf : Nat} {zs : List Int} (hn : n = zs.length) (ha : ao = some ⟨la, 0, none⟩) (hr : Rdo m la (zs.map (Value.int .i64)) 3 lf) (h1 : i < n) (h63 : n ≤ 9223372036854775807) :
    ∃ t', execw Try.prog TT S r3_8 t m = some (.normal, t', m) ∧ Sl t' room ao n c hb used i ∧ t'.get 9 = some (.int .i64 (zs.getD i 0 % 30)) := by
  obtain ⟨s0, s1, s5, s7, s8⟩ := h
  subst ha
  have hl : loadRow m ⟨la, i, none⟩ 1 = some [.int .i64 (zs.getD i 0)] := hr.load1 (by simp [List.getD_eq_getElem?_getD, List.getElem?_eq_getElem (hn ▸ h1 : i < zs.length)])
  have hp := fun m' => pick_run (m := m') hS (zs.getD i 0) 30 (by omega) (by omega)
  have e1 : (i : Int) ≤ 9223372036854775807 := by omega
  have : ∃ t', execw Try.prog TT S r3_8 t m = some (.normal, t', m) ∧ t'.get 0 = t.get 0 ∧ t'.get 1 = t.get 1 ∧ t'.get 5 = t.get 5 ∧ t'.get 7 = t.get 7 ∧ t'.get 8 = t.get 8 ∧ t'.get 9 = some (.int .i64 (zs.getD i 0 % 30)) := by
    simp only [r3_8, c3, bodyOf, Try.f3, Code.sub]
    simp only [List.getD_eq_getElem?_getD] at hl hp ⊢
    simp [x_seq, x_region, x_cond, x_ret, x_skip, x_exit, sregion_false, sregion_quiet, floatB, quiet, loudB, sops_nil, sops_cons, sop1_plain, sop1_guard, syield, put_some, put_none, ev_tmp, ev_const, fill_nil, fill_cons, o_move, o_assign, o_bin, o_pick, o_nilCheck, o_fieldAddr, o_load, o_len, o_store, o_conv, o_un, o_extract, o_append, o_call, o_buildSlice, o_box, o_alloc, o_build, o_indexAddr, Tree.get_set, s_binOp, fastBin, s_unOp, fastUn, boolEq, sresults, sresultsL, sresult, one_int, one_slice, one_ptr, one_bool, one_str, cells_int, cells_slice, cells_ptr, cells_bool, cells_str, cells_agg, loadRow_new, window, over, -BitVec.toNat_or, -BitVec.toNat_ofInt, -BitVec.toNat_and, fieldAddr_of fa0, fieldAddr_of fa1, load_of ld3, load_of ld34, len_slice u34, store_of sz34, conv_i u3 u29, build_one u34 el29, append_s u34 sz29, append_m u3 u34, box_of b58, build_of bo58, len_slice u22, index_slice u22 sz3, bin_ptr u24, bin_bool u4 .eql (Or.inl rfl), bin_bool u4 .neq (Or.inr rfl), load_of ld3, s0, s1, s5, s7, s8, h1, e1, hl, hp]
  obtain ⟨t', g, g0, g1, g5, g7, g8, g9⟩ := this
  exact ⟨t', g, ⟨g0.trans s0, g1.trans s1, g5.trans s5, g7.trans s7, g8.trans s8⟩, g9⟩

/-- behind Alloc -/
structure Sa (t : Tree Value) (room : Int) (ao : Option Addr) (n c hb : Nat) (used : Int) (i : Nat) (k : Int) (ref : Int) (ok : Bool) : Prop where
  sl : Sl t room ao n c hb used i
  s9 : t.get 9 = some (.int .i64 k)
  s10 : t.get 10 = some (.int .u64 ref)
  s11 : t.get 11 = some (.bool ok)

theorem p9 (h : Sl t room ao n c hb used i) {k : Int} (h9 : t.get 9 = some (.int .i64 k)) {ref : Int} {ok : Bool} {m1 : Mem} (hc : callw Try.prog TT S 12 [.pointer (some ⟨hb, 0, none⟩), .int .i64 5, .int .i64 k] m = some (.tuple #[.int .u64 ref, .bool ok], m1)) :
    ∃ t', execw Try.prog TT S r3_9 t m = some (.normal, t', m1) ∧ Sa t' room ao n c hb used i k ref ok := by
  obtain ⟨s0, s1, s5, s7, s8⟩ := h
  have : ∃ t', execw Try.prog TT S r3_9 t m = some (.normal, t', m1) ∧ t'.get 0 = t.get 0 ∧ t'.get 1 = t.get 1 ∧ t'.get 5 = t.get 5 ∧ t'.get 7 = t.get 7 ∧ t'.get 8 = t.get 8 ∧ t'.get 9 = t.get 9 ∧ t'.get 10 = some (.int .u64 ref) ∧ t'.get 11 = some (.bool ok) := by
    simp only [r3_9, c3, bodyOf, Try.f3, Code.sub]
    simp [x_seq, x_region, x_cond, x_ret, x_skip, x_exit, sregion_false, sregion_quiet, floatB, quiet, loudB, sops_nil, sops_cons, sop1_plain, sop1_guard, syield, put_some, put_none, ev_tmp, ev_const, fill_nil, fill_cons, o_move, o_assign, o_bin, o_pick, o_nilCheck, o_fieldAddr, o_load, o_len, o_store, o_conv, o_un, o_extract, o_append, o_call, o_buildSlice, o_box, o_alloc, o_build, o_indexAddr, Tree.get_set, s_binOp, fastBin, s_unOp, fastUn, boolEq, sresults, sresultsL, sresult, one_int, one_slice, one_ptr, one_bool, one_str, cells_int, cells_slice, cells_ptr, cells_bool, cells_str, cells_agg, loadRow_new, window, over, -BitVec.toNat_or, -BitVec.toNat_ofInt, -BitVec.toNat_and, fieldAddr_of fa0, fieldAddr_of fa1, load_of ld3, load_of ld34, len_slice u34, store_of sz34, conv_i u3 u29, build_one u34 el29, append_s u34 sz29, append_m u3 u34, box_of b58, build_of bo58, len_slice u22, index_slice u22 sz3, bin_ptr u24, bin_bool u4 .eql (Or.inl rfl), bin_bool u4 .neq (Or.inr rfl), s0, s1, s5, s7, s8, h9, hc]
  obtain ⟨t', g, g0, g1, g5, g7, g8, g9, g10, g11⟩ := this
  exact ⟨t', g, ⟨⟨g0.trans s0, g1.trans s1, g5.trans s5, g7.trans s7, g8.trans s8⟩, g9.trans h9, g10, g11⟩⟩

/-- the first question: is Alloc's answer as it must be? -/
theorem p10 {k ref : Int} {ok : Bool} (h : Sa t room ao n c hb used i k ref ok) (hk : 0 ≤ k ∧ k ≤ 1000) (hu : 0 ≤ used ∧ used ≤ 1000000) (hok : ok = decide (used + k + 1 ≤ room)) (href : ref = if ok then used else 0) :
    ∃ t', execw Try.prog TT S (.seq r3_10 (.cond (.tmp 75) (.seq r3_11 .ret) .skip)) t m = some (.normal, t', m) ∧ Sa t' room ao n c hb used i k ref ok := by
  obtain ⟨⟨s0, s1, s5, s7, s8⟩, s9, s10, s11⟩ := h
  have w1 : IntKind.i64.wrap (used + k) = used + k := wrap_i64 (by omega) (by omega)
  have w2 : IntKind.i64.wrap (used + k + 1) = used + k + 1 := wrap_i64 (by omega) (by omega)
  have w3 : IntKind.u64.wrap used = used := wrap_u64 (by omega) (by omega)
  have : ∃ t', execw Try.prog TT S (.seq r3_10 (.cond (.tmp 75) (.seq r3_11 .ret) .skip)) t m = some (.normal, t', m) ∧ t'.get 0 = t.get 0 ∧ t'.get 1 = t.get 1 ∧ t'.get 5 = t.get 5 ∧ t'.get 7 = t.get 7 ∧ t'.get 8 = t.get 8 ∧ t'.get 9 = t.get 9 ∧ t'.get 10 = t.get 10 ∧ t'.get 11 = t.get 11 := by
    simp only [r3_10, c3, bodyOf, Try.f3, Code.sub]
    by_cases hle : used + k + 1 ≤ room
    · have ho : ok = true := by rw [hok]; simp [hle]
      subst ho
      simp only [if_true] at href
      subst href
      simp [x_seq, x_region, x_cond, x_ret, x_skip, x_exit, sregion_false, sregion_quiet, floatB, quiet, loudB, sops_nil, sops_cons, sop1_plain, sop1_guard, syield, put_some, put_none, ev_tmp, ev_const, fill_nil, fill_cons, o_move, o_assign, o_bin, o_pick, o_nilCheck, o_fieldAddr, o_load, o_len, o_store, o_conv, o_un, o_extract, o_append, o_call, o_buildSlice, o_box, o_alloc, o_build, o_indexAddr, Tree.get_set, s_binOp, fastBin, s_unOp, fastUn, boolEq, sresults, sresultsL, sresult, one_int, one_slice, one_ptr, one_bool, one_str, cells_int, cells_slice, cells_ptr, cells_bool, cells_str, cells_agg, loadRow_new, window, over, -BitVec.toNat_or, -BitVec.toNat_ofInt, -BitVec.toNat_and, fieldAddr_of fa0, fieldAddr_of fa1, load_of ld3, load_of ld34, len_slice u34, store_of sz34, conv_i u3 u29, build_one u34 el29, append_s u34 sz29, append_m u3 u34, box_of b58, build_of bo58, len_slice u22, index_slice u22 sz3, bin_ptr u24, bin_bool u4 .eql (Or.inl rfl), bin_bool u4 .neq (Or.inr rfl), s0, s1, s5, s7, s8, s9, s10, s11, w1, w2, w3, hle]
    · have ho : ok = false := by rw [hok]; simp [hle]
      subst ho
      simp only [Bool.false_eq_true, if_false] at href
      subst href
      simp [x_seq, x_region, x_cond, x_ret, x_skip, x_exit, sregion_false, sregion_quiet, floatB, quiet, loudB, sops_nil, sops_cons, sop1_plain, sop1_guard, syield, put_some, put_none, ev_tmp, ev_const, fill_nil, fill_cons, o_move, o_assign, o_bin, o_pick, o_nilCheck, o_fieldAddr, o_load, o_len, o_store, o_conv, o_un, o_extract, o_append, o_call, o_buildSlice, o_box, o_alloc, o_build, o_indexAddr, Tree.get_set, s_binOp, fastBin, s_unOp, fastUn, boolEq, sresults, sresultsL, sresult, one_int, one_slice, one_ptr, one_bool, one_str, cells_int, cells_slice, cells_ptr, cells_bool, cells_str, cells_agg, loadRow_new, window, over, -BitVec.toNat_or, -BitVec.toNat_ofInt, -BitVec.toNat_and, fieldAddr_of fa0, fieldAddr_of fa1, load_of ld3, load_of ld34, len_slice u34, store_of sz34, conv_i u3 u29, build_one u34 el29, append_s u34 sz29, append_m u3 u34, box_of b58, build_of bo58, len_slice u22, index_slice u22 sz3, bin_ptr u24, bin_bool u4 .eql (Or.inl rfl), bin_bool u4 .neq (Or.inr rfl), s0, s1, s5, s7, s8, s9, s10, s11, w1, w2, w3, hle]
  obtain ⟨t', g, g0, g1, g5, g7, g8, g9, g10, g11⟩ := this
  exact ⟨t', g, ⟨⟨g0.trans s0, g1.trans s1, g5.trans s5, g7.trans s7, g8.trans s8⟩, g9.trans s9, g10.trans s10, g11.trans s11⟩⟩

theorem p12 {k ref : Int} {ok : Bool} (h : Sa t room ao n c hb used i k ref ok) (hk : 0 ≤ k ∧ k ≤ 1000) (hu : 0 ≤ used ∧ used ≤ 1000000) :
    ∃ t', execw Try.prog TT S (.seq r3_12 (.cond (.tmp 76) r3_13 .skip)) t m = some (.normal, t', m) ∧ Sl t' room ao n c hb (if ok then used + k + 1 else used) i := by
  obtain ⟨⟨s0, s1, s5, s7, s8⟩, s9, s10, s11⟩ := h
  have w1 : IntKind.i64.wrap (used + k) = used + k := wrap_i64 (by omega) (by omega)
  have w2 : IntKind.i64.wrap (used + k + 1) = used + k + 1 := wrap_i64 (by omega) (by omega)
  have : ∃ t', execw Try.prog TT S (.seq r3_12 (.cond (.tmp 76) r3_13 .skip)) t m = some (.normal, t', m) ∧ t'.get 0 = t.get 0 ∧ t'.get 1 = t.get 1 ∧ t'.get 5 = t.get 5 ∧ t'.get 7 = some (.int .i64 (if ok then used + k + 1 else used)) ∧ t'.get 8 = t.get 8 := by
    simp only [r3_12, r3_13, c3, bodyOf, Try.f3, Code.sub]
    cases ok <;> simp [x_seq, x_region, x_cond, x_ret, x_skip, x_exit, sregion_false, sregion_quiet, floatB, quiet, loudB, sops_nil, sops_cons, sop1_plain, sop1_guard, syield, put_some, put_none, ev_tmp, ev_const, fill_nil, fill_cons, o_move, o_assign, o_bin, o_pick, o_nilCheck, o_fieldAddr, o_load, o_len, o_store, o_conv, o_un, o_extract, o_append, o_call, o_buildSlice, o_box, o_alloc, o_build, o_indexAddr, Tree.get_set, s_binOp, fastBin, s_unOp, fastUn, boolEq, sresults, sresultsL, sresult, one_int, one_slice, one_ptr, one_bool, one_str, cells_int, cells_slice, cells_ptr, cells_bool, cells_str, cells_agg, loadRow_new, window, over, -BitVec.toNat_or, -BitVec.toNat_ofInt, -BitVec.toNat_and, fieldAddr_of fa0, fieldAddr_of fa1, load_of ld3, load_of ld34, len_slice u34, store_of sz34, conv_i u3 u29, build_one u34 el29, append_s u34 sz29, append_m u3 u34, box_of b58, build_of bo58, len_slice u22, index_slice u22 sz3, bin_ptr u24, bin_bool u4 .eql (Or.inl rfl), bin_bool u4 .neq (Or.inr rfl), s0, s1, s5, s7, s8, s9, s10, s11, w1, w2]
  obtain ⟨t', g, g0, g1, g5, g7, g8⟩ := this
  exact ⟨t', g, ⟨g0.trans s0, g1.trans s1, g5.trans s5, g7, g8.trans s8⟩⟩

theorem p14 (hS : S 13 = []) (h : Sl t room ao n c hb used i) {hf wb wf : Nat} {ws : List Int} (hp : HeapAt m hb hf wb wf ws room) (hu : used = ws.length) :
    ∃ t', execw Try.prog TT S (.seq r3_14 (.cond (.tmp 84) (.seq r3_15 .ret) .skip)) t m = some (.normal, t', m) ∧ Sl t' room ao n c hb used i := by
  obtain ⟨s0, s1, s5, s7, s8⟩ := h
  subst hu
  have hc := used_run hS hp
  have : ∃ t', execw Try.prog TT S (.seq r3_14 (.cond (.tmp 84) (.seq r3_15 .ret) .skip)) t m = some (.normal, t', m) ∧ t'.get 0 = t.get 0 ∧ t'.get 1 = t.get 1 ∧ t'.get 5 = t.get 5 ∧ t'.get 7 = t.get 7 ∧ t'.get 8 = t.get 8 := by
    simp only [r3_14, c3, bodyOf, Try.f3, Code.sub]
    simp [x_seq, x_region, x_cond, x_ret, x_skip, x_exit, sregion_false, sregion_quiet, floatB, quiet, loudB, sops_nil, sops_cons, sop1_plain, sop1_guard, syield, put_some, put_none, ev_tmp, ev_const, fill_nil, fill_cons, o_move, o_assign, o_bin, o_pick, o_nilCheck, o_fieldAddr, o_load, o_len, o_store, o_conv, o_un, o_extract, o_append, o_call, o_buildSlice, o_box, o_alloc, o_build, o_indexAddr, Tree.get_set, s_binOp, fastBin, s_unOp, fastUn, boolEq, sresults, sresultsL, sresult, one_int, one_slice, one_ptr, one_bool, one_str, cells_int, cells_slice, cells_ptr, cells_bool, cells_str, cells_agg, loadRow_new, window, over, -BitVec.toNat_or, -BitVec.toNat_ofInt, -BitVec.toNat_and, fieldAddr_of fa0, fieldAddr_of fa1, load_of ld3, load_of ld34, len_slice u34, store_of sz34, conv_i u3 u29, build_one u34 el29, append_s u34 sz29, append_m u3 u34, box_of b58, build_of bo58, len_slice u22, index_slice u22 sz3, bin_ptr u24, bin_bool u4 .eql (Or.inl rfl), bin_bool u4 .neq (Or.inr rfl), s0, s1, s5, s7, s8, hc]
  obtain ⟨t', g, g0, g1, g5, g7, g8⟩ := this
  exact ⟨t', g, ⟨g0.trans s0, g1.trans s1, g5.trans s5, g7.trans s7, g8.trans s8⟩⟩

theorem p16 (h : Sl t room ao n c hb used i) (hi : i ≤ 60) : ∃ t', execw Try.prog TT S r3_16 t m = some (.normal, t', m) ∧ Sl t' room ao n c hb used (i + 1) := by
  obtain ⟨s0, s1, s5, s7, s8⟩ := h
  have w1 : IntKind.i64.wrap ((i : Int) + 1) = ((i + 1 : Nat) : Int) := by rw [wrap_i64 (by omega) (by omega)]; omega
  have : ∃ t', execw Try.prog TT S r3_16 t m = some (.normal, t', m) ∧ t'.get 0 = t.get 0 ∧ t'.get 1 = t.get 1 ∧ t'.get 5 = t.get 5 ∧ t'.get 7 = t.get 7 ∧ t'.get 8 = some (.int .i64 ((i + 1 : Nat) : Int)) := by
    simp only [r3_16, c3, bodyOf, Try.f3, Code.sub]
    simp [x_seq, x_region, x_cond, x_ret, x_skip, x_exit, sregion_false, sregion_quiet, floatB, quiet, loudB, sops_nil, sops_cons, sop1_plain, sop1_guard, syield, put_some, put_none, ev_tmp, ev_const, fill_nil, fill_cons, o_move, o_assign, o_bin, o_pick, o_nilCheck, o_fieldAddr, o_load, o_len, o_store, o_conv, o_un, o_extract, o_append, o_call, o_buildSlice, o_box, o_alloc, o_build, o_indexAddr, Tree.get_set, s_binOp, fastBin, s_unOp, fastUn, boolEq, sresults, sresultsL, sresult, one_int, one_slice, one_ptr, one_bool, one_str, cells_int, cells_slice, cells_ptr, cells_bool, cells_str, cells_agg, loadRow_new, window, over, -BitVec.toNat_or, -BitVec.toNat_ofInt, -BitVec.toNat_and, fieldAddr_of fa0, fieldAddr_of fa1, load_of ld3, load_of ld34, len_slice u34, store_of sz34, conv_i u3 u29, build_one u34 el29, append_s u34 sz29, append_m u3 u34, box_of b58, build_of bo58, len_slice u22, index_slice u22 sz3, bin_ptr u24, bin_bool u4 .eql (Or.inl rfl), bin_bool u4 .neq (Or.inr rfl), s0, s1, s5, s7, s8, w1]
  obtain ⟨t', g, g0, g1, g5, g7, g8⟩ := this
  exact ⟨t', g, ⟨g0.trans s0, g1.trans s1, g5.trans s5, g7.trans s7, g8⟩⟩
end

/-- a round -/
theorem round_go (hS9 : S 9 = []) (hS12 : S 12 = []) (hS13 : S 13 = []) {t : Tree Value} {room : Int} {ao : Option Addr} {c hb hf wb wf la lf : Nat} {ws zs : List Int} {i : Nat} (h : Sl t room ao zs.length c hb ws.length i) (hp : HeapAt m hb hf wb wf ws room)
    (ha : ao = some ⟨la, 0, none⟩) (hr : Rdo m la (zs.map (Value.int .i64)) 3 lf) (n1 : lf ≠ hf) (n2 : lf ≠ wf) (h1 : i < zs.length) (h2 : i < 60) (h63 : zs.length ≤ 9223372036854775807) (hroom : 0 < room ∧ room ≤ 200) (hw : (ws.length : Int) ≤ room) :
    ∃ t' m' wb' ws', execw Try.prog TT S round3 t m = some (.normal, t', m') ∧ Sl t' room ao zs.length c hb (ws'.length : Nat) (i + 1) ∧ HeapAt m' hb hf wb' wf ws' room ∧ Rdo m' la (zs.map (Value.int .i64)) 3 lf ∧ (ws'.length : Int) ≤ room := by
  obtain ⟨t1, e1, k1⟩ := p7_go (S := S) (m := m) h h1 h2
  obtain ⟨t2, e2, k2, k9⟩ := p8 (m := m) hS9 k1 rfl ha hr h1 h63
  have hk0 : 0 ≤ zs.getD i 0 % 30 := Int.emod_nonneg _ (by omega)
  have hk1 : zs.getD i 0 % 30 < 30 := Int.emod_lt_of_pos _ (by omega)
  generalize zs.getD i 0 % 30 = k at k9 hk0 hk1
  obtain ⟨kn, rfl⟩ : ∃ kn : Nat, k = kn := ⟨k.toNat, by omega⟩
  by_cases hno : noRoom ws room 5 kn
  · have hle : ¬ ((ws.length : Int) + kn + 1 ≤ room) := by unfold noRoom at hno; omega
    obtain ⟨t3, e3, k3⟩ := p9 k2 k9 (alloc_no hS12 hp (by omega) (by omega) hno)
    obtain ⟨t4, e4, k4⟩ := p10 (S := S) (m := m) k3 (by omega) (by omega) (by simp [hle]) (by simp)
    obtain ⟨t5, e5, k5⟩ := p12 (S := S) (m := m) k4 (by omega) (by omega)
    simp only [Bool.false_eq_true, if_false] at k5
    obtain ⟨t6, e6, k6⟩ := p14 (m := m) hS13 k5 hp rfl
    obtain ⟨t7, e7, k7⟩ := p16 (S := S) (m := m) k6 (by omega)
    exact ⟨t7, m, wb, ws, seq_ok e1 (seq_ok (block_ok (seq_ok e2 (seq_ok e3 (seq_ok e4 (seq_ok e5 e6))))) e7), k7, hp, hr, hw⟩
  · have hle : ((ws.length : Int) + kn + 1 ≤ room) := by unfold noRoom at hno; omega
    obtain ⟨m1, wb1, hc, hp1, hk⟩ := alloc_yes hS12 hp (by omega) (by omega) hno
    have hr1 := hr.keep hk (by simp [n1, n2])
    have hlen : (ws ++ [headOf 5 kn] ++ List.replicate kn 0).length = ws.length + kn + 1 := by simp; omega
    obtain ⟨t3, e3, k3⟩ := p9 k2 k9 hc
    obtain ⟨t4, e4, k4⟩ := p10 (S := S) (m := m1) k3 (by omega) (by omega) (by simp [hle]) (by simp)
    obtain ⟨t5, e5, k5⟩ := p12 (S := S) (m := m1) k4 (by omega) (by omega)
    simp only [if_true] at k5
    obtain ⟨t6, e6, k6⟩ := p14 (m := m1) hS13 k5 hp1 (by rw [hlen]; omega)
    obtain ⟨t7, e7, k7⟩ := p16 (S := S) (m := m1) k6 (by omega)
    refine ⟨t7, m1, wb1, _, seq_ok e1 (seq_ok (block_ok (seq_ok e2 (seq_ok e3 (seq_ok e4 (seq_ok e5 e6))))) e7), ?_, hp1, hr1, by rw [hlen]; omega⟩
    rw [hlen]
    have : ((ws.length : Int) + kn + 1) = ((ws.length + kn + 1 : Nat) : Int) := by omega
    rw [← this]
    exact k7

theorem loop_run (hS9 : S 9 = []) (hS12 : S 12 = []) (hS13 : S 13 = []) {room : Int} {ao : Option Addr} {c hb hf wf la lf : Nat} {zs : List Int} (n1 : lf ≠ hf) (n2 : lf ≠ wf) (ha : zs ≠ [] → ao = some ⟨la, 0, none⟩) (h63 : zs.length ≤ 9223372036854775807) (hroom : 0 < room ∧ room ≤ 200) :
    ∀ (d i : Nat) (m : Mem) (t : Tree Value) (wb : Nat) (ws : List Int), 60 - i ≤ d → Sl t room ao zs.length c hb ws.length i → HeapAt m hb hf wb wf ws room → (zs ≠ [] → Rdo m la (zs.map (Value.int .i64)) 3 lf) → (ws.length : Int) ≤ room →
      ∃ t' m', execw Try.prog TT S (.loop round3) t m = some (.exit 0, t', m') := by
  intro d
  induction d with
  | zero =>
    intro i m t wb ws hd h hp hr hw
    obtain ⟨t', e⟩ := p7_end (S := S) (m := m) h (by omega)
    exact ⟨t', m, loop_exit (seq_exit e)⟩
  | succ d ih =>
    intro i m t wb ws hd h hp hr hw
    by_cases hi : i < zs.length ∧ i < 60
    · have hz : zs ≠ [] := by intro e; rw [e] at hi; simp at hi
      obtain ⟨t', m', wb', ws', e, k, hp', hr', hw'⟩ := round_go hS9 hS12 hS13 h hp (ha hz) (hr hz) n1 n2 hi.1 hi.2 h63 hroom hw
      rw [loop_go e]
      exact ih (i + 1) m' t' wb' ws' (by omega) k hp' (fun _ => hr') hw'
    · obtain ⟨t', e⟩ := p7_end (S := S) (m := m) h hi
      exact ⟨t', m, loop_exit (seq_exit e)⟩

theorem law_run (hS9 : S 9 = []) (hS10 : S 10 = []) (hS11 : S 11 = [([], .bool true)]) (hS12 : S 12 = []) (hS13 : S 13 = []) (hS3 : S 3 = []) (x : Int) {zs : List Int} {ao : Option Addr} {c la lf : Nat} (ha : zs ≠ [] → ao = some ⟨la, 0, none⟩) (hlf : lf < m.next)
    (hr : zs ≠ [] → Rdo m la (zs.map (Value.int .i64)) 3 lf) (h63 : zs.length ≤ 9223372036854775807) : ∃ m', callw Try.prog TT S 3 [.int .i64 x, .slice ao zs.length c] m = some (.bool true, m') := by
  have q0 : 0 ≤ x % 200 := Int.emod_nonneg _ (by omega)
  have q1 : x % 200 < 200 := Int.emod_lt_of_pos _ (by omega)
  have hp := fun m' => pick_run (m := m') hS9 x 200 (by omega) (by omega)
  have w1 : IntKind.i64.wrap (1 + x % 200) = 1 + x % 200 := wrap_i64 (by omega) (by omega)
  obtain ⟨m1, hb, wb, hn, hh, hb1, wb1, hk⟩ := new_run (m := m) hS10 (1 + x % 200) (by omega) (by omega)
  have hkn := fun m' => sum_ok (P := Try.prog) (T := TT) (m := m') hS11
  have p0 : ∃ t0, execw Try.prog TT S r3_0 (fill .leaf [.int .i64 x, .slice ao zs.length c] 0) m = some (.normal, t0, m) ∧ t0.get 0 = some (.int .i64 x) ∧ t0.get 1 = some (.slice ao zs.length c) := by
    simp only [r3_0, c3, bodyOf, Try.f3, Code.sub]
    simp [x_seq, x_region, x_cond, x_ret, x_skip, x_exit, sregion_false, sregion_quiet, floatB, quiet, loudB, sops_nil, sops_cons, sop1_plain, sop1_guard, syield, put_some, put_none, ev_tmp, ev_const, fill_nil, fill_cons, o_move, o_assign, o_bin, o_pick, o_nilCheck, o_fieldAddr, o_load, o_len, o_store, o_conv, o_un, o_extract, o_append, o_call, o_buildSlice, o_box, o_alloc, o_build, o_indexAddr, Tree.get_set, s_binOp, fastBin, s_unOp, fastUn, boolEq, sresults, sresultsL, sresult, one_int, one_slice, one_ptr, one_bool, one_str, cells_int, cells_slice, cells_ptr, cells_bool, cells_str, cells_agg, loadRow_new, window, over, -BitVec.toNat_or, -BitVec.toNat_ofInt, -BitVec.toNat_and]
  obtain ⟨t0, e0, a0, a1⟩ := p0
  have p1 : ∃ t1, execw Try.prog TT S r3_1 t0 m = some (.normal, t1, m) ∧ t1.get 0 = some (.int .i64 (1 + x % 200)) ∧ t1.get 1 = some (.slice ao zs.length c) := by
    simp only [r3_1, c3, bodyOf, Try.f3, Code.sub]
    simp [x_seq, x_region, x_cond, x_ret, x_skip, x_exit, sregion_false, sregion_quiet, floatB, quiet, loudB, sops_nil, sops_cons, sop1_plain, sop1_guard, syield, put_some, put_none, ev_tmp, ev_const, fill_nil, fill_cons, o_move, o_assign, o_bin, o_pick, o_nilCheck, o_fieldAddr, o_load, o_len, o_store, o_conv, o_un, o_extract, o_append, o_call, o_buildSlice, o_box, o_alloc, o_build, o_indexAddr, Tree.get_set, s_binOp, fastBin, s_unOp, fastUn, boolEq, sresults, sresultsL, sresult, one_int, one_slice, one_ptr, one_bool, one_str, cells_int, cells_slice, cells_ptr, cells_bool, cells_str, cells_agg, loadRow_new, window, over, -BitVec.toNat_or, -BitVec.toNat_ofInt, -BitVec.toNat_and, fieldAddr_of fa0, fieldAddr_of fa1, load_of ld3, load_of ld34, len_slice u34, store_of sz34, conv_i u3 u29, build_one u34 el29, append_s u34 sz29, append_m u3 u34, box_of b58, build_of bo58, len_slice u22, index_slice u22 sz3, bin_ptr u24, bin_bool u4 .eql (Or.inl rfl), bin_bool u4 .neq (Or.inr rfl), a0, a1, hp, w1]
  obtain ⟨t1, e1, b0, b1⟩ := p1
  have p2 : ∃ t2, execw Try.prog TT S r3_2 t1 m = some (.normal, t2, m1) ∧ t2.get 0 = some (.int .i64 (1 + x % 200)) ∧ t2.get 1 = some (.slice ao zs.length c) ∧ t2.get 5 = some (.pointer (some ⟨hb, 0, none⟩)) ∧ t2.get 6 = some (.int .i64 0) := by
    simp only [r3_2, c3, bodyOf, Try.f3, Code.sub]
    simp [x_seq, x_region, x_cond, x_ret, x_skip, x_exit, sregion_false, sregion_quiet, floatB, quiet, loudB, sops_nil, sops_cons, sop1_plain, sop1_guard, syield, put_some, put_none, ev_tmp, ev_const, fill_nil, fill_cons, o_move, o_assign, o_bin, o_pick, o_nilCheck, o_fieldAddr, o_load, o_len, o_store, o_conv, o_un, o_extract, o_append, o_call, o_buildSlice, o_box, o_alloc, o_build, o_indexAddr, Tree.get_set, s_binOp, fastBin, s_unOp, fastUn, boolEq, sresults, sresultsL, sresult, one_int, one_slice, one_ptr, one_bool, one_str, cells_int, cells_slice, cells_ptr, cells_bool, cells_str, cells_agg, loadRow_new, window, over, -BitVec.toNat_or, -BitVec.toNat_ofInt, -BitVec.toNat_and, fieldAddr_of fa0, fieldAddr_of fa1, load_of ld3, load_of ld34, len_slice u34, store_of sz34, conv_i u3 u29, build_one u34 el29, append_s u34 sz29, append_m u3 u34, box_of b58, build_of bo58, len_slice u22, index_slice u22 sz3, bin_ptr u24, bin_bool u4 .eql (Or.inl rfl), bin_bool u4 .neq (Or.inr rfl), b0, b1, hn]
  obtain ⟨t2, e2, c0, c1, c5, c6⟩ := p2
  have p3 : ∃ t3, execw Try.prog TT S (.seq r3_3 (.cond (.tmp 29) (.seq r3_4 .ret) .skip)) t2 m1 = some (.normal, t3, m1) ∧ t3.get 0 = some (.int .i64 (1 + x % 200)) ∧ t3.get 1 = some (.slice ao zs.length c) ∧ t3.get 5 = some (.pointer (some ⟨hb, 0, none⟩)) := by
    simp only [r3_3, c3, bodyOf, Try.f3, Code.sub]
    simp [x_seq, x_region, x_cond, x_ret, x_skip, x_exit, sregion_false, sregion_quiet, floatB, quiet, loudB, sops_nil, sops_cons, sop1_plain, sop1_guard, syield, put_some, put_none, ev_tmp, ev_const, fill_nil, fill_cons, o_move, o_assign, o_bin, o_pick, o_nilCheck, o_fieldAddr, o_load, o_len, o_store, o_conv, o_un, o_extract, o_append, o_call, o_buildSlice, o_box, o_alloc, o_build, o_indexAddr, Tree.get_set, s_binOp, fastBin, s_unOp, fastUn, boolEq, sresults, sresultsL, sresult, one_int, one_slice, one_ptr, one_bool, one_str, cells_int, cells_slice, cells_ptr, cells_bool, cells_str, cells_agg, loadRow_new, window, over, -BitVec.toNat_or, -BitVec.toNat_ofInt, -BitVec.toNat_and, fieldAddr_of fa0, fieldAddr_of fa1, load_of ld3, load_of ld34, len_slice u34, store_of sz34, conv_i u3 u29, build_one u34 el29, append_s u34 sz29, append_m u3 u34, box_of b58, build_of bo58, len_slice u22, index_slice u22 sz3, bin_ptr u24, bin_bool u4 .eql (Or.inl rfl), bin_bool u4 .neq (Or.inr rfl), c0, c1, c5, c6, hkn]
  obtain ⟨t3, e3, d0, d1, d5⟩ := p3
  have p5 : ∃ t5, execw Try.prog TT S r3_5 t3 m1 = some (.normal, t5, m1) ∧ t5.get 0 = some (.int .i64 (1 + x % 200)) ∧ t5.get 1 = some (.slice ao zs.length c) ∧ t5.get 5 = some (.pointer (some ⟨hb, 0, none⟩)) ∧ t5.get 7 = some (.int .i64 1) := by
    simp only [r3_5, c3, bodyOf, Try.f3, Code.sub]
    simp [x_seq, x_region, x_cond, x_ret, x_skip, x_exit, sregion_false, sregion_quiet, floatB, quiet, loudB, sops_nil, sops_cons, sop1_plain, sop1_guard, syield, put_some, put_none, ev_tmp, ev_const, fill_nil, fill_cons, o_move, o_assign, o_bin, o_pick, o_nilCheck, o_fieldAddr, o_load, o_len, o_store, o_conv, o_un, o_extract, o_append, o_call, o_buildSlice, o_box, o_alloc, o_build, o_indexAddr, Tree.get_set, s_binOp, fastBin, s_unOp, fastUn, boolEq, sresults, sresultsL, sresult, one_int, one_slice, one_ptr, one_bool, one_str, cells_int, cells_slice, cells_ptr, cells_bool, cells_str, cells_agg, loadRow_new, window, over, -BitVec.toNat_or, -BitVec.toNat_ofInt, -BitVec.toNat_and, d0, d1, d5]
  obtain ⟨t5, e5, f0, f1, f5, f7⟩ := p5
  have p6 : ∃ t6, execw Try.prog TT S r3_6 t5 m1 = some (.normal, t6, m1) ∧ t6.get 0 = some (.int .i64 (1 + x % 200)) ∧ t6.get 1 = some (.slice ao zs.length c) ∧ t6.get 5 = some (.pointer (some ⟨hb, 0, none⟩)) ∧ t6.get 7 = some (.int .i64 1) ∧ t6.get 8 = some (.int .i64 0) := by
    simp only [r3_6, c3, bodyOf, Try.f3, Code.sub]
    simp [x_seq, x_region, x_cond, x_ret, x_skip, x_exit, sregion_false, sregion_quiet, floatB, quiet, loudB, sops_nil, sops_cons, sop1_plain, sop1_guard, syield, put_some, put_none, ev_tmp, ev_const, fill_nil, fill_cons, o_move, o_assign, o_bin, o_pick, o_nilCheck, o_fieldAddr, o_load, o_len, o_store, o_conv, o_un, o_extract, o_append, o_call, o_buildSlice, o_box, o_alloc, o_build, o_indexAddr, Tree.get_set, s_binOp, fastBin, s_unOp, fastUn, boolEq, sresults, sresultsL, sresult, one_int, one_slice, one_ptr, one_bool, one_str, cells_int, cells_slice, cells_ptr, cells_bool, cells_str, cells_agg, loadRow_new, window, over, -BitVec.toNat_or, -BitVec.toNat_ofInt, -BitVec.toNat_and, f0, f1, f5, f7]
  obtain ⟨t6, e6, g0, g1, g5, g7, g8⟩ := p6
  obtain ⟨t7, m7, e7⟩ := loop_run (S := S) (room := 1 + x % 200) (hf := hb) (wf := wb) hS9 hS12 hS13 (by omega) (by omega) ha h63 (by omega) 60 0 m1 t6 wb [0] (by omega) ⟨g0, g1, g5, g7, g8⟩ hh (fun hz => (hr hz).keep hk (by simp)) (by simp; omega)
  have p8 : ∃ t8, execw Try.prog TT S (.seq r3_17 .ret) t7 m7 = some (.ret, t8, m7) ∧ t8.get 4 = some (.bool true) := by
    simp only [r3_17, c3, bodyOf, Try.f3, Code.sub]
    simp [x_seq, x_region, x_cond, x_ret, x_skip, x_exit, sregion_false, sregion_quiet, floatB, quiet, loudB, sops_nil, sops_cons, sop1_plain, sop1_guard, syield, put_some, put_none, ev_tmp, ev_const, fill_nil, fill_cons, o_move, o_assign, o_bin, o_pick, o_nilCheck, o_fieldAddr, o_load, o_len, o_store, o_conv, o_un, o_extract, o_append, o_call, o_buildSlice, o_box, o_alloc, o_build, o_indexAddr, Tree.get_set, s_binOp, fastBin, s_unOp, fastUn, boolEq, sresults, sresultsL, sresult, one_int, one_slice, one_ptr, one_bool, one_str, cells_int, cells_slice, cells_ptr, cells_bool, cells_str, cells_agg, loadRow_new, window, over, -BitVec.toNat_or, -BitVec.toNat_ofInt, -BitVec.toNat_and]
  obtain ⟨t8, e8, n4⟩ := p8
  refine ⟨m7, call_ok (c := c3) tt3 (by simp only [Try.f3, c3, bodyOf]) hS3 (by simp [Try.f3]) (Or.inr rfl) (t' := t8) ?_ (by simp [sresults, sresultsL, sresult, Try.f3, n4])⟩
  rw [body3]
  exact seq_ok e0 (seq_ok e1 (seq_ok e2 (seq_ok e3 (seq_ok e5 (seq_ok (seq_ok e6 (block_exit e7)) e8)))))

/- the row -/
open Go.ChangeShapes Go.WideShapes Go.ChangeAt Go.RowKit
theorem own : ownKnob Try.prog.godebug = none := by kernel_rfl
theorem mixed : Try.prog.follows .mixedOrders = true := by kernel_rfl
theorem tab : Sh.tabCheck Try.prog fns = true := by kernel_rfl
theorem known : Sh.isVal (.bool true) (Sh.call Try.prog (Sh.tabOf Try.prog fns) Sh.noSums 100000 11 [] (Sh.memG Try.prog [])) = true := by kernel_rfl
def sums : Sums := fun f => if f = 11 then [([], .bool true)] else []
theorem sumsOk : SumsOk Try.prog sums := by
  intro f p hp
  unfold sums at hp
  split at hp
  · rename_i hf
    subst hf
    simp only [List.mem_cons, List.not_mem_nil, or_false] at hp
    subst hp
    exact ⟨rfl, rfl, ⟨Try.f11, Try.func11, by kernel_rfl, by kernel_rfl⟩, fun w => Sh.closed_val mixed (Sh.tab_ok tab) (Sh.noSums_ok _) 100000 11 Try.func11 (by kernel_rfl) (gs := []) (by kernel_rfl) (by kernel_rfl) known w (fun p hp => by simp at hp)⟩
  · simp at hp

theorem walk (w : World) (x : Int) {v : Value} (hv : v = .slice none 0 0 ∨ ∃ (s : SArg) (zs : List Int), s.Ok Try.prog w ∧ s.cells = zs.map (Value.int .i64) ∧ s.n = zs.length ∧ s.e = 3 ∧ s.z = 1 ∧ v = .slice (some s.a) s.n s.cap ∧ ∀ n ∈ zs, (Lit.int .i64 n).wf = true) :
    Calls Try.prog 3 #[.int .i64 x, v] w fun e w' => e = .returned (.bool true) ∧ Below w.heap.size w w' := by
  have hx : ∀ J, VRel J (.int .i64 x) (.int .i64 x) := fun J => .clo _ rfl
  rcases hv with rfl | ⟨s, zs, hs, h1, h2, h3, h4, rfl, h5⟩
  · obtain ⟨m', h⟩ := law_run (S := sums) (m := Sh.addArg (mem0 Try.prog) ⟨[], 3, ⟨0, 0, none⟩, 0, 0, 1⟩) rfl rfl rfl rfl rfl rfl x (zs := []) (ao := none) (c := 0) (la := 0) (lf := 0) (fun h => absurd rfl h) (by rw [addArg_next]; omega) (fun h => absurd rfl h) (by simp)
    have hok : (⟨[], 3, ⟨0, 0, none⟩, 0, 0, 1⟩ : SArg).Ok Try.prog w := ⟨Option.map_eq_some_iff.1 sz3, rfl, Nat.le_refl _, by simp, fun h => absurd rfl h, fun h => absurd rfl h, fun i v hv => by simp at hv⟩
    exact calls_of mixed (Sh.tab_ok tab) sumsOk Try.func3 (by kernel_rfl) h rfl ((start_rel Try.prog w).addArg hok) (.cons (hx _) (.cons (.clo _ rfl) LRel.nil))
  · have hM := start_rel Try.prog w
    obtain ⟨m', h⟩ := law_run (S := sums) (m := Sh.addArg (mem0 Try.prog) s) rfl rfl rfl rfl rfl rfl x (zs := zs) (ao := some ⟨(mem0 Try.prog).next, 0, none⟩) (c := zs.length) (la := (mem0 Try.prog).next) (lf := (mem0 Try.prog).next) (fun _ => rfl) (by rw [addArg_next]; omega)
      (fun hz => by
        obtain ⟨g1, g2⟩ := arg_rdo (m := mem0 Try.prog) (s := s) (by rw [h1]; simpa using hz)
        refine ⟨?_, ⟨_, g2, Nat.le_refl _⟩, by rw [addArg_next]; omega, by rw [addArg_next]; omega⟩
        rw [g1, h1, h3]) (by have := hs.le; have := hs.max; omega)
    have hr := arg_rel hM hs
    unfold SArg.val at hr
    rw [h2] at hr ⊢
    exact calls_of mixed (Sh.tab_ok tab) sumsOk Try.func3 (by kernel_rfl) h rfl (hM.addArg hs) (.cons (hx _) (.cons hr LRel.nil))

theorem laidOut : laidOutB Try.prog = true := by kernel_rfl

theorem lifted (os : Os) (started : os.Started) (H : Type) (enc : TypeId × Value → H) :
    ReturnsInHanded {} Try.checked os 3 .any (Rows.heapFullSpec.pre6 enc Try.prog Try.f3 Rows.heapFullRow.domain false) (Rows.heapFullSpec.post enc Try.prog Try.f3 false true false false) := by
  refine returnsInHanded_of_change (C := Try.checked) own started (by kernel_rfl) Try.func3
    (ChangeSpec.witness6 (enc := enc) (C := Try.checked) false ⟨#[], #[.int .i64 0, .slice none 0 0], []⟩ 8 (by kernel_rfl) (by kernel_rfl) (by kernel_rfl) (by kernel_rfl)) ?_
  intro W base args ds gs before hval0 hW hcnd _
  have hval : ∀ (j : Nat) t v, Try.f3.params[j]? = some t → args[j]? = some v → Value.okWide Try.prog W .any base t v := hval0
  have hW' := hW
  obtain ⟨p, q, hA0, hV, rfl, hfz, hnd⟩ := hW
  have hA : DataW.TrodAll enc Try.prog W 0 (fun _ => true) true Try.f3.params.toList args.toList ds p := hA0
  rw [Try.params3] at hA hval
  obtain ⟨v0, v1, d0, d1, p0, p1, rfl, rfl, rfl, t0, t1⟩ := trodAll_two hA
  obtain ⟨rfl, rfl⟩ := trodVars_none hV
  obtain ⟨x, rfl, rfl, rfl, hx⟩ := open_int u3 (hval 0 _ _ rfl rfl) t0
  obtain ⟨i3, hi3, hz3⟩ := Option.map_eq_some_iff.1 sz3
  have hv1 := ints_arg u22 u3 hi3 hz3 (hval 1 _ _ rfl rfl) t1
  clear hA0 hval0
  simp only [List.append_nil, List.nil_append] at hW'
  refine (walk W x hv1).mono fun e W' ⟨he, hg⟩ => ?_
  subst he
  have hlt : ∀ z ∈ p1, z.block < W.heap.size := fun z hz => by simpa using hW'.lt z hz
  exact ⟨_, rfl, Sh.law_post (pa := [] ++ p1) (pv := []) hW' hg (by simp) (fun sp hsp => trodAll_mk2 (shut_int u3 hx) (WideElems.Trod_stays laidOut (by kernel_rfl) (of_decide_eq_true (by kernel_rfl)) t1 (fun z hz => hg.same (hlt z hz)) (fun z hz => hsp z (by simpa using hz)))) (fun _ _ => rfl) (fun _ _ _ => (trodAll_cons_mk (shut_bool u4 _) trodAll_mk0))
    (ok_one (by kernel_rfl) rfl (okWide_bool_mk u4 _))⟩

theorem over : Rows.heapFullRow.holds Try.pinned (OpenSpec.ofChange Rows.heapFullSpec) :=
  OpenClaim.holds_of_wide 3 Try.f3 rfl rfl rfl rfl rfl rfl rfl ⟨rfl, rfl, rfl, rfl, rfl⟩ rfl rfl rfl rfl rfl (by kernel_rfl) Try.func3 (by kernel_rfl)
    (of_decide_eq_true (by kernel_rfl)) (by unfold Func.isWrapper; first | (rw [if_pos (by decide +kernel)]; kernel_rfl) | (rw [if_neg (by decide +kernel)]; exact ⟨rfl, rfl⟩))
    (fun os started H enc _ => lifted os started H enc)

theorem proved : Rows.HeapFullSaid :=
  over
#print axioms proved
end Go.Proofs.Ytmehepbejckmlaa.heapFull

