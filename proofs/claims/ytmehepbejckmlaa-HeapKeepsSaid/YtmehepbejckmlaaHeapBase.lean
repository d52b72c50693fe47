/-
  This text proves what the functions of package heap do over the abstract run: New, Alloc, Used, Word, Put, Words, Copy, and the laws' own Pick and words.
  Condition: nothing is known of their calls ahead ('S f = []').
-/
import Derived.Test.YtmehepbejckmlaaProg
import Derived.Test.YtmehepbejckmlaaShC
set_option maxRecDepth 100000
set_option linter.unusedSimpArgs false
set_option linter.unusedVariables false
namespace Go.Proofs.Ytmehepbejckmlaa.heapBase
open Go.Sh
variable {S : Sums} {m : Mem}
/-- the functions that are walked, and those of the example -/
def fns : List FuncId := [3, 4, 5, 6, 8, 9, 10, 11, 12, 13, 14, 15, 16, 17, 18, 19, 20, 21, 22, 23, 24, 25, 26, 27, 28, 29, 30, 31, 32, 33, 34, 35, 36, 37]
noncomputable def TT : FuncId → Option Func := Sh.tabOf Try.prog fns
theorem tt4 : TT 4 = some Try.f4 := by kernel_rfl
theorem tt5 : TT 5 = some Try.f5 := by kernel_rfl
theorem tt6 : TT 6 = some Try.f6 := by kernel_rfl
theorem tt8 : TT 8 = some Try.f8 := by kernel_rfl
theorem tt9 : TT 9 = some Try.f9 := by kernel_rfl
theorem tt10 : TT 10 = some Try.f10 := by kernel_rfl
theorem tt12 : TT 12 = some Try.f12 := by kernel_rfl
theorem tt13 : TT 13 = some Try.f13 := by kernel_rfl
theorem tt14 : TT 14 = some Try.f14 := by kernel_rfl
theorem tt15 : TT 15 = some Try.f15 := by kernel_rfl
theorem tt16 : TT 16 = some Try.f16 := by kernel_rfl
theorem tt17 : TT 17 = some Try.f17 := by kernel_rfl
theorem tt18 : TT 18 = some Try.f18 := by kernel_rfl
theorem tt19 : TT 19 = some Try.f19 := by kernel_rfl
theorem tt20 : TT 20 = some Try.f20 := by kernel_rfl
theorem tt21 : TT 21 = some Try.f21 := by kernel_rfl
theorem tt22 : TT 22 = some Try.f22 := by kernel_rfl
theorem tt23 : TT 23 = some Try.f23 := by kernel_rfl
theorem tt24 : TT 24 = some Try.f24 := by kernel_rfl
theorem tt36 : TT 36 = some Try.f36 := by kernel_rfl
theorem tt37 : TT 37 = some Try.f37 := by kernel_rfl

theorem u3 : Try.prog.underlying 3 = some (.int .i64) := by kernel_rfl
theorem u4 : Try.prog.underlying 4 = some .bool := by kernel_rfl
theorem u22 : Try.prog.underlying 22 = some (.slice 3) := by kernel_rfl
theorem u24 : Try.prog.underlying 24 = some (.pointer 58) := by kernel_rfl
theorem u29 : Try.prog.underlying 29 = some (.int .u64) := by kernel_rfl
theorem u34 : Try.prog.underlying 34 = some (.slice 29) := by kernel_rfl
theorem fa0 : faOk Try.prog 58 0 0 = true := by kernel_rfl
theorem fa1 : faOk Try.prog 58 1 1 = true := by kernel_rfl
theorem ld3 : ldOk Try.prog 3 = true := by kernel_rfl
theorem ld29 : ldOk Try.prog 29 = true := by kernel_rfl
theorem ld34 : ldOk Try.prog 34 = true := by kernel_rfl
theorem sz3 : sizeOfT Try.prog 3 = some 1 := by kernel_rfl
theorem sz34 : sizeOfT Try.prog 34 = some 1 := by kernel_rfl
theorem sz29 : sizeOfT Try.prog 29 = some 1 := by kernel_rfl
theorem ap29 : apOk Try.prog 29 1 8 = true := by kernel_rfl
theorem el29 : elOk Try.prog 29 = true := by kernel_rfl
theorem z29 : zOk Try.prog 29 8 (.int .u64 0) = true := by kernel_rfl
theorem b58 : (Try.prog.info? 58).isSome = true := by kernel_rfl
theorem bo58 : buildOk Try.prog 58 [.slice none 0 0, .int .i64 0] [(0, 1), (1, 1)] = true := by kernel_rfl

def words (ws : List Int) : List Value := ws.map (Value.int .u64)
/-- the heap's struct in a block, its words in another -/
structure HeapAt (m : Mem) (hb hf wb wf : Nat) (ws : List Int) (room : Int) : Prop where
  h : Own m hb [.slice (some ⟨wb, 0, none⟩) ws.length ws.length, .int .i64 room] 58 hf
  w : Own m wb (words ws) 29 wf
  ne : hf ≠ wf

theorem used_run (hS : S 13 = []) {hb hf wb wf : Nat} {ws : List Int} {room : Int} (h : HeapAt m hb hf wb wf ws room) : callw Try.prog TT S 13 [.pointer (some ⟨hb, 0, none⟩)] m = some (.int .i64 ws.length, m) := by
  have l0 := h.h.load1 (off := 0) rfl
  rw [x_call tt13 (by simp only [Try.f13]; rfl) hS _ (by simp [Try.f13])]
  simp [x_seq, x_region, x_cond, x_ret, x_skip, x_exit, sregion_false, sregion_quiet, floatB, quiet, loudB, sops_nil, sops_cons, sop1_plain, sop1_guard, syield, put_some, put_none, ev_tmp, ev_const, fill_nil, fill_cons, o_move, o_assign, o_bin, o_pick, o_nilCheck, o_fieldAddr, o_load, o_len, o_store, o_conv, o_un, o_extract, o_append, o_call, o_buildSlice, o_box, o_alloc, o_build, o_indexAddr, Tree.get_set, s_binOp, fastBin, s_unOp, fastUn, boolEq, sresults, sresultsL, sresult, one_int, one_slice, one_ptr, one_bool, one_str, cells_int, cells_slice, cells_ptr, cells_bool, cells_str, cells_agg, loadRow_new, window, over, -BitVec.toNat_or, -BitVec.toNat_ofInt, -BitVec.toNat_and, fieldAddr_of fa0, fieldAddr_of fa1, load_of ld3, load_of ld34, len_slice u34, store_of sz34, conv_i u3 u29, build_one u34 el29, append_s u34 sz29, append_m u3 u34, box_of b58, build_of bo58, len_slice u22, index_slice u22 sz3, bin_ptr u24, bin_bool u4 .eql (Or.inl rfl), bin_bool u4 .neq (Or.inr rfl), load_of ld29, store_of sz29, index_slice u34 sz29, l0, Tree.get_set, s_binOp, fastBin, sresults, sresultsL, sresult, Try.f13]

noncomputable def c12 : Code := bodyOf Try.f12
noncomputable def r12_0 : Code := Code.sub [0] c12
noncomputable def r12_1 : Code := Code.sub [1, 0, 0] c12
noncomputable def r12_2 : Code := Code.sub [1, 0, 1, 0, 0] c12
noncomputable def r12_3 : Code := Code.sub [1, 1, 0] c12
noncomputable def r12_4 : Code := Code.sub [1, 1, 1, 0] c12
noncomputable def r12_5 : Code := Code.sub [1, 1, 1, 1, 0] c12
noncomputable def r12_6 : Code := Code.sub [1, 1, 1, 1, 1, 0] c12
theorem body12 : c12 = (.seq r12_0 (.seq (.seq r12_1 (.cond (.tmp 36) (.seq r12_2 .ret) .skip)) (.seq r12_3 (.seq r12_4 (.seq r12_5 (.seq r12_6 .ret)))))) := by kernel_rfl
/-- what Alloc asks first -/
def noRoom (ws : List Int) (room t n : Int) : Prop := t < 0 ∨ 1048576 < t ∨ n < 0 ∨ 1048576 < n ∨ room - ws.length ≤ n

theorem alloc_no (hS : S 12 = []) {hb hf wb wf : Nat} {ws : List Int} {room t n : Int} (h : HeapAt m hb hf wb wf ws room)
    (hr : 0 < room ∧ room ≤ 65536) (hw : ws.length ≤ 65536) (hno : noRoom ws room t n) :
    callw Try.prog TT S 12 [.pointer (some ⟨hb, 0, none⟩), .int .i64 t, .int .i64 n] m = some (.tuple #[.int .u64 0, .bool false], m) := by
  have l0 := h.h.load1 (off := 0) rfl
  have l1 := h.h.load1 (off := 1) rfl
  have hwr : IntKind.i64.wrap (room - ws.length) = room - ws.length := wrap_i64 (by omega) (by omega)
  rw [x_call tt12 (by simp only [Try.f12]; rfl) hS _ (by simp [Try.f12])]
  unfold noRoom at hno
  by_cases a1 : t < 0
  · simp [x_seq, x_region, x_cond, x_ret, x_skip, x_exit, sregion_false, sregion_quiet, floatB, quiet, loudB, sops_nil, sops_cons, sop1_plain, sop1_guard, syield, put_some, put_none, ev_tmp, ev_const, fill_nil, fill_cons, o_move, o_assign, o_bin, o_pick, o_nilCheck, o_fieldAddr, o_load, o_len, o_store, o_conv, o_un, o_extract, o_append, o_call, o_buildSlice, o_box, o_alloc, o_build, o_indexAddr, Tree.get_set, s_binOp, fastBin, s_unOp, fastUn, boolEq, sresults, sresultsL, sresult, one_int, one_slice, one_ptr, one_bool, one_str, cells_int, cells_slice, cells_ptr, cells_bool, cells_str, cells_agg, loadRow_new, window, over, -BitVec.toNat_or, -BitVec.toNat_ofInt, -BitVec.toNat_and, fieldAddr_of fa0, fieldAddr_of fa1, load_of ld3, load_of ld34, len_slice u34, store_of sz34, conv_i u3 u29, build_one u34 el29, append_s u34 sz29, append_m u3 u34, box_of b58, build_of bo58, len_slice u22, index_slice u22 sz3, bin_ptr u24, bin_bool u4 .eql (Or.inl rfl), bin_bool u4 .neq (Or.inr rfl), load_of ld29, store_of sz29, index_slice u34 sz29, l0, l1, a1, Try.f12]
  by_cases a2 : 1048576 < t
  · simp [x_seq, x_region, x_cond, x_ret, x_skip, x_exit, sregion_false, sregion_quiet, floatB, quiet, loudB, sops_nil, sops_cons, sop1_plain, sop1_guard, syield, put_some, put_none, ev_tmp, ev_const, fill_nil, fill_cons, o_move, o_assign, o_bin, o_pick, o_nilCheck, o_fieldAddr, o_load, o_len, o_store, o_conv, o_un, o_extract, o_append, o_call, o_buildSlice, o_box, o_alloc, o_build, o_indexAddr, Tree.get_set, s_binOp, fastBin, s_unOp, fastUn, boolEq, sresults, sresultsL, sresult, one_int, one_slice, one_ptr, one_bool, one_str, cells_int, cells_slice, cells_ptr, cells_bool, cells_str, cells_agg, loadRow_new, window, over, -BitVec.toNat_or, -BitVec.toNat_ofInt, -BitVec.toNat_and, fieldAddr_of fa0, fieldAddr_of fa1, load_of ld3, load_of ld34, len_slice u34, store_of sz34, conv_i u3 u29, build_one u34 el29, append_s u34 sz29, append_m u3 u34, box_of b58, build_of bo58, len_slice u22, index_slice u22 sz3, bin_ptr u24, bin_bool u4 .eql (Or.inl rfl), bin_bool u4 .neq (Or.inr rfl), load_of ld29, store_of sz29, index_slice u34 sz29, l0, l1, a1, a2, Try.f12]
  by_cases a3 : n < 0
  · simp [x_seq, x_region, x_cond, x_ret, x_skip, x_exit, sregion_false, sregion_quiet, floatB, quiet, loudB, sops_nil, sops_cons, sop1_plain, sop1_guard, syield, put_some, put_none, ev_tmp, ev_const, fill_nil, fill_cons, o_move, o_assign, o_bin, o_pick, o_nilCheck, o_fieldAddr, o_load, o_len, o_store, o_conv, o_un, o_extract, o_append, o_call, o_buildSlice, o_box, o_alloc, o_build, o_indexAddr, Tree.get_set, s_binOp, fastBin, s_unOp, fastUn, boolEq, sresults, sresultsL, sresult, one_int, one_slice, one_ptr, one_bool, one_str, cells_int, cells_slice, cells_ptr, cells_bool, cells_str, cells_agg, loadRow_new, window, over, -BitVec.toNat_or, -BitVec.toNat_ofInt, -BitVec.toNat_and, fieldAddr_of fa0, fieldAddr_of fa1, load_of ld3, load_of ld34, len_slice u34, store_of sz34, conv_i u3 u29, build_one u34 el29, append_s u34 sz29, append_m u3 u34, box_of b58, build_of bo58, len_slice u22, index_slice u22 sz3, bin_ptr u24, bin_bool u4 .eql (Or.inl rfl), bin_bool u4 .neq (Or.inr rfl), load_of ld29, store_of sz29, index_slice u34 sz29, l0, l1, a1, a2, a3, Try.f12]
  by_cases a4 : 1048576 < n
  · simp [x_seq, x_region, x_cond, x_ret, x_skip, x_exit, sregion_false, sregion_quiet, floatB, quiet, loudB, sops_nil, sops_cons, sop1_plain, sop1_guard, syield, put_some, put_none, ev_tmp, ev_const, fill_nil, fill_cons, o_move, o_assign, o_bin, o_pick, o_nilCheck, o_fieldAddr, o_load, o_len, o_store, o_conv, o_un, o_extract, o_append, o_call, o_buildSlice, o_box, o_alloc, o_build, o_indexAddr, Tree.get_set, s_binOp, fastBin, s_unOp, fastUn, boolEq, sresults, sresultsL, sresult, one_int, one_slice, one_ptr, one_bool, one_str, cells_int, cells_slice, cells_ptr, cells_bool, cells_str, cells_agg, loadRow_new, window, over, -BitVec.toNat_or, -BitVec.toNat_ofInt, -BitVec.toNat_and, fieldAddr_of fa0, fieldAddr_of fa1, load_of ld3, load_of ld34, len_slice u34, store_of sz34, conv_i u3 u29, build_one u34 el29, append_s u34 sz29, append_m u3 u34, box_of b58, build_of bo58, len_slice u22, index_slice u22 sz3, bin_ptr u24, bin_bool u4 .eql (Or.inl rfl), bin_bool u4 .neq (Or.inr rfl), load_of ld29, store_of sz29, index_slice u34 sz29, l0, l1, a1, a2, a3, a4, Try.f12]
  have a5 : room - ws.length ≤ n := by omega
  simp [x_seq, x_region, x_cond, x_ret, x_skip, x_exit, sregion_false, sregion_quiet, floatB, quiet, loudB, sops_nil, sops_cons, sop1_plain, sop1_guard, syield, put_some, put_none, ev_tmp, ev_const, fill_nil, fill_cons, o_move, o_assign, o_bin, o_pick, o_nilCheck, o_fieldAddr, o_load, o_len, o_store, o_conv, o_un, o_extract, o_append, o_call, o_buildSlice, o_box, o_alloc, o_build, o_indexAddr, Tree.get_set, s_binOp, fastBin, s_unOp, fastUn, boolEq, sresults, sresultsL, sresult, one_int, one_slice, one_ptr, one_bool, one_str, cells_int, cells_slice, cells_ptr, cells_bool, cells_str, cells_agg, loadRow_new, window, over, -BitVec.toNat_or, -BitVec.toNat_ofInt, -BitVec.toNat_and, fieldAddr_of fa0, fieldAddr_of fa1, load_of ld3, load_of ld34, len_slice u34, store_of sz34, conv_i u3 u29, build_one u34 el29, append_s u34 sz29, append_m u3 u34, box_of b58, build_of bo58, len_slice u22, index_slice u22 sz3, bin_ptr u24, bin_bool u4 .eql (Or.inl rfl), bin_bool u4 .neq (Or.inr rfl), load_of ld29, store_of sz29, index_slice u34 sz29, l0, l1, hwr, a1, a2, a3, a4, a5, Try.f12]

/-- the head that Alloc lays -/
def headOf (t n : Int) : Int := IntKind.u64.wrap (BitVec.ofInt IntKind.u64.bits (IntKind.u64.wrap (IntKind.u64.wrap t * 2 ^ (min 32 IntKind.u64.bits))) ||| BitVec.ofInt IntKind.u64.bits (IntKind.u64.wrap n)).toNat

theorem alloc_head (t0 : Tree Value) {hb hf wb wf : Nat} {ws : List Int} {room t n : Int} (h : HeapAt m hb hf wb wf ws room) (h0 : t0.get 0 = some (.pointer (some ⟨hb, 0, none⟩))) (h1 : t0.get 1 = some (.int .i64 t)) (h2 : t0.get 2 = some (.int .i64 n)) (hw : ws.length ≤ 65536) :
    ∃ t1 m1, execw Try.prog TT S r12_4 t0 m = some (.normal, t1, m1) ∧ (∃ wb', HeapAt m1 hb hf wb' wf (ws ++ [headOf t n]) room) ∧ Keeps m m1 [hf, wf] ∧
      t1.get 0 = t0.get 0 ∧ t1.get 1 = t0.get 1 ∧ t1.get 2 = t0.get 2 ∧ t1.get 8 = t0.get 8 := by
  have l0 := h.h.load1 (off := 0) rfl
  have hs0 : ∀ v, one v = true → sappend Try.prog 34 (m.new [v] 29) (.slice (some ⟨wb, 0, none⟩) ws.length ws.length) [v] 1 = some (.slice (some ⟨(m.new [v] 29).next, 0, none⟩) (ws.length + 1) (ws.length + 1), (m.new [v] 29).grow ⟨words ws, 29, wf⟩ (words ws ++ [v]) true) := by
    intro v hv
    exact sappend_full u34 ap29 (h.w.new_other [v] 29) (by simp [words]) (by omega) rfl (by simp [hv]) (by omega) (by omega)
  have hs := fun x => hs0 (.int .u64 x) rfl
  have hst0 : ∀ v x, one x = true → storeRow ((m.new [v] 29).grow ⟨words ws, 29, wf⟩ (words ws ++ [v]) true) ⟨hb, 0, none⟩ [x] = some (((m.new [v] 29).grow ⟨words ws, 29, wf⟩ (words ws ++ [v]) true).put hb ⟨[.slice (some ⟨wb, 0, none⟩) ws.length ws.length, .int .i64 room], 58, hf⟩ [x, .int .i64 room]) := by
    intro v x hx
    exact (((h.w.new_other [v] 29).grow_other (h.h.new_other [v] 29) h.ne _ _)).store (vs := [x]) (by simp) (by simp [hx])
  have hst := fun y a n c => hst0 (.int .u64 y) (.slice a n c) rfl
  clear hs0 hst0
  have e : ∃ t1, execw Try.prog TT S r12_4 t0 m = some (.normal, t1, ((m.new [.int .u64 (headOf t n)] 29).grow ⟨words ws, 29, wf⟩ (words ws ++ [.int .u64 (headOf t n)]) true).put hb ⟨[.slice (some ⟨wb, 0, none⟩) ws.length ws.length, .int .i64 room], 58, hf⟩
      [.slice (some ⟨(m.new [.int .u64 (headOf t n)] 29).next, 0, none⟩) (ws.length + 1) (ws.length + 1), .int .i64 room]) ∧ t1.get 0 = t0.get 0 ∧ t1.get 1 = t0.get 1 ∧ t1.get 2 = t0.get 2 ∧ t1.get 8 = t0.get 8 := by
    simp only [r12_0, r12_1, r12_2, r12_3, r12_4, r12_5, r12_6, c12, bodyOf, Try.f12, Code.sub, headOf]
    simp [x_seq, x_region, x_cond, x_ret, x_skip, x_exit, sregion_false, sregion_quiet, floatB, quiet, loudB, sops_nil, sops_cons, sop1_plain, sop1_guard, syield, put_some, put_none, ev_tmp, ev_const, fill_nil, fill_cons, o_move, o_assign, o_bin, o_pick, o_nilCheck, o_fieldAddr, o_load, o_len, o_store, o_conv, o_un, o_extract, o_append, o_call, o_buildSlice, o_box, o_alloc, o_build, o_indexAddr, Tree.get_set, s_binOp, fastBin, s_unOp, fastUn, boolEq, sresults, sresultsL, sresult, one_int, one_slice, one_ptr, one_bool, one_str, cells_int, cells_slice, cells_ptr, cells_bool, cells_str, cells_agg, loadRow_new, window, over, -BitVec.toNat_or, -BitVec.toNat_ofInt, -BitVec.toNat_and, fieldAddr_of fa0, fieldAddr_of fa1, load_of ld3, load_of ld34, len_slice u34, store_of sz34, conv_i u3 u29, build_one u34 el29, append_s u34 sz29, append_m u3 u34, box_of b58, build_of bo58, len_slice u22, index_slice u22 sz3, bin_ptr u24, bin_bool u4 .eql (Or.inl rfl), bin_bool u4 .neq (Or.inr rfl), load_of ld29, store_of sz29, index_slice u34 sz29, l0, h0, h1, h2, loadRow_new, window, hs, hst]
  obtain ⟨t1, e, g0, g1, g2, g3⟩ := e
  refine ⟨t1, _, e, ⟨(m.new [.int .u64 (headOf t n)] 29).next, ?_⟩, ?_, g0, g1, g2, g3⟩
  · have hn := h.w.new_other [.int .u64 (headOf t n)] 29
    have hh := h.h.new_other [.int .u64 (headOf t n)] 29
    have hg := hn.grow_other hh h.ne (words ws ++ [.int .u64 (headOf t n)]) true
    refine ⟨?_, ?_, h.ne⟩
    · have := hg.put [.slice (some ⟨(m.new [.int .u64 (headOf t n)] 29).next, 0, none⟩) (ws.length + 1) (ws.length + 1), .int .i64 room]
      simpa using this
    · have := hg.put_other (hn.grow (words ws ++ [.int .u64 (headOf t n)]) true) h.ne.symm [.slice (some ⟨(m.new [.int .u64 (headOf t n)] 29).next, 0, none⟩) (ws.length + 1) (ws.length + 1), .int .i64 room]
      simpa [words] using this
  · have hn := h.w.new_other [.int .u64 (headOf t n)] 29
    have hh := h.h.new_other [.int .u64 (headOf t n)] 29
    have hg := hn.grow_other hh h.ne (words ws ++ [.int .u64 (headOf t n)]) true
    exact ((keeps_new m _ 29 [hf, wf]).trans (hn.keeps_grow _ true (by simp))).trans (hg.keeps_put _ (by simp))


/-- the zeros behind it -/
theorem alloc_rest (t0 : Tree Value) {hb hf wb wf : Nat} {ws : List Int} {room : Int} {n : Nat} (h : HeapAt m hb hf wb wf ws room) (h0 : t0.get 0 = some (.pointer (some ⟨hb, 0, none⟩))) (h2 : t0.get 2 = some (.int .i64 n)) (hw : ws.length ≤ 65537) (hn : n ≤ 1048576) :
    ∃ t1 m1, execw Try.prog TT S r12_5 t0 m = some (.normal, t1, m1) ∧ (∃ wb', HeapAt m1 hb hf wb' wf (ws ++ List.replicate n 0) room) ∧ Keeps m m1 [hf, wf] ∧
      t1.get 0 = t0.get 0 ∧ t1.get 8 = t0.get 8 := by
  have l0 := h.h.load1 (off := 0) rfl
  have hz : zerosOf Try.prog 29 n = some (List.replicate n (.int .u64 0)) := zeros_one z29 rfl rfl (by omega)
  have hc1 : (0 : Int) ≤ n := by omega
  have hc2 : (n : Int) ≤ 9223372036854775807 := by omega
  have key : ∃ m1 wb', sappend Try.prog 34 m (.slice (some ⟨wb, 0, none⟩) ws.length ws.length) (List.replicate n (.int .u64 0)) n = some (.slice (some ⟨wb', 0, none⟩) (ws.length + n) (ws.length + n), m1) ∧
      Own m1 hb [.slice (some ⟨wb, 0, none⟩) ws.length ws.length, .int .i64 room] 58 hf ∧ Own m1 wb' (words (ws ++ List.replicate n 0)) 29 wf ∧ Keeps m m1 [hf, wf] := by
    by_cases hn0 : n = 0
    · subst hn0
      exact ⟨m, wb, sappend_none u34 ap29 h.w (by omega) (by omega), h.h, by simpa [words] using h.w, .refl _ _⟩
    · refine ⟨_, _, sappend_full u34 ap29 h.w (by simp [words]) hn0 (by simp) (by simp [one_int]) (by omega) (by omega), h.w.grow_other h.h h.ne _ _, ?_, h.w.keeps_grow _ true (by simp)⟩
      have := h.w.grow (words ws ++ List.replicate n (.int .u64 0)) true
      simpa [words] using this
  obtain ⟨m1, wb', k1, k2, k3, k4⟩ := key
  have hst := fun a n c => k2.store (off := 0) (vs := [.slice a n c]) (by simp) (by simp [one_slice])
  have e : ∃ t1, execw Try.prog TT S r12_5 t0 m = some (.normal, t1, m1.put hb ⟨[.slice (some ⟨wb, 0, none⟩) ws.length ws.length, .int .i64 room], 58, hf⟩ [.slice (some ⟨wb', 0, none⟩) (ws.length + n) (ws.length + n), .int .i64 room]) ∧ t1.get 0 = t0.get 0 ∧ t1.get 8 = t0.get 8 := by
    simp only [r12_0, r12_1, r12_2, r12_3, r12_4, r12_5, r12_6, c12, bodyOf, Try.f12, Code.sub]
    simp [x_seq, x_region, x_cond, x_ret, x_skip, x_exit, sregion_false, sregion_quiet, floatB, quiet, loudB, sops_nil, sops_cons, sop1_plain, sop1_guard, syield, put_some, put_none, ev_tmp, ev_const, fill_nil, fill_cons, o_move, o_assign, o_bin, o_pick, o_nilCheck, o_fieldAddr, o_load, o_len, o_store, o_conv, o_un, o_extract, o_append, o_call, o_buildSlice, o_box, o_alloc, o_build, o_indexAddr, Tree.get_set, s_binOp, fastBin, s_unOp, fastUn, boolEq, sresults, sresultsL, sresult, one_int, one_slice, one_ptr, one_bool, one_str, cells_int, cells_slice, cells_ptr, cells_bool, cells_str, cells_agg, loadRow_new, window, over, -BitVec.toNat_or, -BitVec.toNat_ofInt, -BitVec.toNat_and, fieldAddr_of fa0, fieldAddr_of fa1, load_of ld3, load_of ld34, len_slice u34, store_of sz34, conv_i u3 u29, build_one u34 el29, append_s u34 sz29, append_m u3 u34, box_of b58, build_of bo58, len_slice u22, index_slice u22 sz3, bin_ptr u24, bin_bool u4 .eql (Or.inl rfl), bin_bool u4 .neq (Or.inr rfl), load_of ld29, store_of sz29, index_slice u34 sz29, l0, h0, h2, hz, hc1, hc2, k1, hst, over]
  obtain ⟨t1, e, g0, g3⟩ := e
  refine ⟨t1, _, e, ⟨wb', ?_⟩, ?_, g0, g3⟩
  · refine ⟨?_, k2.put_other k3 h.ne.symm _, h.ne⟩
    have := k2.put [.slice (some ⟨wb', 0, none⟩) (ws.length + n) (ws.length + n), .int .i64 room]
    simpa using this
  · exact k4.trans (k2.keeps_put _ (by simp))


theorem alloc_yes (hS : S 12 = []) {hb hf wb wf : Nat} {ws : List Int} {room t : Int} {n : Nat} (h : HeapAt m hb hf wb wf ws room)
    (hr : 0 < room ∧ room ≤ 65536) (hw : ws.length ≤ 65536) (hno : ¬ noRoom ws room t n) :
    ∃ m1 wb', callw Try.prog TT S 12 [.pointer (some ⟨hb, 0, none⟩), .int .i64 t, .int .i64 n] m = some (.tuple #[.int .u64 ws.length, .bool true], m1) ∧
      HeapAt m1 hb hf wb' wf (ws ++ [headOf t n] ++ List.replicate n 0) room ∧ Keeps m m1 [hf, wf] := by
  have l0 := h.h.load1 (off := 0) rfl
  have l1 := h.h.load1 (off := 1) rfl
  have hwr : IntKind.i64.wrap (room - ws.length) = room - ws.length := wrap_i64 (by omega) (by omega)
  have hwu : IntKind.u64.wrap ws.length = ws.length := wrap_u64 (by omega) (by omega)
  unfold noRoom at hno
  have a1 : ¬ t < 0 := by omega
  have a2 : ¬ 1048576 < t := by omega
  have a3 : ¬ (n : Int) < 0 := by omega
  have a4 : ¬ 1048576 < (n : Int) := by omega
  have a5 : ¬ room - ws.length ≤ n := by omega
  have p0 : ∃ t0, execw Try.prog TT S r12_0 (fill .leaf [.pointer (some ⟨hb, 0, none⟩), .int .i64 t, .int .i64 n] 0) m = some (.normal, t0, m) ∧
      t0.get 0 = some (.pointer (some ⟨hb, 0, none⟩)) ∧ t0.get 1 = some (.int .i64 t) ∧ t0.get 2 = some (.int .i64 n) := by
    simp only [r12_0, r12_1, r12_2, r12_3, r12_4, r12_5, r12_6, c12, bodyOf, Try.f12, Code.sub]
    simp [x_seq, x_region, x_cond, x_ret, x_skip, x_exit, sregion_false, sregion_quiet, floatB, quiet, loudB, sops_nil, sops_cons, sop1_plain, sop1_guard, syield, put_some, put_none, ev_tmp, ev_const, fill_nil, fill_cons, o_move, o_assign, o_bin, o_pick, o_nilCheck, o_fieldAddr, o_load, o_len, o_store, o_conv, o_un, o_extract, o_append, o_call, o_buildSlice, o_box, o_alloc, o_build, o_indexAddr, Tree.get_set, s_binOp, fastBin, s_unOp, fastUn, boolEq, sresults, sresultsL, sresult, one_int, one_slice, one_ptr, one_bool, one_str, cells_int, cells_slice, cells_ptr, cells_bool, cells_str, cells_agg, loadRow_new, window, over, -BitVec.toNat_or, -BitVec.toNat_ofInt, -BitVec.toNat_and]
  obtain ⟨t0, e0, d0, d1, d2⟩ := p0
  have p1 : ∃ t1, execw Try.prog TT S (.seq r12_1 (.cond (.tmp 36) (.seq r12_2 .ret) .skip)) t0 m = some (.normal, t1, m) ∧
      t1.get 0 = some (.pointer (some ⟨hb, 0, none⟩)) ∧ t1.get 1 = some (.int .i64 t) ∧ t1.get 2 = some (.int .i64 n) := by
    simp only [r12_0, r12_1, r12_2, r12_3, r12_4, r12_5, r12_6, c12, bodyOf, Try.f12, Code.sub]
    simp [x_seq, x_region, x_cond, x_ret, x_skip, x_exit, sregion_false, sregion_quiet, floatB, quiet, loudB, sops_nil, sops_cons, sop1_plain, sop1_guard, syield, put_some, put_none, ev_tmp, ev_const, fill_nil, fill_cons, o_move, o_assign, o_bin, o_pick, o_nilCheck, o_fieldAddr, o_load, o_len, o_store, o_conv, o_un, o_extract, o_append, o_call, o_buildSlice, o_box, o_alloc, o_build, o_indexAddr, Tree.get_set, s_binOp, fastBin, s_unOp, fastUn, boolEq, sresults, sresultsL, sresult, one_int, one_slice, one_ptr, one_bool, one_str, cells_int, cells_slice, cells_ptr, cells_bool, cells_str, cells_agg, loadRow_new, window, over, -BitVec.toNat_or, -BitVec.toNat_ofInt, -BitVec.toNat_and, fieldAddr_of fa0, fieldAddr_of fa1, load_of ld3, load_of ld34, len_slice u34, store_of sz34, conv_i u3 u29, build_one u34 el29, append_s u34 sz29, append_m u3 u34, box_of b58, build_of bo58, len_slice u22, index_slice u22 sz3, bin_ptr u24, bin_bool u4 .eql (Or.inl rfl), bin_bool u4 .neq (Or.inr rfl), load_of ld29, store_of sz29, index_slice u34 sz29, l0, l1, d0, d1, d2, hwr, a1, a2, a3, a4, a5]
  obtain ⟨t1, e1, f0, f1, f2⟩ := p1
  have p2 : ∃ t2, execw Try.prog TT S r12_3 t1 m = some (.normal, t2, m) ∧ t2.get 0 = some (.pointer (some ⟨hb, 0, none⟩)) ∧ t2.get 1 = some (.int .i64 t) ∧ t2.get 2 = some (.int .i64 n) ∧ t2.get 8 = some (.int .u64 ws.length) := by
    simp only [r12_0, r12_1, r12_2, r12_3, r12_4, r12_5, r12_6, c12, bodyOf, Try.f12, Code.sub]
    simp [x_seq, x_region, x_cond, x_ret, x_skip, x_exit, sregion_false, sregion_quiet, floatB, quiet, loudB, sops_nil, sops_cons, sop1_plain, sop1_guard, syield, put_some, put_none, ev_tmp, ev_const, fill_nil, fill_cons, o_move, o_assign, o_bin, o_pick, o_nilCheck, o_fieldAddr, o_load, o_len, o_store, o_conv, o_un, o_extract, o_append, o_call, o_buildSlice, o_box, o_alloc, o_build, o_indexAddr, Tree.get_set, s_binOp, fastBin, s_unOp, fastUn, boolEq, sresults, sresultsL, sresult, one_int, one_slice, one_ptr, one_bool, one_str, cells_int, cells_slice, cells_ptr, cells_bool, cells_str, cells_agg, loadRow_new, window, over, -BitVec.toNat_or, -BitVec.toNat_ofInt, -BitVec.toNat_and, fieldAddr_of fa0, fieldAddr_of fa1, load_of ld3, load_of ld34, len_slice u34, store_of sz34, conv_i u3 u29, build_one u34 el29, append_s u34 sz29, append_m u3 u34, box_of b58, build_of bo58, len_slice u22, index_slice u22 sz3, bin_ptr u24, bin_bool u4 .eql (Or.inl rfl), bin_bool u4 .neq (Or.inr rfl), load_of ld29, store_of sz29, index_slice u34 sz29, l0, l1, f0, f1, f2, hwu]
  obtain ⟨t2, e2, g0, g1, g2, g8⟩ := p2
  obtain ⟨t3, m3, e3, ⟨wb3, h3⟩, k3, i0, i1, i2, i8⟩ := alloc_head (S := S) t2 h g0 g1 g2 hw
  obtain ⟨t4, m4, e4, ⟨wb4, h4⟩, k4, j0, j8⟩ := alloc_rest (S := S) t3 h3 (i0.trans g0) (i2.trans g2) (by simp; omega) (by omega)
  have p5 : ∃ t5, execw Try.prog TT S (.seq r12_6 .ret) t4 m4 = some (.ret, t5, m4) ∧ t5.get 6 = some (.int .u64 ws.length) ∧ t5.get 7 = some (.bool true) := by
    simp only [r12_0, r12_1, r12_2, r12_3, r12_4, r12_5, r12_6, c12, bodyOf, Try.f12, Code.sub]
    simp [x_seq, x_region, x_cond, x_ret, x_skip, x_exit, sregion_false, sregion_quiet, floatB, quiet, loudB, sops_nil, sops_cons, sop1_plain, sop1_guard, syield, put_some, put_none, ev_tmp, ev_const, fill_nil, fill_cons, o_move, o_assign, o_bin, o_pick, o_nilCheck, o_fieldAddr, o_load, o_len, o_store, o_conv, o_un, o_extract, o_append, o_call, o_buildSlice, o_box, o_alloc, o_build, o_indexAddr, Tree.get_set, s_binOp, fastBin, s_unOp, fastUn, boolEq, sresults, sresultsL, sresult, one_int, one_slice, one_ptr, one_bool, one_str, cells_int, cells_slice, cells_ptr, cells_bool, cells_str, cells_agg, loadRow_new, window, over, -BitVec.toNat_or, -BitVec.toNat_ofInt, -BitVec.toNat_and, fieldAddr_of fa0, fieldAddr_of fa1, load_of ld3, load_of ld34, len_slice u34, store_of sz34, conv_i u3 u29, build_one u34 el29, append_s u34 sz29, append_m u3 u34, box_of b58, build_of bo58, len_slice u22, index_slice u22 sz3, bin_ptr u24, bin_bool u4 .eql (Or.inl rfl), bin_bool u4 .neq (Or.inr rfl), load_of ld29, store_of sz29, index_slice u34 sz29, j8, i8, g8]
  obtain ⟨t5, e5, n6, n7⟩ := p5
  refine ⟨m4, wb4, ?_, h4, k3.trans k4⟩
  refine call_ok (c := c12) tt12 (by simp only [Try.f12, c12, bodyOf]) hS (by simp [Try.f12]) (Or.inr rfl) (t' := t5) ?_ (by simp [sresults, sresultsL, sresult, Try.f12, n6, n7])
  rw [body12]
  exact seq_ok e0 (seq_ok e1 (seq_ok e2 (seq_ok e3 (seq_ok e4 e5))))

noncomputable def c10 : Code := bodyOf Try.f10
noncomputable def r10_0 : Code := Code.sub [0] c10
noncomputable def r10_1 : Code := Code.sub [1, 0, 0] c10
noncomputable def r10_2 : Code := Code.sub [1, 0, 1, 0, 0] c10
noncomputable def r10_3 : Code := Code.sub [1, 1, 0] c10
theorem body10 : c10 = (.seq r10_0 (.seq (.seq r10_1 (.cond (.tmp 9) (.seq r10_2 .ret) .skip)) (.seq r10_3 .ret))) := by kernel_rfl
theorem new_run (hS : S 10 = []) (room : Int) (h1 : 1 ≤ room) (h2 : room ≤ 65536) : ∃ m1 hb wb, callw Try.prog TT S 10 [.int .i64 room] m = some (.tuple #[.pointer (some ⟨hb, 0, none⟩), .int .i64 0], m1) ∧
    HeapAt m1 hb hb wb wb [0] room ∧ m.next ≤ hb ∧ m.next ≤ wb ∧ Keeps m m1 [] := by
  have a1 : ¬ room < 1 := by omega
  have a2 : ¬ 65536 < room := by omega
  refine ⟨(m.new [.int .u64 0] 29).new [.slice (some ⟨m.next, 0, none⟩) 1 1, .int .i64 room] 58, m.next + 1, m.next, ?_, ⟨?_, ?_, by omega⟩, by omega, by omega, (keeps_new _ _ _ _).trans (keeps_new _ _ _ _)⟩
  · rw [x_call tt10 (by simp only [Try.f10]; rfl) hS _ (by simp [Try.f10])]
    simp [x_seq, x_region, x_cond, x_ret, x_skip, x_exit, sregion_false, sregion_quiet, floatB, quiet, loudB, sops_nil, sops_cons, sop1_plain, sop1_guard, syield, put_some, put_none, ev_tmp, ev_const, fill_nil, fill_cons, o_move, o_assign, o_bin, o_pick, o_nilCheck, o_fieldAddr, o_load, o_len, o_store, o_conv, o_un, o_extract, o_append, o_call, o_buildSlice, o_box, o_alloc, o_build, o_indexAddr, Tree.get_set, s_binOp, fastBin, s_unOp, fastUn, boolEq, sresults, sresultsL, sresult, one_int, one_slice, one_ptr, one_bool, one_str, cells_int, cells_slice, cells_ptr, cells_bool, cells_str, cells_agg, loadRow_new, window, over, -BitVec.toNat_or, -BitVec.toNat_ofInt, -BitVec.toNat_and, fieldAddr_of fa0, fieldAddr_of fa1, load_of ld3, load_of ld34, len_slice u34, store_of sz34, conv_i u3 u29, build_one u34 el29, append_s u34 sz29, append_m u3 u34, box_of b58, build_of bo58, len_slice u22, index_slice u22 sz3, bin_ptr u24, bin_bool u4 .eql (Or.inl rfl), bin_bool u4 .neq (Or.inr rfl), load_of ld29, store_of sz29, index_slice u34 sz29, Instr.fill, a1, a2, Try.f10, Mem.new]
  · exact Own.new (m.new [.int .u64 0] 29) _ 58
  · exact (Own.new m _ 29).new_other _ _
theorem emod_tmod (x k : Int) (hk : 0 < k) : x % k = if x.tmod k < 0 then x.tmod k + k else x.tmod k := by
  have hx := Int.emod_nonneg x (by omega : k ≠ 0)
  have hx2 := Int.emod_lt_of_pos x hk
  split
  · rename_i h
    have : (x.tmod k + k) % k = x % k := by
      rw [Int.add_emod_right]
      have h3 := Int.tmod_add_mul_tdiv x k
      have : x.tmod k = x - k * x.tdiv k := by omega
      rw [this, Int.sub_mul_emod_self_left]
    rw [← this]
    have := Int.lt_tmod_of_pos x hk
    exact Int.emod_eq_of_lt (by omega) (by omega)
  · rename_i h
    have : (x.tmod k) % k = x % k := by
      have h3 := Int.tmod_add_mul_tdiv x k
      have : x.tmod k = x - k * x.tdiv k := by omega
      rw [this, Int.sub_mul_emod_self_left]
    rw [← this]
    have := Int.tmod_lt_of_pos x hk
    exact Int.emod_eq_of_lt (by omega) (by omega)


theorem pick_run (hS : S 9 = []) (x k : Int) (hk : 0 < k) (hk2 : k < 1000000) : callw Try.prog TT S 9 [.int .i64 x, .int .i64 k] m = some (.int .i64 (x % k), m) := by
  have hx := Int.emod_nonneg x (by omega : k ≠ 0)
  have hx2 := Int.emod_lt_of_pos x hk
  have hk0 : k ≠ 0 := by omega
  have hw : IntKind.i64.wrap (x % k) = x % k := wrap_i64 (by omega) (by omega)
  rw [x_call tt9 (by simp only [Try.f9]; rfl) hS _ (by simp [Try.f9])]
  have e := emod_tmod x k hk
  by_cases h : x.tmod k < 0
  · rw [if_pos h] at e
    rw [e] at hw ⊢
    simp [x_seq, x_region, x_cond, x_ret, x_skip, x_exit, sregion_false, sregion_quiet, floatB, quiet, loudB, sops_nil, sops_cons, sop1_plain, sop1_guard, syield, put_some, put_none, ev_tmp, ev_const, fill_nil, fill_cons, o_move, o_assign, o_bin, o_pick, o_nilCheck, o_fieldAddr, o_load, o_len, o_store, o_conv, o_un, o_extract, o_append, o_call, o_buildSlice, o_box, o_alloc, o_build, o_indexAddr, Tree.get_set, s_binOp, fastBin, s_unOp, fastUn, boolEq, sresults, sresultsL, sresult, one_int, one_slice, one_ptr, one_bool, one_str, cells_int, cells_slice, cells_ptr, cells_bool, cells_str, cells_agg, loadRow_new, window, over, -BitVec.toNat_or, -BitVec.toNat_ofInt, -BitVec.toNat_and, hk0, h, hw, Try.f9]
  · rw [if_neg h] at e
    rw [e]
    simp [x_seq, x_region, x_cond, x_ret, x_skip, x_exit, sregion_false, sregion_quiet, floatB, quiet, loudB, sops_nil, sops_cons, sop1_plain, sop1_guard, syield, put_some, put_none, ev_tmp, ev_const, fill_nil, fill_cons, o_move, o_assign, o_bin, o_pick, o_nilCheck, o_fieldAddr, o_load, o_len, o_store, o_conv, o_un, o_extract, o_append, o_call, o_buildSlice, o_box, o_alloc, o_build, o_indexAddr, Tree.get_set, s_binOp, fastBin, s_unOp, fastUn, boolEq, sresults, sresultsL, sresult, one_int, one_slice, one_ptr, one_bool, one_str, cells_int, cells_slice, cells_ptr, cells_bool, cells_str, cells_agg, loadRow_new, window, over, -BitVec.toNat_or, -BitVec.toNat_ofInt, -BitVec.toNat_and, hk0, h, Try.f9]

theorem words_at {ws : List Int} {i : Nat} (h : i < ws.length) : (words ws)[i]? = some (.int .u64 (ws.getD i 0)) := by
  simp [words, List.getD_eq_getElem?_getD, List.getElem?_eq_getElem h]

noncomputable def c22 : Code := bodyOf Try.f22
noncomputable def r22_0 : Code := Code.sub [0] c22
noncomputable def r22_1 : Code := Code.sub [1, 0, 0] c22
noncomputable def r22_2 : Code := Code.sub [1, 0, 1, 0, 0] c22
noncomputable def r22_3 : Code := Code.sub [1, 1, 0] c22
theorem body22 : c22 = (.seq r22_0 (.seq (.seq r22_1 (.cond (.tmp 12) (.seq r22_2 .ret) .skip)) (.seq r22_3 .ret))) := by kernel_rfl
theorem word_run (hS : S 22 = []) {hb hf wb wf : Nat} {ws : List Int} {room at_ : Int} (h : HeapAt m hb hf wb wf ws room) (h0 : 0 ≤ at_) (hw : ws.length ≤ 1000000) :
    callw Try.prog TT S 22 [.pointer (some ⟨hb, 0, none⟩), .int .u64 at_] m = some (.int .u64 (ws.getD at_.toNat 0), m) := by
  have l0 := h.h.load1 (off := 0) rfl
  have hwu : IntKind.u64.wrap ws.length = ws.length := wrap_u64 (by omega) (by omega)
  rw [x_call tt22 (by simp only [Try.f22]; rfl) hS _ (by simp [Try.f22])]
  by_cases hge : (ws.length : Int) ≤ at_
  · have hd : ws.getD at_.toNat 0 = 0 := by
      rw [List.getD_eq_getElem?_getD, List.getElem?_eq_none (by omega)]; rfl
    simp [x_seq, x_region, x_cond, x_ret, x_skip, x_exit, sregion_false, sregion_quiet, floatB, quiet, loudB, sops_nil, sops_cons, sop1_plain, sop1_guard, syield, put_some, put_none, ev_tmp, ev_const, fill_nil, fill_cons, o_move, o_assign, o_bin, o_pick, o_nilCheck, o_fieldAddr, o_load, o_len, o_store, o_conv, o_un, o_extract, o_append, o_call, o_buildSlice, o_box, o_alloc, o_build, o_indexAddr, Tree.get_set, s_binOp, fastBin, s_unOp, fastUn, boolEq, sresults, sresultsL, sresult, one_int, one_slice, one_ptr, one_bool, one_str, cells_int, cells_slice, cells_ptr, cells_bool, cells_str, cells_agg, loadRow_new, window, over, -BitVec.toNat_or, -BitVec.toNat_ofInt, -BitVec.toNat_and, fieldAddr_of fa0, fieldAddr_of fa1, load_of ld3, load_of ld34, len_slice u34, store_of sz34, conv_i u3 u29, build_one u34 el29, append_s u34 sz29, append_m u3 u34, box_of b58, build_of bo58, len_slice u22, index_slice u22 sz3, bin_ptr u24, bin_bool u4 .eql (Or.inl rfl), bin_bool u4 .neq (Or.inr rfl), load_of ld29, store_of sz29, index_slice u34 sz29, l0, hwu, hge, Try.f22]
    rw [List.getElem?_eq_none (by omega)]; rfl
  · have hlt : at_.toNat < ws.length := by omega
    have l1 := h.w.load1 (off := at_.toNat) (words_at hlt)
    have hmax : at_ ≤ 9223372036854775807 := by omega
    have hge' : at_ < (ws.length : Int) := by omega
    simp only [List.getD_eq_getElem?_getD] at l1
    simp [x_seq, x_region, x_cond, x_ret, x_skip, x_exit, sregion_false, sregion_quiet, floatB, quiet, loudB, sops_nil, sops_cons, sop1_plain, sop1_guard, syield, put_some, put_none, ev_tmp, ev_const, fill_nil, fill_cons, o_move, o_assign, o_bin, o_pick, o_nilCheck, o_fieldAddr, o_load, o_len, o_store, o_conv, o_un, o_extract, o_append, o_call, o_buildSlice, o_box, o_alloc, o_build, o_indexAddr, Tree.get_set, s_binOp, fastBin, s_unOp, fastUn, boolEq, sresults, sresultsL, sresult, one_int, one_slice, one_ptr, one_bool, one_str, cells_int, cells_slice, cells_ptr, cells_bool, cells_str, cells_agg, loadRow_new, window, over, -BitVec.toNat_or, -BitVec.toNat_ofInt, -BitVec.toNat_and, fieldAddr_of fa0, fieldAddr_of fa1, load_of ld3, load_of ld34, len_slice u34, store_of sz34, conv_i u3 u29, build_one u34 el29, append_s u34 sz29, append_m u3 u34, box_of b58, build_of bo58, len_slice u22, index_slice u22 sz3, bin_ptr u24, bin_bool u4 .eql (Or.inl rfl), bin_bool u4 .neq (Or.inr rfl), load_of ld29, store_of sz29, index_slice u34 sz29, l0, l1, hwu, hge, hge', h0, hmax, hlt, Try.f22]

noncomputable def c17 : Code := bodyOf Try.f17
noncomputable def r17_0 : Code := Code.sub [0] c17
noncomputable def r17_1 : Code := Code.sub [1, 0, 0] c17
noncomputable def r17_2 : Code := Code.sub [1, 0, 1, 0, 0] c17
noncomputable def r17_3 : Code := Code.sub [1, 1, 0] c17
noncomputable def r17_4 : Code := Code.sub [1, 1, 1, 0] c17
theorem body17 : c17 = (.seq r17_0 (.seq (.seq r17_1 (.cond (.tmp 18) (.seq r17_2 .ret) .skip)) (.seq r17_3 (.seq r17_4 .ret)))) := by kernel_rfl
theorem put_no (hS : S 17 = []) {hb hf wb wf : Nat} {ws : List Int} {room at_ v : Int} (h : HeapAt m hb hf wb wf ws room) (hno : at_ = 0 ∨ (ws.length : Int) ≤ at_) (hw : ws.length ≤ 1000000) :
    callw Try.prog TT S 17 [.pointer (some ⟨hb, 0, none⟩), .int .u64 at_, .int .u64 v] m = some (.bool false, m) := by
  have l0 := h.h.load1 (off := 0) rfl
  have hwu : IntKind.u64.wrap ws.length = ws.length := wrap_u64 (by omega) (by omega)
  rw [x_call tt17 (by simp only [Try.f17]; rfl) hS _ (by simp [Try.f17])]
  by_cases h0 : at_ = 0
  · subst h0
    simp [x_seq, x_region, x_cond, x_ret, x_skip, x_exit, sregion_false, sregion_quiet, floatB, quiet, loudB, sops_nil, sops_cons, sop1_plain, sop1_guard, syield, put_some, put_none, ev_tmp, ev_const, fill_nil, fill_cons, o_move, o_assign, o_bin, o_pick, o_nilCheck, o_fieldAddr, o_load, o_len, o_store, o_conv, o_un, o_extract, o_append, o_call, o_buildSlice, o_box, o_alloc, o_build, o_indexAddr, Tree.get_set, s_binOp, fastBin, s_unOp, fastUn, boolEq, sresults, sresultsL, sresult, one_int, one_slice, one_ptr, one_bool, one_str, cells_int, cells_slice, cells_ptr, cells_bool, cells_str, cells_agg, loadRow_new, window, over, -BitVec.toNat_or, -BitVec.toNat_ofInt, -BitVec.toNat_and, fieldAddr_of fa0, fieldAddr_of fa1, load_of ld3, load_of ld34, len_slice u34, store_of sz34, conv_i u3 u29, build_one u34 el29, append_s u34 sz29, append_m u3 u34, box_of b58, build_of bo58, len_slice u22, index_slice u22 sz3, bin_ptr u24, bin_bool u4 .eql (Or.inl rfl), bin_bool u4 .neq (Or.inr rfl), load_of ld29, store_of sz29, index_slice u34 sz29, l0, hwu, Try.f17]
  · have hge : (ws.length : Int) ≤ at_ := by omega
    simp [x_seq, x_region, x_cond, x_ret, x_skip, x_exit, sregion_false, sregion_quiet, floatB, quiet, loudB, sops_nil, sops_cons, sop1_plain, sop1_guard, syield, put_some, put_none, ev_tmp, ev_const, fill_nil, fill_cons, o_move, o_assign, o_bin, o_pick, o_nilCheck, o_fieldAddr, o_load, o_len, o_store, o_conv, o_un, o_extract, o_append, o_call, o_buildSlice, o_box, o_alloc, o_build, o_indexAddr, Tree.get_set, s_binOp, fastBin, s_unOp, fastUn, boolEq, sresults, sresultsL, sresult, one_int, one_slice, one_ptr, one_bool, one_str, cells_int, cells_slice, cells_ptr, cells_bool, cells_str, cells_agg, loadRow_new, window, over, -BitVec.toNat_or, -BitVec.toNat_ofInt, -BitVec.toNat_and, fieldAddr_of fa0, fieldAddr_of fa1, load_of ld3, load_of ld34, len_slice u34, store_of sz34, conv_i u3 u29, build_one u34 el29, append_s u34 sz29, append_m u3 u34, box_of b58, build_of bo58, len_slice u22, index_slice u22 sz3, bin_ptr u24, bin_bool u4 .eql (Or.inl rfl), bin_bool u4 .neq (Or.inr rfl), load_of ld29, store_of sz29, index_slice u34 sz29, l0, hwu, h0, hge, Try.f17]

theorem put_yes (hS : S 17 = []) {hb hf wb wf : Nat} {ws : List Int} {room v : Int} {i : Nat} (h : HeapAt m hb hf wb wf ws room) (h0 : i ≠ 0) (hlt : i < ws.length) (hw : ws.length ≤ 1000000) :
    ∃ m1, callw Try.prog TT S 17 [.pointer (some ⟨hb, 0, none⟩), .int .u64 i, .int .u64 v] m = some (.bool true, m1) ∧ HeapAt m1 hb hf wb wf (ws.set i v) room ∧ Keeps m m1 [wf] := by
  have l0 := h.h.load1 (off := 0) rfl
  have hwu : IntKind.u64.wrap ws.length = ws.length := wrap_u64 (by omega) (by omega)
  have hst := fun x => h.w.store (off := i) (vs := [.int .u64 x]) (by simp [words]; omega) (by simp [one_int])
  have hi0 : ¬ ((i : Int) = 0) := by omega
  have hge : ¬ ((ws.length : Int) ≤ i) := by omega
  have hmax : (i : Int) ≤ 9223372036854775807 := by omega
  have hov : over (words ws) i [.int .u64 v] = words (ws.set i v) := by
    unfold over words
    rw [List.map_set]
    rw [List.set_eq_take_append_cons_drop, if_pos (by simpa using hlt)]
    simp
  refine ⟨_, ?_, ⟨by simpa using h.w.put_other h.h h.ne (over (words ws) i [.int .u64 v]), ?_, h.ne⟩, h.w.keeps_put (over (words ws) i [.int .u64 v]) (by simp)⟩
  · rw [x_call tt17 (by simp only [Try.f17]; rfl) hS _ (by simp [Try.f17])]
    simp [x_seq, x_region, x_cond, x_ret, x_skip, x_exit, sregion_false, sregion_quiet, floatB, quiet, loudB, sops_nil, sops_cons, sop1_plain, sop1_guard, syield, put_some, put_none, ev_tmp, ev_const, fill_nil, fill_cons, o_move, o_assign, o_bin, o_pick, o_nilCheck, o_fieldAddr, o_load, o_len, o_store, o_conv, o_un, o_extract, o_append, o_call, o_buildSlice, o_box, o_alloc, o_build, o_indexAddr, Tree.get_set, s_binOp, fastBin, s_unOp, fastUn, boolEq, sresults, sresultsL, sresult, one_int, one_slice, one_ptr, one_bool, one_str, cells_int, cells_slice, cells_ptr, cells_bool, cells_str, cells_agg, loadRow_new, window, over, -BitVec.toNat_or, -BitVec.toNat_ofInt, -BitVec.toNat_and, fieldAddr_of fa0, fieldAddr_of fa1, load_of ld3, load_of ld34, len_slice u34, store_of sz34, conv_i u3 u29, build_one u34 el29, append_s u34 sz29, append_m u3 u34, box_of b58, build_of bo58, len_slice u22, index_slice u22 sz3, bin_ptr u24, bin_bool u4 .eql (Or.inl rfl), bin_bool u4 .neq (Or.inr rfl), load_of ld29, store_of sz29, index_slice u34 sz29, l0, hwu, hi0, hge, hmax, hlt, hst, h0, -over, Try.f17]
  · have := h.w.put (over (words ws) i [.int .u64 v])
    rw [hov] at this ⊢
    exact this

theorem build_none {P : Program} {ρ : Operand → Value} {o : Oper} {t e : TypeId} (ht : P.underlying t = some (.slice e)) (he : elOk P e = true) : s_buildSlice P ρ o t 0 #[] m = some (.slice (some ⟨m.next, 0, none⟩) 0 0, m.new [] e) := by
  unfold elOk at he
  cases hi : P.info? e with
  | none => rw [hi] at he; simp at he
  | some i =>
    rw [hi] at he
    simp only [Option.any_some, Bool.and_eq_true, beq_iff_eq] at he
    cases hz : i.zero with
    | none => rw [hz] at he; simp at he
    | some z =>
      rw [hz] at he
      simp only [Option.any_some, Bool.and_eq_true, beq_iff_eq] at he
      obtain ⟨h1, h2, h3⟩ := he
      simp [s_buildSlice, ht, hi, hz, h1, h2, h3, Instr.fill]

noncomputable def c15 : Code := bodyOf Try.f15
noncomputable def r15_0 : Code := Code.sub [0] c15
noncomputable def r15_1 : Code := Code.sub [1, 0] c15
theorem body15 : c15 = (.seq r15_0 (.seq r15_1 .ret)) := by kernel_rfl
theorem words_run (hS : S 15 = []) {hb hf wb wf : Nat} {ws : List Int} {room : Int} (h : HeapAt m hb hf wb wf ws room) (hne : ws ≠ []) (hw : ws.length ≤ 1000000) :
    ∃ m1 nb nf, callw Try.prog TT S 15 [.pointer (some ⟨hb, 0, none⟩)] m = some (.slice (some ⟨nb, 0, none⟩) ws.length ws.length, m1) ∧ Own m1 nb (words ws) 29 nf ∧ m.next ≤ nb ∧ m.next ≤ nf ∧ Keeps m m1 [] ∧ nb < m1.next ∧ nf < m1.next := by
  have hl : 0 < ws.length := by cases ws with | nil => exact absurd rfl hne | cons _ _ => simp
  have l0 := (h.h.new_other [] 29).load1 (off := 0) rfl
  have lw : loadRow (m.new [] 29) ⟨wb, 0, none⟩ (ws.length * 1) = some (words ws) := by
    rw [(h.w.new_other [] 29).load (off := 0) (ws.length * 1) (by simp [words])]
    simp [window, words]
    exact List.take_of_length_le (by simp)
  simp only [Nat.mul_one] at lw
  have ho := Own.new m [] 29
  have hs := sappend_full (ty := 34) (k := ws.length) (news := words ws) u34 ap29 ho (n := 0) (by simp) (by omega) (by simp [words]) (by simp [words, one_int]) (by omega) (by omega)
  simp only [Nat.zero_add, List.nil_append] at hs
  refine ⟨_, (m.new [] 29).next, m.next, ?_, ho.grow (words ws) true, by simp [Mem.new], Nat.le_refl _, ?_, by simp [Mem.grow, Mem.new], by simp [Mem.grow, Mem.new]; omega⟩
  · rw [x_call tt15 (by simp only [Try.f15]; rfl) hS _ (by simp [Try.f15])]
    have hn0 : ws.length ≠ 0 := by omega
    simp [x_seq, x_region, x_cond, x_ret, x_skip, x_exit, sregion_false, sregion_quiet, floatB, quiet, loudB, sops_nil, sops_cons, sop1_plain, sop1_guard, syield, put_some, put_none, ev_tmp, ev_const, fill_nil, fill_cons, o_move, o_assign, o_bin, o_pick, o_nilCheck, o_fieldAddr, o_load, o_len, o_store, o_conv, o_un, o_extract, o_append, o_call, o_buildSlice, o_box, o_alloc, o_build, o_indexAddr, Tree.get_set, s_binOp, fastBin, s_unOp, fastUn, boolEq, sresults, sresultsL, sresult, one_int, one_slice, one_ptr, one_bool, one_str, cells_int, cells_slice, cells_ptr, cells_bool, cells_str, cells_agg, loadRow_new, window, over, -BitVec.toNat_or, -BitVec.toNat_ofInt, -BitVec.toNat_and, fieldAddr_of fa0, fieldAddr_of fa1, load_of ld3, load_of ld34, len_slice u34, store_of sz34, conv_i u3 u29, build_one u34 el29, append_s u34 sz29, append_m u3 u34, box_of b58, build_of bo58, len_slice u22, index_slice u22 sz3, bin_ptr u24, bin_bool u4 .eql (Or.inl rfl), bin_bool u4 .neq (Or.inr rfl), load_of ld29, store_of sz29, index_slice u34 sz29, build_none u34 el29, l0, lw, hs, hn0, hne, Try.f15]
  · refine ⟨by simp [Mem.grow, Mem.new]; omega, fun l b hl hb _ => ?_, fun f hf _ => ?_⟩
    · simp only [Mem.grow, Mem.new]; rw [Tree.get_set_ne _ _ (by omega), Tree.get_set_ne _ _ (by omega)]; exact hb
    · simp only [Mem.grow, Mem.new]; rw [Tree.get_set_ne _ _ (by omega), Tree.get_set_ne _ _ (by omega)]

noncomputable def c16 : Code := bodyOf Try.f16
noncomputable def r16_0 : Code := Code.sub [0] c16
noncomputable def r16_1 : Code := Code.sub [1, 0, 0] c16
noncomputable def r16_2 : Code := Code.sub [1, 0, 1, 0, 0] c16
noncomputable def r16_3 : Code := Code.sub [1, 1, 0, 0] c16
noncomputable def r16_4 : Code := Code.sub [1, 1, 0, 1, 0, 0, 0, 0] c16
noncomputable def r16_5 : Code := Code.sub [1, 1, 0, 1, 0, 0, 1, 0, 0, 0] c16
noncomputable def r16_6 : Code := Code.sub [1, 1, 0, 1, 0, 0, 1, 0, 0, 1, 0, 0] c16
noncomputable def r16_7 : Code := Code.sub [1, 1, 0, 1, 0, 0, 1, 1] c16
noncomputable def r16_8 : Code := Code.sub [1, 1, 1, 0] c16
theorem body16 : c16 = (.seq r16_0 (.seq (.seq r16_1 (.cond (.tmp 10) (.seq r16_2 .ret) .skip)) (.seq (.seq r16_3 (.block 0 (.loop (.seq (.seq r16_4 (.cond (.tmp 14) .skip (.exit 0))) (.seq (.block 1 (.seq r16_5 (.cond (.tmp 25) (.seq r16_6 .ret) .skip))) r16_7))))) (.seq r16_8 .ret)))) := by kernel_rfl
structure Sw (t : Tree Value) (a b : Nat) (n c i : Nat) : Prop where
  s0 : t.get 0 = some (.slice (some ⟨a, 0, none⟩) n n)
  s1 : t.get 1 = some (.slice (some ⟨b, 0, none⟩) c c)
  s5 : t.get 5 = some (.int .i64 i)

noncomputable def round16 : Code := .seq (.seq r16_4 (.cond (.tmp 14) .skip (.exit 0))) (.seq (.block 1 (.seq r16_5 (.cond (.tmp 25) (.seq r16_6 .ret) .skip))) r16_7)

theorem eq_loop {xs ys : List Int} {a b fa fb : Nat} (ha : Rdo m a (words xs) 29 fa) (hb : Rdo m b (words ys) 29 fb) (hl : xs.length = ys.length) (h63 : xs.length ≤ 1000000) :
    ∀ (d i : Nat) (t : Tree Value), xs.length - i = d → i ≤ xs.length → Sw t a b xs.length ys.length i →
      (∀ k, i ≤ k → k < xs.length → xs.getD k 0 = ys.getD k 0) → ∃ t', execw Try.prog TT S (.loop round16) t m = some (.exit 0, t', m) := by
  intro d
  induction d with
  | zero =>
    intro i t hd hi h heq
    obtain ⟨s0, s1, s5⟩ := h
    have e1 : ¬ ((i : Int) < xs.length) := by omega
    have : ∃ t', execw Try.prog TT S (.seq r16_4 (.cond (.tmp 14) .skip (.exit 0))) t m = some (.exit 0, t', m) := by
      simp only [r16_4, c16, bodyOf, Try.f16, Code.sub]
      simp [x_seq, x_region, x_cond, x_ret, x_skip, x_exit, sregion_false, sregion_quiet, floatB, quiet, loudB, sops_nil, sops_cons, sop1_plain, sop1_guard, syield, put_some, put_none, ev_tmp, ev_const, fill_nil, fill_cons, o_move, o_assign, o_bin, o_pick, o_nilCheck, o_fieldAddr, o_load, o_len, o_store, o_conv, o_un, o_extract, o_append, o_call, o_buildSlice, o_box, o_alloc, o_build, o_indexAddr, Tree.get_set, s_binOp, fastBin, s_unOp, fastUn, boolEq, sresults, sresultsL, sresult, one_int, one_slice, one_ptr, one_bool, one_str, cells_int, cells_slice, cells_ptr, cells_bool, cells_str, cells_agg, loadRow_new, window, over, -BitVec.toNat_or, -BitVec.toNat_ofInt, -BitVec.toNat_and, fieldAddr_of fa0, fieldAddr_of fa1, load_of ld3, load_of ld34, len_slice u34, store_of sz34, conv_i u3 u29, build_one u34 el29, append_s u34 sz29, append_m u3 u34, box_of b58, build_of bo58, len_slice u22, index_slice u22 sz3, bin_ptr u24, bin_bool u4 .eql (Or.inl rfl), bin_bool u4 .neq (Or.inr rfl), load_of ld29, store_of sz29, index_slice u34 sz29, s0, s1, s5, e1]
    obtain ⟨t', e⟩ := this
    exact ⟨t', loop_exit (seq_exit e)⟩
  | succ d ih =>
    intro i t hd hi h heq
    obtain ⟨s0, s1, s5⟩ := h
    have hlt : i < xs.length := by omega
    have hlt' : i < ys.length := by omega
    have e1 : ((i : Int) < xs.length) := by omega
    have la := ha.load1 (off := i) (words_at hlt)
    have lb := hb.load1 (off := i) (words_at hlt')
    have hmax : (i : Int) ≤ 9223372036854775807 := by omega
    have w1 : IntKind.i64.wrap ((i : Int) + 1) = ((i + 1 : Nat) : Int) := by rw [wrap_i64 (by omega) (by omega)]; omega
    have q1 : ∃ t1, execw Try.prog TT S (.seq r16_4 (.cond (.tmp 14) .skip (.exit 0))) t m = some (.normal, t1, m) ∧ t1.get 0 = t.get 0 ∧ t1.get 1 = t.get 1 ∧ t1.get 5 = t.get 5 := by
      simp only [r16_4, c16, bodyOf, Try.f16, Code.sub]
      simp [x_seq, x_region, x_cond, x_ret, x_skip, x_exit, sregion_false, sregion_quiet, floatB, quiet, loudB, sops_nil, sops_cons, sop1_plain, sop1_guard, syield, put_some, put_none, ev_tmp, ev_const, fill_nil, fill_cons, o_move, o_assign, o_bin, o_pick, o_nilCheck, o_fieldAddr, o_load, o_len, o_store, o_conv, o_un, o_extract, o_append, o_call, o_buildSlice, o_box, o_alloc, o_build, o_indexAddr, Tree.get_set, s_binOp, fastBin, s_unOp, fastUn, boolEq, sresults, sresultsL, sresult, one_int, one_slice, one_ptr, one_bool, one_str, cells_int, cells_slice, cells_ptr, cells_bool, cells_str, cells_agg, loadRow_new, window, over, -BitVec.toNat_or, -BitVec.toNat_ofInt, -BitVec.toNat_and, fieldAddr_of fa0, fieldAddr_of fa1, load_of ld3, load_of ld34, len_slice u34, store_of sz34, conv_i u3 u29, build_one u34 el29, append_s u34 sz29, append_m u3 u34, box_of b58, build_of bo58, len_slice u22, index_slice u22 sz3, bin_ptr u24, bin_bool u4 .eql (Or.inl rfl), bin_bool u4 .neq (Or.inr rfl), load_of ld29, store_of sz29, index_slice u34 sz29, s0, s1, s5, e1, hlt]
    obtain ⟨t1, g1, a0, a1, a5⟩ := q1
    have b0 := a0.trans s0
    have b1 := a1.trans s1
    have b5 := a5.trans s5
    rw [heq i (Nat.le_refl _) hlt] at la
    generalize ys.getD i 0 = z at la lb
    have q2 : ∃ t2, execw Try.prog TT S (.seq r16_5 (.cond (.tmp 25) (.seq r16_6 .ret) .skip)) t1 m = some (.normal, t2, m) ∧ t2.get 0 = t1.get 0 ∧ t2.get 1 = t1.get 1 ∧ t2.get 5 = t1.get 5 := by
      simp only [r16_5, c16, bodyOf, Try.f16, Code.sub]
      simp [x_seq, x_region, x_cond, x_ret, x_skip, x_exit, sregion_false, sregion_quiet, floatB, quiet, loudB, sops_nil, sops_cons, sop1_plain, sop1_guard, syield, put_some, put_none, ev_tmp, ev_const, fill_nil, fill_cons, o_move, o_assign, o_bin, o_pick, o_nilCheck, o_fieldAddr, o_load, o_len, o_store, o_conv, o_un, o_extract, o_append, o_call, o_buildSlice, o_box, o_alloc, o_build, o_indexAddr, Tree.get_set, s_binOp, fastBin, s_unOp, fastUn, boolEq, sresults, sresultsL, sresult, one_int, one_slice, one_ptr, one_bool, one_str, cells_int, cells_slice, cells_ptr, cells_bool, cells_str, cells_agg, loadRow_new, window, over, -BitVec.toNat_or, -BitVec.toNat_ofInt, -BitVec.toNat_and, fieldAddr_of fa0, fieldAddr_of fa1, load_of ld3, load_of ld34, len_slice u34, store_of sz34, conv_i u3 u29, build_one u34 el29, append_s u34 sz29, append_m u3 u34, box_of b58, build_of bo58, len_slice u22, index_slice u22 sz3, bin_ptr u24, bin_bool u4 .eql (Or.inl rfl), bin_bool u4 .neq (Or.inr rfl), load_of ld29, store_of sz29, index_slice u34 sz29, b0, b1, b5, hlt, hlt', hmax, la, lb]
    obtain ⟨t2, g2, c0, c1, c5⟩ := q2
    have d0 := c0.trans b0
    have d1 := c1.trans b1
    have d5 := c5.trans b5
    have q3 : ∃ t3, execw Try.prog TT S r16_7 t2 m = some (.normal, t3, m) ∧ t3.get 0 = t2.get 0 ∧ t3.get 1 = t2.get 1 ∧ t3.get 5 = some (.int .i64 ((i + 1 : Nat) : Int)) := by
      simp only [r16_7, c16, bodyOf, Try.f16, Code.sub]
      simp [x_seq, x_region, x_cond, x_ret, x_skip, x_exit, sregion_false, sregion_quiet, floatB, quiet, loudB, sops_nil, sops_cons, sop1_plain, sop1_guard, syield, put_some, put_none, ev_tmp, ev_const, fill_nil, fill_cons, o_move, o_assign, o_bin, o_pick, o_nilCheck, o_fieldAddr, o_load, o_len, o_store, o_conv, o_un, o_extract, o_append, o_call, o_buildSlice, o_box, o_alloc, o_build, o_indexAddr, Tree.get_set, s_binOp, fastBin, s_unOp, fastUn, boolEq, sresults, sresultsL, sresult, one_int, one_slice, one_ptr, one_bool, one_str, cells_int, cells_slice, cells_ptr, cells_bool, cells_str, cells_agg, loadRow_new, window, over, -BitVec.toNat_or, -BitVec.toNat_ofInt, -BitVec.toNat_and, d0, d1, d5, w1]
    obtain ⟨t3, g3, f0, f1, f5⟩ := q3
    rw [loop_go (b := round16) (seq_ok g1 (seq_ok (block_ok g2) g3))]
    exact ih (i + 1) t3 (by omega) (by omega) ⟨f0.trans d0, f1.trans d1, f5⟩ (fun k hk => heq k (by omega))

/-- two rows of the same words are the same -/
theorem eq_run (hS : S 16 = []) {xs : List Int} {a b fa fb : Nat} (ha : Rdo m a (words xs) 29 fa) (hb : Rdo m b (words xs) 29 fb) (h63 : xs.length ≤ 1000000) :
    callw Try.prog TT S 16 [.slice (some ⟨a, 0, none⟩) xs.length xs.length, .slice (some ⟨b, 0, none⟩) xs.length xs.length] m = some (.bool true, m) := by
  have q0 : ∃ t0, execw Try.prog TT S r16_0 (fill .leaf [.slice (some ⟨a, 0, none⟩) xs.length xs.length, .slice (some ⟨b, 0, none⟩) xs.length xs.length] 0) m = some (.normal, t0, m) ∧ t0.get 0 = some (.slice (some ⟨a, 0, none⟩) xs.length xs.length) ∧ t0.get 1 = some (.slice (some ⟨b, 0, none⟩) xs.length xs.length) := by
    simp only [r16_0, c16, bodyOf, Try.f16, Code.sub]
    simp [x_seq, x_region, x_cond, x_ret, x_skip, x_exit, sregion_false, sregion_quiet, floatB, quiet, loudB, sops_nil, sops_cons, sop1_plain, sop1_guard, syield, put_some, put_none, ev_tmp, ev_const, fill_nil, fill_cons, o_move, o_assign, o_bin, o_pick, o_nilCheck, o_fieldAddr, o_load, o_len, o_store, o_conv, o_un, o_extract, o_append, o_call, o_buildSlice, o_box, o_alloc, o_build, o_indexAddr, Tree.get_set, s_binOp, fastBin, s_unOp, fastUn, boolEq, sresults, sresultsL, sresult, one_int, one_slice, one_ptr, one_bool, one_str, cells_int, cells_slice, cells_ptr, cells_bool, cells_str, cells_agg, loadRow_new, window, over, -BitVec.toNat_or, -BitVec.toNat_ofInt, -BitVec.toNat_and]
  obtain ⟨t0, g0, a0, a1⟩ := q0
  have q1 : ∃ t1, execw Try.prog TT S (.seq r16_1 (.cond (.tmp 10) (.seq r16_2 .ret) .skip)) t0 m = some (.normal, t1, m) ∧ t1.get 0 = t0.get 0 ∧ t1.get 1 = t0.get 1 := by
    simp only [r16_1, c16, bodyOf, Try.f16, Code.sub]
    simp [x_seq, x_region, x_cond, x_ret, x_skip, x_exit, sregion_false, sregion_quiet, floatB, quiet, loudB, sops_nil, sops_cons, sop1_plain, sop1_guard, syield, put_some, put_none, ev_tmp, ev_const, fill_nil, fill_cons, o_move, o_assign, o_bin, o_pick, o_nilCheck, o_fieldAddr, o_load, o_len, o_store, o_conv, o_un, o_extract, o_append, o_call, o_buildSlice, o_box, o_alloc, o_build, o_indexAddr, Tree.get_set, s_binOp, fastBin, s_unOp, fastUn, boolEq, sresults, sresultsL, sresult, one_int, one_slice, one_ptr, one_bool, one_str, cells_int, cells_slice, cells_ptr, cells_bool, cells_str, cells_agg, loadRow_new, window, over, -BitVec.toNat_or, -BitVec.toNat_ofInt, -BitVec.toNat_and, fieldAddr_of fa0, fieldAddr_of fa1, load_of ld3, load_of ld34, len_slice u34, store_of sz34, conv_i u3 u29, build_one u34 el29, append_s u34 sz29, append_m u3 u34, box_of b58, build_of bo58, len_slice u22, index_slice u22 sz3, bin_ptr u24, bin_bool u4 .eql (Or.inl rfl), bin_bool u4 .neq (Or.inr rfl), load_of ld29, store_of sz29, index_slice u34 sz29, a0, a1]
  obtain ⟨t1, g1, b0, b1⟩ := q1
  have c0 := b0.trans a0
  have c1 := b1.trans a1
  have q3 : ∃ t3, execw Try.prog TT S r16_3 t1 m = some (.normal, t3, m) ∧ t3.get 0 = t1.get 0 ∧ t3.get 1 = t1.get 1 ∧ t3.get 5 = some (.int .i64 ((0 : Nat) : Int)) := by
    simp only [r16_3, c16, bodyOf, Try.f16, Code.sub]
    simp [x_seq, x_region, x_cond, x_ret, x_skip, x_exit, sregion_false, sregion_quiet, floatB, quiet, loudB, sops_nil, sops_cons, sop1_plain, sop1_guard, syield, put_some, put_none, ev_tmp, ev_const, fill_nil, fill_cons, o_move, o_assign, o_bin, o_pick, o_nilCheck, o_fieldAddr, o_load, o_len, o_store, o_conv, o_un, o_extract, o_append, o_call, o_buildSlice, o_box, o_alloc, o_build, o_indexAddr, Tree.get_set, s_binOp, fastBin, s_unOp, fastUn, boolEq, sresults, sresultsL, sresult, one_int, one_slice, one_ptr, one_bool, one_str, cells_int, cells_slice, cells_ptr, cells_bool, cells_str, cells_agg, loadRow_new, window, over, -BitVec.toNat_or, -BitVec.toNat_ofInt, -BitVec.toNat_and, c0, c1]
  obtain ⟨t3, g3, d0, d1, d5⟩ := q3
  obtain ⟨t4, g4⟩ := eq_loop (S := S) ha hb rfl h63 _ 0 t3 rfl (Nat.zero_le _) ⟨d0.trans c0, d1.trans c1, d5⟩ (fun _ _ _ => rfl)
  have q8 : ∃ t8, execw Try.prog TT S (.seq r16_8 .ret) t4 m = some (.ret, t8, m) ∧ t8.get 4 = some (.bool true) := by
    simp only [r16_8, c16, bodyOf, Try.f16, Code.sub]
    simp [x_seq, x_region, x_cond, x_ret, x_skip, x_exit, sregion_false, sregion_quiet, floatB, quiet, loudB, sops_nil, sops_cons, sop1_plain, sop1_guard, syield, put_some, put_none, ev_tmp, ev_const, fill_nil, fill_cons, o_move, o_assign, o_bin, o_pick, o_nilCheck, o_fieldAddr, o_load, o_len, o_store, o_conv, o_un, o_extract, o_append, o_call, o_buildSlice, o_box, o_alloc, o_build, o_indexAddr, Tree.get_set, s_binOp, fastBin, s_unOp, fastUn, boolEq, sresults, sresultsL, sresult, one_int, one_slice, one_ptr, one_bool, one_str, cells_int, cells_slice, cells_ptr, cells_bool, cells_str, cells_agg, loadRow_new, window, over, -BitVec.toNat_or, -BitVec.toNat_ofInt, -BitVec.toNat_and]
  obtain ⟨t8, g8, n4⟩ := q8
  refine call_ok (c := c16) tt16 (by simp only [Try.f16, c16, bodyOf]) hS (by simp [Try.f16]) (Or.inr rfl) (t' := t8) ?_ (by simp [sresults, sresultsL, sresult, Try.f16, n4])
  rw [body16]
  exact seq_ok g0 (seq_ok g1 (seq_ok (seq_ok g3 (block_exit g4)) g8))

noncomputable def c14 : Code := bodyOf Try.f14
noncomputable def r14_0 : Code := Code.sub [0] c14
noncomputable def r14_1 : Code := Code.sub [1, 0] c14
theorem body14 : c14 = (.seq r14_0 (.seq r14_1 .ret)) := by kernel_rfl
theorem rp14 : readPlaces Try.prog (opsOf r14_1) = [(5, [1, 7])] := by kernel_rfl
theorem copy_run (hS14 : S 14 = []) (hS15 : S 15 = []) {hb hf wb wf : Nat} {ws : List Int} {room : Int} (h : HeapAt m hb hf wb wf ws room) (hne : ws ≠ []) (hw : ws.length ≤ 1000000) :
    ∃ m1 cb cf wb' wf', callw Try.prog TT S 14 [.pointer (some ⟨hb, 0, none⟩)] m = some (.pointer (some ⟨cb, 0, none⟩), m1) ∧ HeapAt m1 cb cf wb' wf' ws room ∧ m.next ≤ cf ∧ m.next ≤ wf' ∧ cf < m1.next ∧ wf' < m1.next ∧ Keeps m m1 [] := by
  obtain ⟨m1, nb, nf, hc, ho, n1, n2, hk, n3, n4⟩ := words_run (m := m) hS15 h hne hw
  have l1 := h.h.load1 (off := 1) rfl
  have l1' := (h.h.keep hk (by simp)).load1 (off := 1) rfl
  refine ⟨m1.new [.slice (some ⟨nb, 0, none⟩) ws.length ws.length, .int .i64 room] 58, m1.next, m1.next, nb, nf, ?_, ⟨Own.new m1 _ 58, ho.new_other _ _, by omega⟩, hk.1, n2, by simp [Mem.new], by simp [Mem.new]; omega, hk.trans (keeps_new _ _ _ _)⟩
  have q0 : ∃ t0, execw Try.prog TT S r14_0 (fill .leaf [.pointer (some ⟨hb, 0, none⟩)] 0) m = some (.normal, t0, m) ∧ t0.get 0 = some (.pointer (some ⟨hb, 0, none⟩)) := by
    simp only [r14_0, c14, bodyOf, Try.f14, Code.sub]
    simp [x_seq, x_region, x_cond, x_ret, x_skip, x_exit, sregion_false, sregion_quiet, floatB, quiet, loudB, sops_nil, sops_cons, sop1_plain, sop1_guard, syield, put_some, put_none, ev_tmp, ev_const, fill_nil, fill_cons, o_move, o_assign, o_bin, o_pick, o_nilCheck, o_fieldAddr, o_load, o_len, o_store, o_conv, o_un, o_extract, o_append, o_call, o_buildSlice, o_box, o_alloc, o_build, o_indexAddr, Tree.get_set, s_binOp, fastBin, s_unOp, fastUn, boolEq, sresults, sresultsL, sresult, one_int, one_slice, one_ptr, one_bool, one_str, cells_int, cells_slice, cells_ptr, cells_bool, cells_str, cells_agg, loadRow_new, window, over, -BitVec.toNat_or, -BitVec.toNat_ofInt, -BitVec.toNat_and]
  obtain ⟨t0, g0, a0⟩ := q0
  have q1 : ∃ t1, execw Try.prog TT S (.seq r14_1 .ret) t0 m = some (.ret, t1, m1.new [.slice (some ⟨nb, 0, none⟩) ws.length ws.length, .int .i64 room] 58) ∧ t1.get 2 = some (.pointer (some ⟨m1.next, 0, none⟩)) := by
    rw [x_seq, x_drawn (places := [(5, [1, 7])]) (by kernel_rfl) (by kernel_rfl) (by kernel_rfl) rp14]
    simp only [r14_1, c14, bodyOf, Try.f14, Code.sub, opsOf]
    simp [x_seq, x_region, x_cond, x_ret, x_skip, x_exit, sregion_false, sregion_quiet, floatB, quiet, loudB, sops_nil, sops_cons, sop1_plain, sop1_guard, syield, put_some, put_none, ev_tmp, ev_const, fill_nil, fill_cons, o_move, o_assign, o_bin, o_pick, o_nilCheck, o_fieldAddr, o_load, o_len, o_store, o_conv, o_un, o_extract, o_append, o_call, o_buildSlice, o_box, o_alloc, o_build, o_indexAddr, Tree.get_set, s_binOp, fastBin, s_unOp, fastUn, boolEq, sresults, sresultsL, sresult, one_int, one_slice, one_ptr, one_bool, one_str, cells_int, cells_slice, cells_ptr, cells_bool, cells_str, cells_agg, loadRow_new, window, over, -BitVec.toNat_or, -BitVec.toNat_ofInt, -BitVec.toNat_and, fieldAddr_of fa0, fieldAddr_of fa1, load_of ld3, load_of ld34, len_slice u34, store_of sz34, conv_i u3 u29, build_one u34 el29, append_s u34 sz29, append_m u3 u34, box_of b58, build_of bo58, len_slice u22, index_slice u22 sz3, bin_ptr u24, bin_bool u4 .eql (Or.inl rfl), bin_bool u4 .neq (Or.inr rfl), load_of ld29, store_of sz29, index_slice u34 sz29, states_nil, states_cons, readsAll, readsSame, eqV_int, Instr.fill, a0, hc, l1, l1']
  obtain ⟨t1, g1, n2⟩ := q1
  refine call_ok (c := c14) tt14 (by simp only [Try.f14, c14, bodyOf]) hS14 (by simp [Try.f14]) (Or.inr rfl) (t' := t1) ?_ (by simp [sresults, sresultsL, sresult, Try.f14, n2])
  rw [body14]
  exact seq_ok g0 g1

theorem alloc_any (hS : S 12 = []) {hb hf wb wf : Nat} {ws : List Int} {room t k : Int} (h : HeapAt m hb hf wb wf ws room) (hr : 0 < room ∧ room ≤ 65536) (hw : (ws.length : Int) ≤ room) :
    ∃ v m1 wb' ws', callw Try.prog TT S 12 [.pointer (some ⟨hb, 0, none⟩), .int .i64 t, .int .i64 k] m = some (v, m1) ∧ HeapAt m1 hb hf wb' wf ws' room ∧ Keeps m m1 [hf, wf] ∧ ws.length ≤ ws'.length ∧ (ws'.length : Int) ≤ room := by
  by_cases hno : noRoom ws room t k
  · exact ⟨_, m, wb, ws, alloc_no hS h hr (by omega) hno, h, .refl _ _, Nat.le_refl _, hw⟩
  · have hk : 0 ≤ k := by unfold noRoom at hno; omega
    obtain ⟨n, rfl⟩ : ∃ n : Nat, k = n := ⟨k.toNat, by omega⟩
    obtain ⟨m1, wb', h1, h2, h3⟩ := alloc_yes hS h hr (by omega) hno
    refine ⟨_, m1, wb', _, h1, h2, h3, by simp, ?_⟩
    unfold noRoom at hno
    simp
    omega

theorem put_any (hS : S 17 = []) {hb hf wb wf : Nat} {ws : List Int} {room at_ v : Int} (h : HeapAt m hb hf wb wf ws room) (h0 : 0 ≤ at_) (hw : ws.length ≤ 1000000) :
    ∃ b m1 ws', callw Try.prog TT S 17 [.pointer (some ⟨hb, 0, none⟩), .int .u64 at_, .int .u64 v] m = some (.bool b, m1) ∧ HeapAt m1 hb hf wb wf ws' room ∧ Keeps m m1 [wf] ∧ ws'.length = ws.length := by
  by_cases hno : at_ = 0 ∨ (ws.length : Int) ≤ at_
  · exact ⟨false, m, ws, put_no hS h hno hw, h, .refl _ _, rfl⟩
  · obtain ⟨i, rfl⟩ : ∃ i : Nat, at_ = i := ⟨at_.toNat, by omega⟩
    obtain ⟨m1, h1, h2, h3⟩ := put_yes (v := v) hS h (i := i) (by omega) (by omega) hw
    exact ⟨true, m1, _, h1, h2, h3, by simp⟩

theorem HeapAt.keep {m m1 : Mem} {hb hf wb wf : Nat} {ws : List Int} {room : Int} {fs : List Nat} (h : HeapAt m hb hf wb wf ws room) (k : Keeps m m1 fs) (h1 : hf ∉ fs) (h2 : wf ∉ fs) : HeapAt m1 hb hf wb wf ws room := ⟨h.h.keep k h1, h.w.keep k h2, h.ne⟩
end Go.Proofs.Ytmehepbejckmlaa.heapBase

