/-
  This text proves what the functions of package heap that ask an object do over the abstract run: head, Type, Len, at, Get, Set.
  Condition: nothing is known of their calls ahead ('S f = []').
-/
import Derived.Test.YtmehepbejckmlaaHeapBase
set_option maxRecDepth 100000
set_option linter.unusedSimpArgs false
set_option linter.unusedVariables false
namespace Go.Proofs.Ytmehepbejckmlaa.heapBase
open Go.Sh
section
variable {S : Sums} {m : Mem}

/-- the words are words -/
def Wd (ws : List Int) : Prop := ∀ w ∈ ws, 0 ≤ w ∧ w ≤ 18446744073709551615
theorem Wd.at_ {ws : List Int} (h : Wd ws) (i : Nat) : 0 ≤ ws.getD i 0 ∧ ws.getD i 0 ≤ 18446744073709551615 := by
  rw [List.getD_eq_getElem?_getD]
  cases hi : ws[i]? with
  | none => simp
  | some w => exact h w (List.mem_of_getElem? hi)

theorem and_mask {w : Int} (h0 : 0 ≤ w) (h1 : w ≤ 18446744073709551615) : (IntKind.u64.wrap ((BitVec.ofInt IntKind.u64.bits w &&& BitVec.ofInt IntKind.u64.bits 4294967295).toNat : Int)) = w % 4294967296 := by
  obtain ⟨n, rfl⟩ : ∃ n : Nat, w = n := ⟨w.toNat, by omega⟩
  have e1 : (BitVec.ofInt 64 (n : Int)).toNat = n := by
    rw [BitVec.toNat_ofInt]
    have : ((n : Int) % ((2 ^ 64 : Nat) : Int)) = n := Int.emod_eq_of_lt (by omega) (by omega)
    rw [this]; rfl
  have e2 : (BitVec.ofInt 64 4294967295).toNat = 2 ^ 32 - 1 := by decide
  have e3 : (BitVec.ofInt IntKind.u64.bits (n : Int) &&& BitVec.ofInt IntKind.u64.bits 4294967295).toNat = n % 2 ^ 32 := by
    show (BitVec.ofInt 64 (n : Int) &&& BitVec.ofInt 64 4294967295).toNat = n % 2 ^ 32
    rw [BitVec.toNat_and, e1, e2, Nat.and_two_pow_sub_one_eq_mod]
  rw [e3]
  have : ((n % 2 ^ 32 : Nat) : Int) = (n : Int) % 4294967296 := by omega
  rw [this]
  exact wrap_u64 (by omega) (by omega)

theorem shr_32 {w : Int} (h0 : 0 ≤ w) : w.fdiv 4294967296 = w / 4294967296 := by
  rw [Int.fdiv_eq_ediv]
  simp

noncomputable def c37 : Code := bodyOf Try.f37
noncomputable def r37_0 : Code := Code.sub [0] c37
noncomputable def r37_1 : Code := Code.sub [1, 0] c37
theorem body37 : c37 = (.seq r37_0 (.seq r37_1 .ret)) := by kernel_rfl
theorem head_run (hS37 : S 37 = []) (hS22 : S 22 = []) {hb hf wb wf : Nat} {ws : List Int} {room r : Int} (h : HeapAt m hb hf wb wf ws room) (h0 : 0 ≤ r) (hw : ws.length ≤ 1000000) :
    callw Try.prog TT S 37 [.pointer (some ⟨hb, 0, none⟩), .int .u64 r] m = some (.int .u64 (ws.getD r.toNat 0), m) := by
  have hc := word_run hS22 h h0 hw
  rw [x_call tt37 (by simp only [Try.f37]; rfl) hS37 _ (by simp [Try.f37])]
  simp [x_seq, x_region, x_cond, x_ret, x_skip, x_exit, sregion_false, sregion_quiet, floatB, quiet, loudB, sops_nil, sops_cons, sop1_plain, sop1_guard, syield, put_some, put_none, ev_tmp, ev_const, fill_nil, fill_cons, o_move, o_assign, o_bin, o_pick, o_nilCheck, o_fieldAddr, o_load, o_len, o_store, o_conv, o_un, o_extract, o_append, o_call, o_buildSlice, o_box, o_alloc, o_build, o_indexAddr, Tree.get_set, s_binOp, fastBin, s_unOp, fastUn, boolEq, sresults, sresultsL, sresult, one_int, one_slice, one_ptr, one_bool, one_str, cells_int, cells_slice, cells_ptr, cells_bool, cells_str, cells_agg, loadRow_new, window, over, -BitVec.toNat_or, -BitVec.toNat_ofInt, -BitVec.toNat_and, hc, Try.f37]

noncomputable def c19 : Code := bodyOf Try.f19
noncomputable def r19_0 : Code := Code.sub [0] c19
noncomputable def r19_1 : Code := Code.sub [1, 0] c19
theorem body19 : c19 = (.seq r19_0 (.seq r19_1 .ret)) := by kernel_rfl
theorem type_run (hS19 : S 19 = []) (hS37 : S 37 = []) (hS22 : S 22 = []) {hb hf wb wf : Nat} {ws : List Int} {room r : Int} (h : HeapAt m hb hf wb wf ws room) (h0 : 0 ≤ r) (hw : ws.length ≤ 1000000) (hd : Wd ws) :
    callw Try.prog TT S 19 [.pointer (some ⟨hb, 0, none⟩), .int .u64 r] m = some (.int .i64 (ws.getD r.toNat 0 / 4294967296), m) := by
  have hc := head_run hS37 hS22 h h0 hw
  obtain ⟨q0, q1⟩ := hd.at_ r.toNat
  generalize ws.getD r.toNat 0 = w at hc q0 q1
  have e1 := shr_32 q0
  have e2 : IntKind.i64.wrap (w / 4294967296) = w / 4294967296 := wrap_i64 (by omega) (by omega)
  have e3 : (2 : Int) ^ min 32 IntKind.u64.bits = 4294967296 := by decide
  rw [x_call tt19 (by simp only [Try.f19]; rfl) hS19 _ (by simp [Try.f19])]
  simp [x_seq, x_region, x_cond, x_ret, x_skip, x_exit, sregion_false, sregion_quiet, floatB, quiet, loudB, sops_nil, sops_cons, sop1_plain, sop1_guard, syield, put_some, put_none, ev_tmp, ev_const, fill_nil, fill_cons, o_move, o_assign, o_bin, o_pick, o_nilCheck, o_fieldAddr, o_load, o_len, o_store, o_conv, o_un, o_extract, o_append, o_call, o_buildSlice, o_box, o_alloc, o_build, o_indexAddr, Tree.get_set, s_binOp, fastBin, s_unOp, fastUn, boolEq, sresults, sresultsL, sresult, one_int, one_slice, one_ptr, one_bool, one_str, cells_int, cells_slice, cells_ptr, cells_bool, cells_str, cells_agg, loadRow_new, window, over, -BitVec.toNat_or, -BitVec.toNat_ofInt, -BitVec.toNat_and, fieldAddr_of fa0, fieldAddr_of fa1, load_of ld3, load_of ld34, len_slice u34, store_of sz34, conv_i u3 u29, build_one u34 el29, append_s u34 sz29, append_m u3 u34, box_of b58, build_of bo58, len_slice u22, index_slice u22 sz3, bin_ptr u24, bin_bool u4 .eql (Or.inl rfl), bin_bool u4 .neq (Or.inr rfl), load_of ld29, store_of sz29, index_slice u34 sz29, conv_i u29 u3, hc, e1, e2, e3, Try.f19]

noncomputable def c20 : Code := bodyOf Try.f20
noncomputable def r20_0 : Code := Code.sub [0] c20
noncomputable def r20_1 : Code := Code.sub [1, 0] c20
theorem body20 : c20 = (.seq r20_0 (.seq r20_1 .ret)) := by kernel_rfl
theorem len_run (hS20 : S 20 = []) (hS37 : S 37 = []) (hS22 : S 22 = []) {hb hf wb wf : Nat} {ws : List Int} {room r : Int} (h : HeapAt m hb hf wb wf ws room) (h0 : 0 ≤ r) (hw : ws.length ≤ 1000000) (hd : Wd ws) :
    callw Try.prog TT S 20 [.pointer (some ⟨hb, 0, none⟩), .int .u64 r] m = some (.int .i64 (ws.getD r.toNat 0 % 4294967296), m) := by
  have hc := head_run hS37 hS22 h h0 hw
  obtain ⟨q0, q1⟩ := hd.at_ r.toNat
  generalize ws.getD r.toNat 0 = w at hc q0 q1
  have e1 := and_mask q0 q1
  have e2 : IntKind.i64.wrap (w % 4294967296) = w % 4294967296 := wrap_i64 (by omega) (by omega)
  rw [x_call tt20 (by simp only [Try.f20]; rfl) hS20 _ (by simp [Try.f20])]
  have e1' : (IntKind.u64.wrap ((BitVec.ofInt IntKind.u64.bits w &&& 4294967295#IntKind.u64.bits).toNat : Int)) = w % 4294967296 := e1
  simp [x_seq, x_region, x_cond, x_ret, x_skip, x_exit, sregion_false, sregion_quiet, floatB, quiet, loudB, sops_nil, sops_cons, sop1_plain, sop1_guard, syield, put_some, put_none, ev_tmp, ev_const, fill_nil, fill_cons, o_move, o_assign, o_bin, o_pick, o_nilCheck, o_fieldAddr, o_load, o_len, o_store, o_conv, o_un, o_extract, o_append, o_call, o_buildSlice, o_box, o_alloc, o_build, o_indexAddr, Tree.get_set, s_binOp, fastBin, s_unOp, fastUn, boolEq, sresults, sresultsL, sresult, one_int, one_slice, one_ptr, one_bool, one_str, cells_int, cells_slice, cells_ptr, cells_bool, cells_str, cells_agg, loadRow_new, window, over, -BitVec.toNat_or, -BitVec.toNat_ofInt, -BitVec.toNat_and, fieldAddr_of fa0, fieldAddr_of fa1, load_of ld3, load_of ld34, len_slice u34, store_of sz34, conv_i u3 u29, build_one u34 el29, append_s u34 sz29, append_m u3 u34, box_of b58, build_of bo58, len_slice u22, index_slice u22 sz3, bin_ptr u24, bin_bool u4 .eql (Or.inl rfl), bin_bool u4 .neq (Or.inr rfl), load_of ld29, store_of sz29, index_slice u34 sz29, conv_i u29 u3, hc, e1', e2, Try.f20]

noncomputable def c36 : Code := bodyOf Try.f36
noncomputable def r36_0 : Code := Code.sub [0] c36
noncomputable def r36_1 : Code := Code.sub [1, 0, 0] c36
noncomputable def r36_2 : Code := Code.sub [1, 0, 1, 0, 0] c36
noncomputable def r36_3 : Code := Code.sub [1, 1, 0] c36
theorem body36 : c36 = (.seq r36_0 (.seq (.seq r36_1 (.cond (.tmp 15) (.seq r36_2 .ret) .skip)) (.seq r36_3 .ret))) := by kernel_rfl
/-- where an object's word stands -/
def atV (ws : List Int) (r i : Int) : Int := if 0 ≤ i ∧ i < ws.getD r.toNat 0 % 4294967296 then IntKind.u64.wrap (IntKind.u64.wrap (r + 1) + IntKind.u64.wrap i) else 0
theorem at_run (hS36 : S 36 = []) (hS20 : S 20 = []) (hS37 : S 37 = []) (hS22 : S 22 = []) {hb hf wb wf : Nat} {ws : List Int} {room r i : Int} (h : HeapAt m hb hf wb wf ws room) (h0 : 0 ≤ r) (hw : ws.length ≤ 1000000) (hd : Wd ws) :
    callw Try.prog TT S 36 [.pointer (some ⟨hb, 0, none⟩), .int .u64 r, .int .i64 i] m = some (.int .u64 (atV ws r i), m) := by
  have hc := len_run hS20 hS37 hS22 h h0 hw hd
  unfold atV
  generalize ws.getD r.toNat 0 % 4294967296 = l at hc
  rw [x_call tt36 (by simp only [Try.f36]; rfl) hS36 _ (by simp [Try.f36])]
  by_cases a1 : i < 0
  · have a2 : ¬ (0 ≤ i) := by omega
    simp [x_seq, x_region, x_cond, x_ret, x_skip, x_exit, sregion_false, sregion_quiet, floatB, quiet, loudB, sops_nil, sops_cons, sop1_plain, sop1_guard, syield, put_some, put_none, ev_tmp, ev_const, fill_nil, fill_cons, o_move, o_assign, o_bin, o_pick, o_nilCheck, o_fieldAddr, o_load, o_len, o_store, o_conv, o_un, o_extract, o_append, o_call, o_buildSlice, o_box, o_alloc, o_build, o_indexAddr, Tree.get_set, s_binOp, fastBin, s_unOp, fastUn, boolEq, sresults, sresultsL, sresult, one_int, one_slice, one_ptr, one_bool, one_str, cells_int, cells_slice, cells_ptr, cells_bool, cells_str, cells_agg, loadRow_new, window, over, -BitVec.toNat_or, -BitVec.toNat_ofInt, -BitVec.toNat_and, fieldAddr_of fa0, fieldAddr_of fa1, load_of ld3, load_of ld34, len_slice u34, store_of sz34, conv_i u3 u29, build_one u34 el29, append_s u34 sz29, append_m u3 u34, box_of b58, build_of bo58, len_slice u22, index_slice u22 sz3, bin_ptr u24, bin_bool u4 .eql (Or.inl rfl), bin_bool u4 .neq (Or.inr rfl), load_of ld29, store_of sz29, index_slice u34 sz29, conv_i u29 u3, hc, a1, a2, Try.f36]
  · have a2 : 0 ≤ i := by omega
    by_cases a3 : l ≤ i
    · have a4 : ¬ (i < l) := by omega
      simp [x_seq, x_region, x_cond, x_ret, x_skip, x_exit, sregion_false, sregion_quiet, floatB, quiet, loudB, sops_nil, sops_cons, sop1_plain, sop1_guard, syield, put_some, put_none, ev_tmp, ev_const, fill_nil, fill_cons, o_move, o_assign, o_bin, o_pick, o_nilCheck, o_fieldAddr, o_load, o_len, o_store, o_conv, o_un, o_extract, o_append, o_call, o_buildSlice, o_box, o_alloc, o_build, o_indexAddr, Tree.get_set, s_binOp, fastBin, s_unOp, fastUn, boolEq, sresults, sresultsL, sresult, one_int, one_slice, one_ptr, one_bool, one_str, cells_int, cells_slice, cells_ptr, cells_bool, cells_str, cells_agg, loadRow_new, window, over, -BitVec.toNat_or, -BitVec.toNat_ofInt, -BitVec.toNat_and, fieldAddr_of fa0, fieldAddr_of fa1, load_of ld3, load_of ld34, len_slice u34, store_of sz34, conv_i u3 u29, build_one u34 el29, append_s u34 sz29, append_m u3 u34, box_of b58, build_of bo58, len_slice u22, index_slice u22 sz3, bin_ptr u24, bin_bool u4 .eql (Or.inl rfl), bin_bool u4 .neq (Or.inr rfl), load_of ld29, store_of sz29, index_slice u34 sz29, conv_i u29 u3, hc, a1, a2, a3, a4, Try.f36]
    · have a4 : i < l := by omega
      simp [x_seq, x_region, x_cond, x_ret, x_skip, x_exit, sregion_false, sregion_quiet, floatB, quiet, loudB, sops_nil, sops_cons, sop1_plain, sop1_guard, syield, put_some, put_none, ev_tmp, ev_const, fill_nil, fill_cons, o_move, o_assign, o_bin, o_pick, o_nilCheck, o_fieldAddr, o_load, o_len, o_store, o_conv, o_un, o_extract, o_append, o_call, o_buildSlice, o_box, o_alloc, o_build, o_indexAddr, Tree.get_set, s_binOp, fastBin, s_unOp, fastUn, boolEq, sresults, sresultsL, sresult, one_int, one_slice, one_ptr, one_bool, one_str, cells_int, cells_slice, cells_ptr, cells_bool, cells_str, cells_agg, loadRow_new, window, over, -BitVec.toNat_or, -BitVec.toNat_ofInt, -BitVec.toNat_and, fieldAddr_of fa0, fieldAddr_of fa1, load_of ld3, load_of ld34, len_slice u34, store_of sz34, conv_i u3 u29, build_one u34 el29, append_s u34 sz29, append_m u3 u34, box_of b58, build_of bo58, len_slice u22, index_slice u22 sz3, bin_ptr u24, bin_bool u4 .eql (Or.inl rfl), bin_bool u4 .neq (Or.inr rfl), load_of ld29, store_of sz29, index_slice u34 sz29, conv_i u29 u3, hc, a1, a2, a3, a4, Try.f36]

theorem wrap_u64_nonneg (x : Int) : 0 ≤ IntKind.u64.wrap x := by
  have e1 : (2 : Int) ^ IntKind.u64.bits = 18446744073709551616 := by decide
  have e3 : IntKind.u64.signed = false := rfl
  simp only [IntKind.wrap, e1, e3, Bool.false_and]
  simp
  omega
theorem atV_nonneg (ws : List Int) (r i : Int) : 0 ≤ atV ws r i := by
  unfold atV
  split
  · exact wrap_u64_nonneg _
  · omega

noncomputable def c21 : Code := bodyOf Try.f21
noncomputable def r21_0 : Code := Code.sub [0] c21
noncomputable def r21_1 : Code := Code.sub [1, 0] c21
theorem body21 : c21 = (.seq r21_0 (.seq r21_1 .ret)) := by kernel_rfl
theorem get_run (hS21 : S 21 = []) (hS36 : S 36 = []) (hS20 : S 20 = []) (hS37 : S 37 = []) (hS22 : S 22 = []) {hb hf wb wf : Nat} {ws : List Int} {room r i : Int} (h : HeapAt m hb hf wb wf ws room) (h0 : 0 ≤ r) (hw : ws.length ≤ 1000000) (hd : Wd ws) :
    callw Try.prog TT S 21 [.pointer (some ⟨hb, 0, none⟩), .int .u64 r, .int .i64 i] m = some (.int .u64 (ws.getD (atV ws r i).toNat 0), m) := by
  have hc := at_run (i := i) hS36 hS20 hS37 hS22 h h0 hw hd
  have hc2 := word_run hS22 h (atV_nonneg ws r i) hw
  generalize ws.getD (atV ws r i).toNat 0 = w at hc2
  generalize atV ws r i = p at hc hc2
  rw [x_call tt21 (by simp only [Try.f21]; rfl) hS21 _ (by simp [Try.f21])]
  simp [x_seq, x_region, x_cond, x_ret, x_skip, x_exit, sregion_false, sregion_quiet, floatB, quiet, loudB, sops_nil, sops_cons, sop1_plain, sop1_guard, syield, put_some, put_none, ev_tmp, ev_const, fill_nil, fill_cons, o_move, o_assign, o_bin, o_pick, o_nilCheck, o_fieldAddr, o_load, o_len, o_store, o_conv, o_un, o_extract, o_append, o_call, o_buildSlice, o_box, o_alloc, o_build, o_indexAddr, Tree.get_set, s_binOp, fastBin, s_unOp, fastUn, boolEq, sresults, sresultsL, sresult, one_int, one_slice, one_ptr, one_bool, one_str, cells_int, cells_slice, cells_ptr, cells_bool, cells_str, cells_agg, loadRow_new, window, over, -BitVec.toNat_or, -BitVec.toNat_ofInt, -BitVec.toNat_and, hc, hc2, Try.f21]

noncomputable def c18 : Code := bodyOf Try.f18
noncomputable def r18_0 : Code := Code.sub [0] c18
noncomputable def r18_1 : Code := Code.sub [1, 0] c18
theorem body18 : c18 = (.seq r18_0 (.seq r18_1 .ret)) := by kernel_rfl
theorem set_run (hS18 : S 18 = []) (hS36 : S 36 = []) (hS20 : S 20 = []) (hS37 : S 37 = []) (hS22 : S 22 = []) {hb hf wb wf : Nat} {ws : List Int} {room r i v : Int} {ok : Bool} {m1 : Mem} (h : HeapAt m hb hf wb wf ws room) (h0 : 0 ≤ r) (hw : ws.length ≤ 1000000) (hd : Wd ws)
    (hp : callw Try.prog TT S 17 [.pointer (some ⟨hb, 0, none⟩), .int .u64 (atV ws r i), .int .u64 v] m = some (.bool ok, m1)) :
    callw Try.prog TT S 18 [.pointer (some ⟨hb, 0, none⟩), .int .u64 r, .int .i64 i, .int .u64 v] m = some (.bool ok, m1) := by
  have hc := at_run (i := i) hS36 hS20 hS37 hS22 h h0 hw hd
  generalize atV ws r i = p at hc hp
  rw [x_call tt18 (by simp only [Try.f18]; rfl) hS18 _ (by simp [Try.f18])]
  simp [x_seq, x_region, x_cond, x_ret, x_skip, x_exit, sregion_false, sregion_quiet, floatB, quiet, loudB, sops_nil, sops_cons, sop1_plain, sop1_guard, syield, put_some, put_none, ev_tmp, ev_const, fill_nil, fill_cons, o_move, o_assign, o_bin, o_pick, o_nilCheck, o_fieldAddr, o_load, o_len, o_store, o_conv, o_un, o_extract, o_append, o_call, o_buildSlice, o_box, o_alloc, o_build, o_indexAddr, Tree.get_set, s_binOp, fastBin, s_unOp, fastUn, boolEq, sresults, sresultsL, sresult, one_int, one_slice, one_ptr, one_bool, one_str, cells_int, cells_slice, cells_ptr, cells_bool, cells_str, cells_agg, loadRow_new, window, over, -BitVec.toNat_or, -BitVec.toNat_ofInt, -BitVec.toNat_and, hc, hp, Try.f18]

/-- a head tells what it was made of -/
theorem head_val {t n : Int} (ht : 0 ≤ t ∧ t ≤ 1048576) (hn : 0 ≤ n ∧ n ≤ 1048576) : headOf t n = t * 4294967296 + n := by
  obtain ⟨a, rfl⟩ : ∃ a : Nat, t = a := ⟨t.toNat, by omega⟩
  obtain ⟨b, rfl⟩ : ∃ b : Nat, n = b := ⟨n.toNat, by omega⟩
  have e3 : (2 : Int) ^ min 32 IntKind.u64.bits = 4294967296 := by decide
  have e0 : IntKind.u64.wrap (a : Int) = a := wrap_u64 (by omega) (by omega)
  have e0' : IntKind.u64.wrap (b : Int) = b := wrap_u64 (by omega) (by omega)
  have e4 : IntKind.u64.wrap ((a : Int) * 4294967296) = ((a * 2 ^ 32 : Nat) : Int) := by rw [wrap_u64 (by omega) (by omega)]; omega
  have toN : ∀ x : Nat, x ≤ 18446744073709551615 → (BitVec.ofInt IntKind.u64.bits (x : Int)).toNat = x := by
    intro x hx
    show (BitVec.ofInt 64 (x : Int)).toNat = x
    rw [BitVec.toNat_ofInt]
    have : ((x : Int) % ((2 ^ 64 : Nat) : Int)) = x := Int.emod_eq_of_lt (by omega) (by omega)
    rw [this]; rfl
  unfold headOf
  rw [e3, e0, e0', e4, BitVec.toNat_or, toN _ (by omega), toN _ (by omega)]
  have : a * 2 ^ 32 ||| b = a * 2 ^ 32 + b := by
    rw [Nat.mul_comm]
    exact (Nat.two_pow_add_eq_or_of_lt (by omega) a).symm
  rw [this, wrap_u64 (by omega) (by omega)]
  omega
end
end Go.Proofs.Ytmehepbejckmlaa.heapBase

