/-
  This text proves what the functions of package heap do over the abstract run.
  Condition: nothing is known of their calls ahead ('S f = []').
-/
import Derived.Test.YtggbgelfgfmikaaDoorGen
set_option maxRecDepth 100000
set_option linter.unusedSimpArgs false
set_option linter.unusedVariables false
namespace Go.Proofs.YtggbgelfgfmikaaDoor.base
open Go.Sh gen
variable {S : Sums} {m : Mem}
def words (ws : List Int) : List Value := ws.map (Value.int .u64)
structure HeapAt (m : Mem) (hb hf wb wf : Nat) (ws : List Int) (room : Int) : Prop where
  h : Own m hb [.slice (some ⟨wb, 0, none⟩) ws.length ws.length, .int .i64 room] 92 hf
  w : Own m wb (words ws) 22 wf
  ne : hf ≠ wf
theorem HeapAt.keep {m m1 : Mem} {hb hf wb wf : Nat} {ws : List Int} {room : Int} {fs : List Nat} (h : HeapAt m hb hf wb wf ws room) (k : Keeps m m1 fs) (h1 : hf ∉ fs) (h2 : wf ∉ fs) : HeapAt m1 hb hf wb wf ws room := ⟨h.h.keep k h1, h.w.keep k h2, h.ne⟩
theorem used_run (hS : S 43 = []) {hb hf wb wf : Nat} {ws : List Int} {room : Int} (h : HeapAt m hb hf wb wf ws room) : callw Tryd.prog TT S 43 [.pointer (some ⟨hb, 0, none⟩)] m = some (.int .i64 ws.length, m) := by
  have l0 := h.h.load1 (off := 0) rfl
  refine fn_eq 3 [] k43 hS rfl ?_
  simp [-BitVec.toNat_or, -BitVec.toNat_ofInt, -BitVec.toNat_and, fieldAddr_of fa92_0, load_of ld56, len_slice u56, l0]
theorem words_at {ws : List Int} {i : Nat} (h : i < ws.length) : (words ws)[i]? = some (.int .u64 (ws.getD i 0)) := by
  simp [words, List.getD_eq_getElem?_getD, List.getElem?_eq_getElem h]
theorem word_run (hS : S 60 = []) {hb hf wb wf : Nat} {ws : List Int} {room at_ : Int} (h : HeapAt m hb hf wb wf ws room) (h0 : 0 ≤ at_) (hw : ws.length ≤ 1000000) :
    callw Tryd.prog TT S 60 [.pointer (some ⟨hb, 0, none⟩), .int .u64 at_] m = some (.int .u64 (ws.getD at_.toNat 0), m) := by
  have l0 := h.h.load1 (off := 0) rfl
  have hwu : IntKind.u64.wrap ws.length = ws.length := wrap_u64 (by omega) (by omega)
  refine fn_eq 5 [12] k60 hS rfl ?_
  simp [-BitVec.toNat_or, -BitVec.toNat_ofInt, -BitVec.toNat_and, fieldAddr_of fa92_0, load_of ld56, len_slice u56, conv_i u3 u22, index_slice u56 sz22, load_of ld22, l0, hwu]
  refine cnd_dec (fun hge => ?_) (fun hge => ?_)
  · have hd : ws[at_.toNat]? = none := List.getElem?_eq_none (by omega)
    simp [-BitVec.toNat_or, -BitVec.toNat_ofInt, -BitVec.toNat_and, fieldAddr_of fa92_0, load_of ld56, len_slice u56, conv_i u3 u22, index_slice u56 sz22, load_of ld22, hd]
  · have hlt : at_.toNat < ws.length := by omega
    have l1 := h.w.load1 (off := at_.toNat) (words_at hlt)
    have hmax : at_ ≤ 9223372036854775807 := by omega
    simp only [List.getD_eq_getElem?_getD] at l1
    simp [-BitVec.toNat_or, -BitVec.toNat_ofInt, -BitVec.toNat_and, fieldAddr_of fa92_0, load_of ld56, len_slice u56, conv_i u3 u22, index_slice u56 sz22, load_of ld22, l0, l1, h0, hmax, hlt]
def noRoom (ws : List Int) (room t n : Int) : Prop := t < 0 ∨ 1048576 < t ∨ n < 0 ∨ 1048576 < n ∨ room - ws.length ≤ n
def headOf (t n : Int) : Int := IntKind.u64.wrap (BitVec.ofInt IntKind.u64.bits (IntKind.u64.wrap (IntKind.u64.wrap t * 2 ^ (min 32 IntKind.u64.bits))) ||| BitVec.ofInt IntKind.u64.bits (IntKind.u64.wrap n)).toNat
theorem alloc_no (hS : S 48 = []) {hb hf wb wf : Nat} {ws : List Int} {room t n : Int} (h : HeapAt m hb hf wb wf ws room)
    (hr : 0 < room ∧ room ≤ 65536) (hw : ws.length ≤ 65536) (hno : noRoom ws room t n) :
    callw Tryd.prog TT S 48 [.pointer (some ⟨hb, 0, none⟩), .int .i64 t, .int .i64 n] m = some (.tuple #[.int .u64 0, .bool false], m) := by
  have l0 := h.h.load1 (off := 0) rfl
  have l1 := h.h.load1 (off := 1) rfl
  have hwr : IntKind.i64.wrap (room - ws.length) = room - ws.length := wrap_i64 (by omega) (by omega)
  refine fn_eq 9 [36] k48 hS rfl ?_
  unfold noRoom at hno
  by_cases a1 : t < 0
  · simp [-BitVec.toNat_or, -BitVec.toNat_ofInt, -BitVec.toNat_and, fieldAddr_of fa92_1, load_of ld3, fieldAddr_of fa92_0, load_of ld56, len_slice u56, conv_i u3 u22, buildSlice_of u56 bs22 rfl, append_s u56 sz22, store_of sz56, append_m u3 u56, l0, l1, a1]
  by_cases a2 : 1048576 < t
  · simp [-BitVec.toNat_or, -BitVec.toNat_ofInt, -BitVec.toNat_and, fieldAddr_of fa92_1, load_of ld3, fieldAddr_of fa92_0, load_of ld56, len_slice u56, conv_i u3 u22, buildSlice_of u56 bs22 rfl, append_s u56 sz22, store_of sz56, append_m u3 u56, l0, l1, a1, a2]
  by_cases a3 : n < 0
  · simp [-BitVec.toNat_or, -BitVec.toNat_ofInt, -BitVec.toNat_and, fieldAddr_of fa92_1, load_of ld3, fieldAddr_of fa92_0, load_of ld56, len_slice u56, conv_i u3 u22, buildSlice_of u56 bs22 rfl, append_s u56 sz22, store_of sz56, append_m u3 u56, l0, l1, a1, a2, a3]
  by_cases a4 : 1048576 < n
  · simp [-BitVec.toNat_or, -BitVec.toNat_ofInt, -BitVec.toNat_and, fieldAddr_of fa92_1, load_of ld3, fieldAddr_of fa92_0, load_of ld56, len_slice u56, conv_i u3 u22, buildSlice_of u56 bs22 rfl, append_s u56 sz22, store_of sz56, append_m u3 u56, l0, l1, a1, a2, a3, a4]
  have a5 : room - ws.length ≤ n := by omega
  simp [-BitVec.toNat_or, -BitVec.toNat_ofInt, -BitVec.toNat_and, fieldAddr_of fa92_1, load_of ld3, fieldAddr_of fa92_0, load_of ld56, len_slice u56, conv_i u3 u22, buildSlice_of u56 bs22 rfl, append_s u56 sz22, store_of sz56, append_m u3 u56, l0, l1, hwr, a1, a2, a3, a4, a5]
theorem alloc_yes (hS : S 48 = []) {hb hf wb wf : Nat} {ws : List Int} {room t : Int} {n : Nat} (h : HeapAt m hb hf wb wf ws room)
    (hr : 0 < room ∧ room ≤ 65536) (hw : ws.length ≤ 65536) (hno : ¬ noRoom ws room t n) :
    ∃ v m1, callw Tryd.prog TT S 48 [.pointer (some ⟨hb, 0, none⟩), .int .i64 t, .int .i64 n] m = some (v, m1) ∧ v = .tuple #[.int .u64 ws.length, .bool true] ∧
      (∃ wb', HeapAt m1 hb hf wb' wf (ws ++ [headOf t n] ++ List.replicate n 0) room) ∧ Keeps m m1 [hf, wf] := by
  have l0 := h.h.load1 (off := 0) rfl
  have l1 := h.h.load1 (off := 1) rfl
  have hwr : IntKind.i64.wrap (room - ws.length) = room - ws.length := wrap_i64 (by omega) (by omega)
  have hwu : IntKind.u64.wrap ws.length = ws.length := wrap_u64 (by omega) (by omega)
  unfold noRoom at hno
  have a1 : ¬ t < 0 := by omega
  have a2 : ¬ 1048576 < t := by omega
  have a3 : ¬ (n : Int) < 0 := by omega
  have a4 : ¬ 1048576 < (n : Int) := by omega
  have a5 : ¬ room - ws.length ≤ n := by omega
  refine fn_w 9 [36] k48 hS rfl ?_
  simp [-BitVec.toNat_or, -BitVec.toNat_ofInt, -BitVec.toNat_and, fieldAddr_of fa92_1, load_of ld3, fieldAddr_of fa92_0, load_of ld56, len_slice u56, conv_i u3 u22, buildSlice_of u56 bs22 rfl, append_s u56 sz22, store_of sz56, append_m u3 u56, l0, l1, a1, a2, a3, a4, a5, hwr, hwu]
  generalize hr1 : sappend _ _ _ _ _ _ = r1
  obtain ⟨m1, b1, rfl, o1, k1⟩ := app_own_new hr1 u56 ap22 h.w (by simp [words]) (by simp) (by simp [one_int]) (by omega) (by omega)
  have h1 := h.h.keep k1 (by simpa using h.ne)
  simp [-BitVec.toNat_or, -BitVec.toNat_ofInt, -BitVec.toNat_and, fieldAddr_of fa92_1, load_of ld3, fieldAddr_of fa92_0, load_of ld56, len_slice u56, conv_i u3 u22, buildSlice_of u56 bs22 rfl, append_s u56 sz22, store_of sz56, append_m u3 u56]
  generalize hr2 : storeRow _ _ _ = r2
  obtain ⟨m2, rfl, h2, k2⟩ := store_own hr2 h1 (by simp) (by simp [one_slice])
  have o2 := o1.keep k2 (by simpa using h.ne.symm)
  simp [over] at h2
  have l2 := h2.load1 (off := 0) rfl
  have hz : zerosOf Tryd.prog 22 n = some (List.replicate n (.int .u64 0)) := zeros_one (by kernel_rfl : zOk Tryd.prog 22 8 (.int .u64 0) = true) rfl rfl (by omega)
  have hc2 : (n : Int) ≤ 9223372036854775807 := by omega
  simp [-BitVec.toNat_or, -BitVec.toNat_ofInt, -BitVec.toNat_and, fieldAddr_of fa92_1, load_of ld3, fieldAddr_of fa92_0, load_of ld56, len_slice u56, conv_i u3 u22, buildSlice_of u56 bs22 rfl, append_s u56 sz22, store_of sz56, append_m u3 u56, l2, hz, hc2]
  generalize hr3 : sappend _ _ _ _ _ _ = r3
  obtain ⟨m3, b3, rfl, o3, k3⟩ := app_own hr3 u56 ap22 o2 (by simp [words]) (by simp) (by simp [one_int]) (by omega) (by omega)
  have h3 := h2.keep k3 (by simpa using h.ne)
  simp [-BitVec.toNat_or, -BitVec.toNat_ofInt, -BitVec.toNat_and, fieldAddr_of fa92_1, load_of ld3, fieldAddr_of fa92_0, load_of ld56, len_slice u56, conv_i u3 u22, buildSlice_of u56 bs22 rfl, append_s u56 sz22, store_of sz56, append_m u3 u56]
  generalize hr4 : storeRow _ _ _ = r4
  obtain ⟨m4, rfl, h4, k4⟩ := store_own hr4 h3 (by simp) (by simp [one_slice])
  have o4 := o3.keep k4 (by simpa using h.ne.symm)
  simp [over] at h4
  simp [-BitVec.toNat_or, -BitVec.toNat_ofInt, -BitVec.toNat_and, fieldAddr_of fa92_1, load_of ld3, fieldAddr_of fa92_0, load_of ld56, len_slice u56, conv_i u3 u22, buildSlice_of u56 bs22 rfl, append_s u56 sz22, store_of sz56, append_m u3 u56]
  refine ⟨⟨b3, by simpa [show (ws.length + (n + 1)) = ws.length + 1 + n by omega] using h4, ?_, h.ne⟩, ?_⟩
  · simpa [words, headOf] using o4
  · exact ((k1.mono (by simp)).trans (k2.mono (by simp))).trans ((k3.mono (by simp)).trans (k4.mono (by simp)))
theorem new_run (hS : S 40 = []) (room : Int) (h1 : 1 ≤ room) (h2 : room ≤ 65536) : ∃ v m1, callw Tryd.prog TT S 40 [.int .i64 room] m = some (v, m1) ∧ ∃ hb wb, v = .tuple #[.pointer (some ⟨hb, 0, none⟩), .int .i64 0] ∧
    HeapAt m1 hb hb wb wb [0] room ∧ m.next ≤ hb ∧ m.next ≤ wb ∧ Keeps m m1 [] := by
  have a1 : ¬ room < 1 := by omega
  have a2 : ¬ 65536 < room := by omega
  refine fn_w 4 [9] k40 hS rfl ?_
  simp [-BitVec.toNat_or, -BitVec.toNat_ofInt, -BitVec.toNat_and, buildSlice_of u56 bs22 rfl, build_of bo92, box_of b92, a1, a2]
  refine ⟨m.next, ⟨Own.new (m.new [.int .u64 0] 22) _ 92, (Own.new m _ 22).new_other _ _, by simp [Mem.new]⟩, by simp [Mem.new], Nat.le_refl _, (keeps_new _ _ _ _).trans (keeps_new _ _ _ _)⟩
theorem emod_tmod (x k : Int) (hk : 0 < k) : x % k = if x.tmod k < 0 then x.tmod k + k else x.tmod k := by
  have hx := Int.emod_nonneg x (by omega : k ≠ 0)
  have hx2 := Int.emod_lt_of_pos x hk
  split
  · rename_i h
    have : (x.tmod k + k) % k = x % k := by
      rw [Int.add_emod_right]
      have h3 := Int.tmod_add_mul_tdiv x k
      have : x.tmod k = x - k * x.tdiv k := by omega
      rw [this, Int.sub_mul_emod_self_left]
    rw [← this]
    have := Int.lt_tmod_of_pos x hk
    exact Int.emod_eq_of_lt (by omega) (by omega)
  · rename_i h
    have : (x.tmod k) % k = x % k := by
      have h3 := Int.tmod_add_mul_tdiv x k
      have : x.tmod k = x - k * x.tdiv k := by omega
      rw [this, Int.sub_mul_emod_self_left]
    rw [← this]
    have := Int.tmod_lt_of_pos x hk
    exact Int.emod_eq_of_lt (by omega) (by omega)
theorem pick_run (hS : S 11 = []) (x k : Int) (hk : 0 < k) (hk2 : k < 1000000) : callw Tryd.prog TT S 11 [.int .i64 x, .int .i64 k] m = some (.int .i64 (x % k), m) := by
  have hx := Int.emod_nonneg x (by omega : k ≠ 0)
  have hx2 := Int.emod_lt_of_pos x hk
  have hk0 : k ≠ 0 := by omega
  have hw : IntKind.i64.wrap (x % k) = x % k := wrap_i64 (by omega) (by omega)
  have e := emod_tmod x k hk
  refine fn_eq 5 [9] k11 hS rfl ?_
  by_cases h : x.tmod k < 0
  · rw [if_pos h] at e
    rw [e] at hw ⊢
    simp [-BitVec.toNat_or, -BitVec.toNat_ofInt, -BitVec.toNat_and, id, hk0, h, hw]
  · rw [if_neg h] at e
    rw [e]
    simp [-BitVec.toNat_or, -BitVec.toNat_ofInt, -BitVec.toNat_and, id, hk0, h]
theorem over_words {ws : List Int} {i : Nat} (v : Int) (hlt : i < ws.length) : over (words ws) i [.int .u64 v] = words (ws.set i v) := by
  unfold over words
  rw [List.map_set, List.set_eq_take_append_cons_drop, if_pos (by simpa using hlt)]
  simp
theorem put_yes (hS : S 63 = []) {hb hf wb wf : Nat} {ws : List Int} {room v : Int} {i : Nat} (h : HeapAt m hb hf wb wf ws room) (h0 : i ≠ 0) (hlt : i < ws.length) (hw : ws.length ≤ 1000000) :
    ∃ r m1, callw Tryd.prog TT S 63 [.pointer (some ⟨hb, 0, none⟩), .int .u64 i, .int .u64 v] m = some (r, m1) ∧ r = .bool true ∧ HeapAt m1 hb hf wb wf (ws.set i v) room ∧ Keeps m m1 [wf] := by
  have l0 := h.h.load1 (off := 0) rfl
  have hwu : IntKind.u64.wrap ws.length = ws.length := wrap_u64 (by omega) (by omega)
  have hge : ¬ ((ws.length : Int) ≤ i) := by omega
  have hmax : (i : Int) ≤ 9223372036854775807 := by omega
  refine fn_w 7 [18] k63 hS rfl ?_
  simp [-BitVec.toNat_or, -BitVec.toNat_ofInt, -BitVec.toNat_and, fieldAddr_of fa92_0, load_of ld56, len_slice u56, conv_i u3 u22, index_slice u56 sz22, store_of sz22, l0, hwu, h0, hge, hmax, hlt]
  generalize hr : storeRow _ _ _ = r
  obtain ⟨m1, rfl, o1, k1⟩ := store_own hr h.w (by simp [words]; omega) (by simp [one_int])
  simp [-BitVec.toNat_or, -BitVec.toNat_ofInt, -BitVec.toNat_and, fieldAddr_of fa92_0, load_of ld56, len_slice u56, conv_i u3 u22, index_slice u56 sz22, store_of sz22]
  rw [over_words v hlt] at o1
  exact ⟨⟨by simpa using h.h.keep k1 (by simpa using h.ne), o1, h.ne⟩, k1⟩
theorem words_run (hS : S 37 = []) {hb hf wb wf : Nat} {ws : List Int} {room : Int} (h : HeapAt m hb hf wb wf ws room) (hne : ws ≠ []) (hw : ws.length ≤ 1000000) :
    ∃ v m1, callw Tryd.prog TT S 37 [.pointer (some ⟨hb, 0, none⟩)] m = some (v, m1) ∧ ∃ nb nf, v = .slice (some ⟨nb, 0, none⟩) ws.length ws.length ∧ Own m1 nb (words ws) 22 nf ∧ m.next ≤ nf ∧ Keeps m m1 [] := by
  have hl : 0 < ws.length := by cases ws with | nil => exact absurd rfl hne | cons _ _ => simp
  obtain ⟨o0, k0, n0⟩ := new_own (m := m) (cs := []) (e := 22) rfl
  have l0 := (h.h.keep k0 (by simp)).load1 (off := 0) rfl
  have lw : loadRow (m.new [] 22) ⟨wb, 0, none⟩ (ws.length * 1) = some (words ws) := by
    rw [(h.w.keep k0 (by simp)).load (off := 0) (ws.length * 1) (by simp [words])]
    simp [window, words]
    exact List.take_of_length_le (by simp)
  simp only [Nat.mul_one] at lw
  refine fn_w 3 [] k37 hS rfl ?_
  have hn0 : ws.length ≠ 0 := by omega
  simp [-BitVec.toNat_or, -BitVec.toNat_ofInt, -BitVec.toNat_and, buildSlice_of u56 bs22 rfl, fieldAddr_of fa92_0, load_of ld56, append_s u56 sz22, l0, lw, hn0, hne]
  generalize hr : sappend _ _ _ _ _ _ = r
  obtain ⟨m1, b1, rfl, o1, k1⟩ := app_own hr u56 ap22 o0 (by simp) (by simp [words]) (by simp [words, one_int]) (by omega) (by omega)
  simp [-BitVec.toNat_or, -BitVec.toNat_ofInt, -BitVec.toNat_and, buildSlice_of u56 bs22 rfl, fieldAddr_of fa92_0, load_of ld56, append_s u56 sz22]
  exact ⟨m.next, by simpa using o1, Nat.le_refl _, k0.mono2 k1 (Nat.le_refl _)⟩
theorem copy_run (hS14 : S 55 = []) (hS15 : S 37 = []) {hb hf wb wf : Nat} {ws : List Int} {room : Int} (h : HeapAt m hb hf wb wf ws room) (hne : ws ≠ []) (hw : ws.length ≤ 1000000) :
    ∃ v m1, callw Tryd.prog TT S 55 [.pointer (some ⟨hb, 0, none⟩)] m = some (v, m1) ∧ ∃ cb cf wb' wf', v = .pointer (some ⟨cb, 0, none⟩) ∧ HeapAt m1 cb cf wb' wf' ws room ∧ m.next ≤ cf ∧ m.next ≤ wf' ∧ Keeps m m1 [] := by
  obtain ⟨v, m1, hc, nb, nf, rfl, ho, n2, hk⟩ := words_run (m := m) hS15 h hne hw
  have l1 := h.h.load1 (off := 1) rfl
  have l1' := (h.h.keep hk (by simp)).load1 (off := 1) rfl
  refine fn_w 3 [] k55 hS14 rfl ?_
  simp [-BitVec.toNat_or, -BitVec.toNat_ofInt, -BitVec.toNat_and, fieldAddr_of fa92_1, load_of ld3, build_of bo92, box_of b92, hc, l1, l1']
  exact ⟨m1.next, nb, nf, ⟨Own.new m1 _ _, ho.new_other _ _, by have := ho.flt; omega⟩, hk.1, n2, hk.trans (keeps_new _ _ _ _)⟩
def Wd (ws : List Int) : Prop := ∀ w ∈ ws, 0 ≤ w ∧ w ≤ 18446744073709551615
theorem Wd.at_ {ws : List Int} (h : Wd ws) (i : Nat) : 0 ≤ ws.getD i 0 ∧ ws.getD i 0 ≤ 18446744073709551615 := by
  rw [List.getD_eq_getElem?_getD]
  cases hi : ws[i]? with
  | none => simp
  | some w => exact h w (List.mem_of_getElem? hi)
theorem and_mask {w : Int} (h0 : 0 ≤ w) (h1 : w ≤ 18446744073709551615) : (IntKind.u64.wrap ((BitVec.ofInt IntKind.u64.bits w &&& BitVec.ofInt IntKind.u64.bits 4294967295).toNat : Int)) = w % 4294967296 := by
  obtain ⟨n, rfl⟩ : ∃ n : Nat, w = n := ⟨w.toNat, by omega⟩
  have e1 : (BitVec.ofInt 64 (n : Int)).toNat = n := by
    rw [BitVec.toNat_ofInt]
    have : ((n : Int) % ((2 ^ 64 : Nat) : Int)) = n := Int.emod_eq_of_lt (by omega) (by omega)
    rw [this]; rfl
  have e2 : (BitVec.ofInt 64 4294967295).toNat = 2 ^ 32 - 1 := by decide
  have e3 : (BitVec.ofInt IntKind.u64.bits (n : Int) &&& BitVec.ofInt IntKind.u64.bits 4294967295).toNat = n % 2 ^ 32 := by
    show (BitVec.ofInt 64 (n : Int) &&& BitVec.ofInt 64 4294967295).toNat = n % 2 ^ 32
    rw [BitVec.toNat_and, e1, e2, Nat.and_two_pow_sub_one_eq_mod]
  rw [e3]
  have : ((n % 2 ^ 32 : Nat) : Int) = (n : Int) % 4294967296 := by omega
  rw [this]
  exact wrap_u64 (by omega) (by omega)
theorem head_run (hS37 : S 47 = []) (hS22 : S 60 = []) {hb hf wb wf : Nat} {ws : List Int} {room r : Int} (h : HeapAt m hb hf wb wf ws room) (h0 : 0 ≤ r) (hw : ws.length ≤ 1000000) :
    callw Tryd.prog TT S 47 [.pointer (some ⟨hb, 0, none⟩), .int .u64 r] m = some (.int .u64 (ws.getD r.toNat 0), m) := by
  have hc := word_run hS22 h h0 hw
  refine fn_eq 5 [] k47 hS37 rfl ?_
  simp [-BitVec.toNat_or, -BitVec.toNat_ofInt, -BitVec.toNat_and, id, hc]
theorem len_run (hS20 : S 20 = []) (hS37 : S 47 = []) (hS22 : S 60 = []) {hb hf wb wf : Nat} {ws : List Int} {room r : Int} (h : HeapAt m hb hf wb wf ws room) (h0 : 0 ≤ r) (hw : ws.length ≤ 1000000) (hd : Wd ws) :
    callw Tryd.prog TT S 20 [.pointer (some ⟨hb, 0, none⟩), .int .u64 r] m = some (.int .i64 (ws.getD r.toNat 0 % 4294967296), m) := by
  have hc := head_run hS37 hS22 h h0 hw
  obtain ⟨q0, q1⟩ := hd.at_ r.toNat
  generalize ws.getD r.toNat 0 = w at hc q0 q1
  have e1 := and_mask q0 q1
  have e2 : IntKind.i64.wrap (w % 4294967296) = w % 4294967296 := wrap_i64 (by omega) (by omega)
  have e1' : (IntKind.u64.wrap ((BitVec.ofInt IntKind.u64.bits w &&& 4294967295#IntKind.u64.bits).toNat : Int)) = w % 4294967296 := e1
  refine fn_eq 5 [] k20 hS20 rfl ?_
  simp [-BitVec.toNat_or, -BitVec.toNat_ofInt, -BitVec.toNat_and, conv_i u22 u3, hc, e1', e2]
def atV (ws : List Int) (r i : Int) : Int := if 0 ≤ i ∧ i < ws.getD r.toNat 0 % 4294967296 then IntKind.u64.wrap (IntKind.u64.wrap (r + 1) + IntKind.u64.wrap i) else 0
theorem at_run (hS36 : S 64 = []) (hS20 : S 20 = []) (hS37 : S 47 = []) (hS22 : S 60 = []) {hb hf wb wf : Nat} {ws : List Int} {room r i : Int} (h : HeapAt m hb hf wb wf ws room) (h0 : 0 ≤ r) (hw : ws.length ≤ 1000000) (hd : Wd ws) :
    callw Tryd.prog TT S 64 [.pointer (some ⟨hb, 0, none⟩), .int .u64 r, .int .i64 i] m = some (.int .u64 (atV ws r i), m) := by
  have hc := len_run hS20 hS37 hS22 h h0 hw hd
  unfold atV
  generalize ws.getD r.toNat 0 % 4294967296 = l at hc
  refine fn_eq 7 [15] k64 hS36 rfl ?_
  by_cases a1 : i < 0
  · have a2 : ¬ (0 ≤ i) := by omega
    simp [-BitVec.toNat_or, -BitVec.toNat_ofInt, -BitVec.toNat_and, conv_i u3 u22, hc, a1, a2]
  · have a2 : 0 ≤ i := by omega
    by_cases a3 : l ≤ i
    · have a4 : ¬ (i < l) := by omega
      simp [-BitVec.toNat_or, -BitVec.toNat_ofInt, -BitVec.toNat_and, conv_i u3 u22, hc, a1, a2, a3, a4]
    · have a4 : i < l := by omega
      simp [-BitVec.toNat_or, -BitVec.toNat_ofInt, -BitVec.toNat_and, conv_i u3 u22, hc, a1, a2, a3, a4]
theorem wrap_u64_nonneg (x : Int) : 0 ≤ IntKind.u64.wrap x := by
  have e1 : (2 : Int) ^ IntKind.u64.bits = 18446744073709551616 := by decide
  have e3 : IntKind.u64.signed = false := rfl
  simp only [IntKind.wrap, e1, e3, Bool.false_and]
  simp
  omega
theorem atV_nonneg (ws : List Int) (r i : Int) : 0 ≤ atV ws r i := by
  unfold atV
  split
  · exact wrap_u64_nonneg _
  · omega
theorem get_run (hS21 : S 59 = []) (hS36 : S 64 = []) (hS20 : S 20 = []) (hS37 : S 47 = []) (hS22 : S 60 = []) {hb hf wb wf : Nat} {ws : List Int} {room r i : Int} (h : HeapAt m hb hf wb wf ws room) (h0 : 0 ≤ r) (hw : ws.length ≤ 1000000) (hd : Wd ws) :
    callw Tryd.prog TT S 59 [.pointer (some ⟨hb, 0, none⟩), .int .u64 r, .int .i64 i] m = some (.int .u64 (ws.getD (atV ws r i).toNat 0), m) := by
  have hc := at_run (i := i) hS36 hS20 hS37 hS22 h h0 hw hd
  have hc2 := word_run hS22 h (atV_nonneg ws r i) hw
  generalize ws.getD (atV ws r i).toNat 0 = w at hc2
  generalize atV ws r i = p at hc hc2
  refine fn_eq 7 [] k59 hS21 rfl ?_
  simp [-BitVec.toNat_or, -BitVec.toNat_ofInt, -BitVec.toNat_and, id, hc, hc2]
theorem set_run (hS18 : S 56 = []) (hS36 : S 64 = []) (hS20 : S 20 = []) (hS37 : S 47 = []) (hS22 : S 60 = []) {hb hf wb wf : Nat} {ws : List Int} {room r i v : Int} {ok : Bool} {m1 : Mem} (h : HeapAt m hb hf wb wf ws room) (h0 : 0 ≤ r) (hw : ws.length ≤ 1000000) (hd : Wd ws)
    (hp : callw Tryd.prog TT S 63 [.pointer (some ⟨hb, 0, none⟩), .int .u64 (atV ws r i), .int .u64 v] m = some (.bool ok, m1)) :
    callw Tryd.prog TT S 56 [.pointer (some ⟨hb, 0, none⟩), .int .u64 r, .int .i64 i, .int .u64 v] m = some (.bool ok, m1) := by
  have hc := at_run (i := i) hS36 hS20 hS37 hS22 h h0 hw hd
  generalize atV ws r i = p at hc hp
  refine fn_eq 9 [] k56 hS18 rfl ?_
  simp [-BitVec.toNat_or, -BitVec.toNat_ofInt, -BitVec.toNat_and, id, hc, hp]
theorem head_val {t n : Int} (ht : 0 ≤ t ∧ t ≤ 1048576) (hn : 0 ≤ n ∧ n ≤ 1048576) : headOf t n = t * 4294967296 + n := by
  obtain ⟨a, rfl⟩ : ∃ a : Nat, t = a := ⟨t.toNat, by omega⟩
  obtain ⟨b, rfl⟩ : ∃ b : Nat, n = b := ⟨n.toNat, by omega⟩
  have e3 : (2 : Int) ^ min 32 IntKind.u64.bits = 4294967296 := by decide
  have e0 : IntKind.u64.wrap (a : Int) = a := wrap_u64 (by omega) (by omega)
  have e0' : IntKind.u64.wrap (b : Int) = b := wrap_u64 (by omega) (by omega)
  have e4 : IntKind.u64.wrap ((a : Int) * 4294967296) = ((a * 2 ^ 32 : Nat) : Int) := by rw [wrap_u64 (by omega) (by omega)]; omega
  have toN : ∀ x : Nat, x ≤ 18446744073709551615 → (BitVec.ofInt IntKind.u64.bits (x : Int)).toNat = x := by
    intro x hx
    show (BitVec.ofInt 64 (x : Int)).toNat = x
    rw [BitVec.toNat_ofInt]
    have : ((x : Int) % ((2 ^ 64 : Nat) : Int)) = x := Int.emod_eq_of_lt (by omega) (by omega)
    rw [this]; rfl
  unfold headOf
  rw [e3, e0, e0', e4, BitVec.toNat_or, toN _ (by omega), toN _ (by omega)]
  have : a * 2 ^ 32 ||| b = a * 2 ^ 32 + b := by
    rw [Nat.mul_comm]
    exact (Nat.two_pow_add_eq_or_of_lt (by omega) a).symm
  rw [this, wrap_u64 (by omega) (by omega)]
  omega
end Go.Proofs.YtggbgelfgfmikaaDoor.base

