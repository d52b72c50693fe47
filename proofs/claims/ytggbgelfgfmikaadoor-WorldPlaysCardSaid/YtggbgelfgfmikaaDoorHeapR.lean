/-
  This text proves what the functions of the document's heap (package turnstoneref1) do over the abstract run.
  Condition: nothing is known of their calls ahead ('S f = []').
-/
import Derived.Test.YtggbgelfgfmikaaDoorBaseT
set_option maxRecDepth 100000
set_option linter.unusedSimpArgs false
set_option linter.unusedVariables false
namespace Go.Proofs.YtggbgelfgfmikaaDoor.base
open Go.Sh gen
variable {S : Sums} {m : Mem}
structure RefAt (m : Mem) (hb hf wb wf : Nat) (ws : List Int) (room : Int) : Prop where
  h : Own m hb [.int .i64 room, .slice (some ⟨wb, 0, none⟩) ws.length ws.length] 67 hf
  w : Own m wb (words ws) 22 wf
  ne : hf ≠ wf
theorem RefAt.keep {m m1 : Mem} {hb hf wb wf : Nat} {ws : List Int} {room : Int} {fs : List Nat} (h : RefAt m hb hf wb wf ws room) (k : Keeps m m1 fs) (h1 : hf ∉ fs) (h2 : wf ∉ fs) : RefAt m1 hb hf wb wf ws room := ⟨h.h.keep k h1, h.w.keep k h2, h.ne⟩
theorem newR_run (hS : S 49 = []) (room : Int) : ∃ v m1, callw Tryd.prog TT S 49 [.int .i64 room] m = some (v, m1) ∧ ∃ hb wb, v = .pointer (some ⟨hb, 0, none⟩) ∧
    RefAt m1 hb hb wb wb [0] room ∧ m.next ≤ hb ∧ m.next ≤ wb ∧ Keeps m m1 [] := by
  refine fn_w 3 [] k49 hS rfl ?_
  simp [-BitVec.toNat_or, -BitVec.toNat_ofInt, -BitVec.toNat_and, buildSlice_of u56 bs22 rfl, build_of bo67, box_of b67]
  exact ⟨m.next, ⟨Own.new (m.new [.int .u64 0] 22) _ 67, (Own.new m _ 22).new_other _ _, by simp [Mem.new]⟩, by simp [Mem.new], Nat.le_refl _, (keeps_new _ _ _ _).trans (keeps_new _ _ _ _)⟩
theorem wordR_run (hS : S 62 = []) {hb hf wb wf : Nat} {ws : List Int} {room at_ : Int} (h : RefAt m hb hf wb wf ws room) (h0 : 0 ≤ at_) (hw : ws.length ≤ 1000000) :
    callw Tryd.prog TT S 62 [.pointer (some ⟨hb, 0, none⟩), .int .u64 at_] m = some (.int .u64 (ws.getD at_.toNat 0), m) := by
  have l0 := h.h.load1 (off := 1) rfl
  have hwu : IntKind.u64.wrap ws.length = ws.length := wrap_u64 (by omega) (by omega)
  refine fn_eq 5 [12] k62 hS rfl ?_
  simp [-BitVec.toNat_or, -BitVec.toNat_ofInt, -BitVec.toNat_and, fieldAddr_of fa67_1, load_of ld56, len_slice u56, conv_i u3 u22, index_slice u56 sz22, load_of ld22, l0, hwu]
  refine cnd_dec (fun hge => ?_) (fun hge => ?_)
  · have hd : ws[at_.toNat]? = none := List.getElem?_eq_none (by omega)
    simp [-BitVec.toNat_or, -BitVec.toNat_ofInt, -BitVec.toNat_and, fieldAddr_of fa67_1, load_of ld56, len_slice u56, conv_i u3 u22, index_slice u56 sz22, load_of ld22, hd]
  · have hlt : at_.toNat < ws.length := by omega
    have l1 := h.w.load1 (off := at_.toNat) (words_at hlt)
    have hmax : at_ ≤ 9223372036854775807 := by omega
    simp only [List.getD_eq_getElem?_getD] at l1
    simp [-BitVec.toNat_or, -BitVec.toNat_ofInt, -BitVec.toNat_and, fieldAddr_of fa67_1, load_of ld56, len_slice u56, conv_i u3 u22, index_slice u56 sz22, load_of ld22, l0, l1, h0, hmax, hlt]
theorem lenR_run (hS20 : S 53 = []) (hS22 : S 62 = []) {hb hf wb wf : Nat} {ws : List Int} {room r : Int} (h : RefAt m hb hf wb wf ws room) (h0 : 0 ≤ r) (hw : ws.length ≤ 1000000) (hd : Wd ws) :
    callw Tryd.prog TT S 53 [.pointer (some ⟨hb, 0, none⟩), .int .u64 r] m = some (.int .i64 (ws.getD r.toNat 0 % 4294967296), m) := by
  have hc := wordR_run hS22 h h0 hw
  obtain ⟨q0, q1⟩ := hd.at_ r.toNat
  generalize ws.getD r.toNat 0 = w at hc q0 q1
  have e0 : w.tmod 4294967296 = w % 4294967296 := Int.tmod_eq_emod_of_nonneg q0
  have e2 : IntKind.i64.wrap (w % 4294967296) = w % 4294967296 := wrap_i64 (by omega) (by omega)
  refine fn_eq 5 [] k53 hS20 rfl ?_
  simp [-BitVec.toNat_or, -BitVec.toNat_ofInt, -BitVec.toNat_and, conv_i u22 u3, hc, e0, e2]
def noAt (ws : List Int) (r i : Int) : Prop := r = 0 ∨ i < 0 ∨ ws.getD r.toNat 0 % 4294967296 ≤ i
theorem atV_no {ws : List Int} {r i : Int} (h0 : ws.getD 0 0 = 0) (h : noAt ws r i) : atV ws r i = 0 := by
  unfold atV noAt at *
  rw [if_neg]
  rintro ⟨h1, h2⟩
  rcases h with rfl | h | h
  · simp only [Int.toNat_zero] at h2
    rw [h0] at h2
    omega
  · omega
  · omega
theorem atV_yes {ws : List Int} {r i : Int} (h : ¬ noAt ws r i) : atV ws r i = IntKind.u64.wrap (IntKind.u64.wrap (r + 1) + IntKind.u64.wrap i) := by
  unfold atV noAt at *
  rw [if_pos (by omega)]
theorem getR_run (hS21 : S 54 = []) (hS20 : S 53 = []) (hS22 : S 62 = []) {hb hf wb wf : Nat} {ws : List Int} {room r i : Int} (h : RefAt m hb hf wb wf ws room) (h0 : 0 ≤ r) (hw : ws.length ≤ 1000000) (hd : Wd ws) (hz : ws.getD 0 0 = 0) :
    callw Tryd.prog TT S 54 [.pointer (some ⟨hb, 0, none⟩), .int .u64 r, .int .i64 i] m = some (.int .u64 (ws.getD (atV ws r i).toNat 0), m) := by
  have hc := lenR_run hS20 hS22 h h0 hw hd
  have hc2 := wordR_run hS22 h (atV_nonneg ws r i) hw
  refine fn_eq 7 [19] k54 hS21 rfl ?_
  by_cases hno : noAt ws r i
  · rw [atV_no hz hno]
    have hz2 : ws.getD (Int.toNat 0) 0 = 0 := hz
    rw [hz2]
    unfold noAt at hno
    by_cases a1 : r = 0
    · subst a1
      simp [-BitVec.toNat_or, -BitVec.toNat_ofInt, -BitVec.toNat_and, conv_i u3 u22]
    · by_cases a2 : i < 0
      · simp [-BitVec.toNat_or, -BitVec.toNat_ofInt, -BitVec.toNat_and, conv_i u3 u22, a1, a2]
      · have a3 : ws.getD r.toNat 0 % 4294967296 ≤ i := by omega
        generalize ws.getD r.toNat 0 % 4294967296 = q at hc a3
        simp [-BitVec.toNat_or, -BitVec.toNat_ofInt, -BitVec.toNat_and, conv_i u3 u22, a1, a2, a3, hc]
  · have e := atV_yes hno
    generalize ws.getD (atV ws r i).toNat 0 = w at hc2
    rw [e] at hc2
    unfold noAt at hno
    have a1 : ¬ r = 0 := by omega
    have a2 : ¬ i < 0 := by omega
    have a3 : ¬ ws.getD r.toNat 0 % 4294967296 ≤ i := by omega
    generalize ws.getD r.toNat 0 % 4294967296 = q at hc a3
    simp [-BitVec.toNat_or, -BitVec.toNat_ofInt, -BitVec.toNat_and, conv_i u3 u22, a1, a2, a3, hc, hc2]
theorem putR_no (hS : S 67 = []) {hb hf wb wf : Nat} {ws : List Int} {room at_ v : Int} (h : RefAt m hb hf wb wf ws room) (hno : at_ = 0 ∨ (ws.length : Int) ≤ at_) (hw : ws.length ≤ 1000000) :
    callw Tryd.prog TT S 67 [.pointer (some ⟨hb, 0, none⟩), .int .u64 at_, .int .u64 v] m = some (.bool false, m) := by
  have l0 := h.h.load1 (off := 1) rfl
  have hwu : IntKind.u64.wrap ws.length = ws.length := wrap_u64 (by omega) (by omega)
  refine fn_eq 7 [18] k67 hS rfl ?_
  by_cases h0 : at_ = 0
  · subst h0
    simp [-BitVec.toNat_or, -BitVec.toNat_ofInt, -BitVec.toNat_and, fieldAddr_of fa67_1, load_of ld56, len_slice u56, conv_i u3 u22, index_slice u56 sz22, store_of sz22, l0, hwu]
  · have hge : (ws.length : Int) ≤ at_ := by omega
    simp [-BitVec.toNat_or, -BitVec.toNat_ofInt, -BitVec.toNat_and, fieldAddr_of fa67_1, load_of ld56, len_slice u56, conv_i u3 u22, index_slice u56 sz22, store_of sz22, l0, hwu, h0, hge]
theorem putR_yes (hS : S 67 = []) {hb hf wb wf : Nat} {ws : List Int} {room v : Int} {i : Nat} (h : RefAt m hb hf wb wf ws room) (h0 : i ≠ 0) (hlt : i < ws.length) (hw : ws.length ≤ 1000000) :
    ∃ r m1, callw Tryd.prog TT S 67 [.pointer (some ⟨hb, 0, none⟩), .int .u64 i, .int .u64 v] m = some (r, m1) ∧ r = .bool true ∧ RefAt m1 hb hf wb wf (ws.set i v) room ∧ Keeps m m1 [wf] := by
  have l0 := h.h.load1 (off := 1) rfl
  have hwu : IntKind.u64.wrap ws.length = ws.length := wrap_u64 (by omega) (by omega)
  have hge : ¬ ((ws.length : Int) ≤ i) := by omega
  have hmax : (i : Int) ≤ 9223372036854775807 := by omega
  refine fn_w 7 [18] k67 hS rfl ?_
  simp [-BitVec.toNat_or, -BitVec.toNat_ofInt, -BitVec.toNat_and, fieldAddr_of fa67_1, load_of ld56, len_slice u56, conv_i u3 u22, index_slice u56 sz22, store_of sz22, l0, hwu, h0, hge, hmax, hlt]
  generalize hr : storeRow _ _ _ = r
  obtain ⟨m1, rfl, o1, k1⟩ := store_own hr h.w (by simp [words]; omega) (by simp [one_int])
  simp [-BitVec.toNat_or, -BitVec.toNat_ofInt, -BitVec.toNat_and, fieldAddr_of fa67_1, load_of ld56, len_slice u56, conv_i u3 u22, index_slice u56 sz22, store_of sz22]
  rw [over_words v hlt] at o1
  exact ⟨⟨by simpa using h.h.keep k1 (by simpa using h.ne), o1, h.ne⟩, k1⟩
def putF (ws : List Int) (a v : Int) : List Int := if a = 0 ∨ (ws.length : Int) ≤ a then ws else ws.set a.toNat v
def putB (ws : List Int) (a : Int) : Bool := if a = 0 ∨ (ws.length : Int) ≤ a then false else true
theorem putR_run (hS : S 67 = []) {hb hf wb wf : Nat} {ws : List Int} {room a v : Int} (h : RefAt m hb hf wb wf ws room) (ha : 0 ≤ a) (hw : ws.length ≤ 1000000) :
    ∃ r m1, callw Tryd.prog TT S 67 [.pointer (some ⟨hb, 0, none⟩), .int .u64 a, .int .u64 v] m = some (r, m1) ∧ r = .bool (putB ws a) ∧ RefAt m1 hb hf wb wf (putF ws a v) room ∧ Keeps m m1 [wf] := by
  by_cases hno : a = 0 ∨ (ws.length : Int) ≤ a
  · exact ⟨_, m, putR_no hS h hno hw, by simp only [putB, if_pos hno], by simp only [putF, if_pos hno]; exact h, (keeps_refl m).mono (by simp)⟩
  · obtain ⟨i, rfl⟩ : ∃ i : Nat, a = i := ⟨a.toNat, by omega⟩
    obtain ⟨r, m1, h1, h2, h3, h4⟩ := putR_yes (v := v) hS h (i := i) (by omega) (by omega) hw
    exact ⟨r, m1, h1, by simp only [putB, if_neg hno]; exact h2, by simp only [putF, if_neg hno]; exact h3, h4⟩
theorem setR_run (hS18 : S 61 = []) (hS17 : S 67 = []) (hS20 : S 53 = []) (hS22 : S 62 = []) {hb hf wb wf : Nat} {ws : List Int} {room r i v : Int} (h : RefAt m hb hf wb wf ws room) (h0 : 0 ≤ r) (hw : ws.length ≤ 1000000) (hd : Wd ws) (hz : ws.getD 0 0 = 0) :
    ∃ u m1, callw Tryd.prog TT S 61 [.pointer (some ⟨hb, 0, none⟩), .int .u64 r, .int .i64 i, .int .u64 v] m = some (u, m1) ∧ u = .bool (putB ws (atV ws r i)) ∧ RefAt m1 hb hf wb wf (putF ws (atV ws r i) v) room ∧ Keeps m m1 [wf] := by
  have hc := lenR_run hS20 hS22 h h0 hw hd
  by_cases hno : noAt ws r i
  · rw [atV_no hz hno]
    refine ⟨.bool false, m, ?_, by simp [putB], by simpa [putF] using h, (keeps_refl m).mono (by simp)⟩
    refine fn_eq 9 [21] k61 hS18 rfl ?_
    unfold noAt at hno
    by_cases a1 : r = 0
    · subst a1
      simp [-BitVec.toNat_or, -BitVec.toNat_ofInt, -BitVec.toNat_and, conv_i u3 u22]
    · by_cases a2 : i < 0
      · simp [-BitVec.toNat_or, -BitVec.toNat_ofInt, -BitVec.toNat_and, conv_i u3 u22, a1, a2]
      · have a3 : ws.getD r.toNat 0 % 4294967296 ≤ i := by omega
        generalize ws.getD r.toNat 0 % 4294967296 = q at hc a3
        simp [-BitVec.toNat_or, -BitVec.toNat_ofInt, -BitVec.toNat_and, conv_i u3 u22, a1, a2, a3, hc]
  · obtain ⟨u, m1, h1, h2, h3, h4⟩ := putR_run (v := v) hS17 h (atV_nonneg ws r i) hw
    refine ⟨u, m1, ?_, h2, h3, h4⟩
    have e := atV_yes hno
    rw [e] at h1
    unfold noAt at hno
    have a1 : ¬ r = 0 := by omega
    have a2 : ¬ i < 0 := by omega
    have a3 : ¬ ws.getD r.toNat 0 % 4294967296 ≤ i := by omega
    generalize ws.getD r.toNat 0 % 4294967296 = q at hc a3
    subst h2
    refine fn_eq 9 [21] k61 hS18 rfl ?_
    simp [-BitVec.toNat_or, -BitVec.toNat_ofInt, -BitVec.toNat_and, conv_i u3 u22, a1, a2, a3, hc, h1]
theorem allocR_no (hS : S 52 = []) {hb hf wb wf : Nat} {ws : List Int} {room t n : Int} (h : RefAt m hb hf wb wf ws room)
    (hr : 0 < room ∧ room ≤ 65536) (hw : ws.length ≤ 65536) (hno : noRoom ws room t n) :
    callw Tryd.prog TT S 52 [.pointer (some ⟨hb, 0, none⟩), .int .i64 t, .int .i64 n] m = some (.tuple #[.int .u64 0, .bool false], m) := by
  have l0 := h.h.load1 (off := 1) rfl
  have l1 := h.h.load1 (off := 0) rfl
  have hwr : IntKind.i64.wrap (room - ws.length) = room - ws.length := wrap_i64 (by omega) (by omega)
  refine fn_eq 10 [38, 62] k52 hS rfl ?_
  unfold noRoom at hno
  by_cases a1 : t < 0
  · simp [-BitVec.toNat_or, -BitVec.toNat_ofInt, -BitVec.toNat_and, fieldAddr_of fa67_0, load_of ld3, fieldAddr_of fa67_1, load_of ld56, len_slice u56, conv_i u3 u22, buildSlice_of u56 bs22 rfl, append_s u56 sz22, store_of sz56, l0, l1, a1]
  by_cases a2 : 1048576 < t
  · simp [-BitVec.toNat_or, -BitVec.toNat_ofInt, -BitVec.toNat_and, fieldAddr_of fa67_0, load_of ld3, fieldAddr_of fa67_1, load_of ld56, len_slice u56, conv_i u3 u22, buildSlice_of u56 bs22 rfl, append_s u56 sz22, store_of sz56, l0, l1, a1, a2]
  by_cases a3 : n < 0
  · simp [-BitVec.toNat_or, -BitVec.toNat_ofInt, -BitVec.toNat_and, fieldAddr_of fa67_0, load_of ld3, fieldAddr_of fa67_1, load_of ld56, len_slice u56, conv_i u3 u22, buildSlice_of u56 bs22 rfl, append_s u56 sz22, store_of sz56, l0, l1, a1, a2, a3]
  by_cases a4 : 1048576 < n
  · simp [-BitVec.toNat_or, -BitVec.toNat_ofInt, -BitVec.toNat_and, fieldAddr_of fa67_0, load_of ld3, fieldAddr_of fa67_1, load_of ld56, len_slice u56, conv_i u3 u22, buildSlice_of u56 bs22 rfl, append_s u56 sz22, store_of sz56, l0, l1, a1, a2, a3, a4]
  have a5 : room - ws.length < n + 1 := by omega
  have w1 : IntKind.i64.wrap (n + 1) = n + 1 := wrap_i64 (by omega) (by omega)
  simp [-BitVec.toNat_or, -BitVec.toNat_ofInt, -BitVec.toNat_and, fieldAddr_of fa67_0, load_of ld3, fieldAddr_of fa67_1, load_of ld56, len_slice u56, conv_i u3 u22, buildSlice_of u56 bs22 rfl, append_s u56 sz22, store_of sz56, l0, l1, hwr, a1, a2, a3, a4, a5, w1]
theorem headR {t n : Int} (ht : 0 ≤ t ∧ t ≤ 1048576) (hn : 0 ≤ n ∧ n ≤ 1048576) : IntKind.u64.wrap (IntKind.u64.wrap (IntKind.u64.wrap t * 2 ^ (min 32 IntKind.u64.bits)) + IntKind.u64.wrap n) = headOf t n := by
  rw [head_val ht hn]
  have e3 : (2 : Int) ^ min 32 IntKind.u64.bits = 4294967296 := by decide
  have e0 : IntKind.u64.wrap t = t := wrap_u64 (by omega) (by omega)
  have e0' : IntKind.u64.wrap n = n := wrap_u64 (by omega) (by omega)
  have e4 : IntKind.u64.wrap (t * 4294967296) = t * 4294967296 := wrap_u64 (by omega) (by omega)
  rw [e3, e0, e0', e4]
  exact wrap_u64 (by omega) (by omega)
theorem allocR_yes (hS : S 52 = []) {hb hf wb wf : Nat} {ws : List Int} {room t : Int} {n : Nat} (h : RefAt m hb hf wb wf ws room)
    (hr : 0 < room ∧ room ≤ 65536) (hw : ws.length ≤ 65536) (hno : ¬ noRoom ws room t n) :
    ∃ v m1, callw Tryd.prog TT S 52 [.pointer (some ⟨hb, 0, none⟩), .int .i64 t, .int .i64 n] m = some (v, m1) ∧ v = .tuple #[.int .u64 ws.length, .bool true] ∧
      (∃ wb', RefAt m1 hb hf wb' wf (ws ++ [headOf t n] ++ List.replicate n 0) room) ∧ Keeps m m1 [hf, wf] := by
  have l0 := h.h.load1 (off := 1) rfl
  have l1 := h.h.load1 (off := 0) rfl
  have hwr : IntKind.i64.wrap (room - ws.length) = room - ws.length := wrap_i64 (by omega) (by omega)
  have hwu : IntKind.u64.wrap ws.length = ws.length := wrap_u64 (by omega) (by omega)
  unfold noRoom at hno
  have a1 : ¬ t < 0 := by omega
  have a2 : ¬ 1048576 < t := by omega
  have a3 : ¬ (n : Int) < 0 := by omega
  have a4 : ¬ 1048576 < (n : Int) := by omega
  have a5 : ¬ room - ws.length < n + 1 := by omega
  have w1 : IntKind.i64.wrap ((n : Int) + 1) = n + 1 := wrap_i64 (by omega) (by omega)
  refine fn_w 10 [38, 62] k52 hS rfl ?_
  simp [-BitVec.toNat_or, -BitVec.toNat_ofInt, -BitVec.toNat_and, fieldAddr_of fa67_0, load_of ld3, fieldAddr_of fa67_1, load_of ld56, len_slice u56, conv_i u3 u22, buildSlice_of u56 bs22 rfl, append_s u56 sz22, store_of sz56, l0, l1, a1, a2, a3, a4, a5, hwr, hwu, w1]
  generalize hr1 : sappend _ _ _ _ _ _ = r1
  obtain ⟨m1, b1, rfl, o1, k1⟩ := app_own_new hr1 u56 ap22 h.w (by simp [words]) (by simp) (by simp [one_int]) (by omega) (by omega)
  have h1 := h.h.keep k1 (by simpa using h.ne)
  simp [-BitVec.toNat_or, -BitVec.toNat_ofInt, -BitVec.toNat_and, fieldAddr_of fa67_0, load_of ld3, fieldAddr_of fa67_1, load_of ld56, len_slice u56, conv_i u3 u22, buildSlice_of u56 bs22 rfl, append_s u56 sz22, store_of sz56]
  generalize hr2 : storeRow _ _ _ = r2
  obtain ⟨m2, rfl, h2, k2⟩ := store_own hr2 h1 (by simp) (by simp [one_slice])
  have o2 := o1.keep k2 (by simpa using h.ne.symm)
  simp [over] at h2
  rw [headR (by omega) (by omega)] at o2
  have e5 : ∀ i : Nat, words ws ++ [Value.int .u64 (headOf t n)] ++ List.replicate i (Value.int .u64 0) = words (ws ++ [headOf t n] ++ List.replicate i 0) := by intro i; simp [words]
  have e6 := e5 0
  simp only [List.replicate_zero, List.append_nil] at e6
  rw [e6] at o2
  have h22 : RefAt m2 hb hf b1 wf (ws ++ [headOf t n]) room := ⟨by simpa using h2, o2, h.ne⟩
  have kk : Keeps m m2 [hf, wf] := (k1.mono (by simp)).trans (k2.mono (by simp))
  simp [-BitVec.toNat_or, -BitVec.toNat_ofInt, -BitVec.toNat_and, fieldAddr_of fa67_0, load_of ld3, fieldAddr_of fa67_1, load_of ld56, len_slice u56, conv_i u3 u22, buildSlice_of u56 bs22 rfl, append_s u56 sz22, store_of sz56]
  refine wsem_loop 10 [38, 62] (fun d E m3 => ∃ (i b3 : Nat), n - i = d ∧ i ≤ n ∧ E = [(0, .pointer (some ⟨hb, 0, none⟩)), (2, .int .i64 n), (6, .int .u64 0), (7, .bool false), (8, .int .u64 ws.length), (9, .int .i64 i)] ∧ RefAt m3 hb hf b3 wf (ws ++ [headOf t n] ++ List.replicate i 0) room ∧ Keeps m m3 [hf, wf]) _ ⟨_, ⟨0, b1, rfl, by omega, rfl, by simpa using h22, kk⟩, ⟨by rfl, by rfl, by rfl, by rfl, by rfl, by rfl, trivial⟩⟩ ?_
  rintro d E m3 ih ⟨i, b3, hd, hi, rfl, h3, k3⟩
  by_cases hlt : i < n
  · have f1 : (i : Int) < n := by omega
    have f2 : IntKind.i64.wrap ((i : Int) + 1) = ((i + 1 : Nat) : Int) := by rw [wrap_i64 (by omega) (by omega)]; omega
    have l3 := h3.h.load1 (off := 1) rfl
    simp only [List.length_append, List.length_cons, List.length_nil, List.length_replicate] at l3
    simp [-BitVec.toNat_or, -BitVec.toNat_ofInt, -BitVec.toNat_and, fieldAddr_of fa67_0, load_of ld3, fieldAddr_of fa67_1, load_of ld56, len_slice u56, conv_i u3 u22, buildSlice_of u56 bs22 rfl, append_s u56 sz22, store_of sz56, f1, hlt, l3]
    generalize hr3 : sappend _ _ _ _ _ _ = r3
    have w3 := h3.w
    obtain ⟨m4, b4, rfl, o4, k4⟩ := app_own_new hr3 u56 ap22 w3 (by simp [words]; omega) (by simp) (by simp [one_int]) (by omega) (by omega)
    have h4 := h3.h.keep k4 (by simpa using h.ne)
    simp [-BitVec.toNat_or, -BitVec.toNat_ofInt, -BitVec.toNat_and, fieldAddr_of fa67_0, load_of ld3, fieldAddr_of fa67_1, load_of ld56, len_slice u56, conv_i u3 u22, buildSlice_of u56 bs22 rfl, append_s u56 sz22, store_of sz56]
    generalize hr5 : storeRow _ _ _ = r5
    obtain ⟨m5, rfl, h5, k5⟩ := store_own hr5 h4 (by simp) (by simp [one_slice])
    have o5 := o4.keep k5 (by simpa using h.ne.symm)
    simp [over] at h5
    simp [-BitVec.toNat_or, -BitVec.toNat_ofInt, -BitVec.toNat_and, fieldAddr_of fa67_0, load_of ld3, fieldAddr_of fa67_1, load_of ld56, len_slice u56, conv_i u3 u22, buildSlice_of u56 bs22 rfl, append_s u56 sz22, store_of sz56, f2]
    have e7 := e5 (i + 1)
    rw [List.replicate_succ', ← List.append_assoc, e5 i] at e7
    rw [e7] at o5
    have e8 : (ws ++ [headOf t n] ++ List.replicate (i + 1) 0).length = ws.length + 1 + i + 1 := by simp; omega
    have h6 : RefAt m5 hb hf b4 wf (ws ++ [headOf t n] ++ List.replicate (i + 1) 0) room := ⟨by rw [e8]; exact h5, o5, h.ne⟩
    exact ih _ _ _ _ ⟨i + 1, b4, rfl, by omega, rfl, h6, k3.trans ((k4.mono (by simp)).trans (k5.mono (by simp)))⟩ (by omega) ⟨by rfl, by rfl, by rfl, by rfl, by rfl, by simp [lget], trivial⟩
  · have f1 : ¬ (i : Int) < n := by omega
    have hin : i = n := by omega
    subst hin
    simp [-BitVec.toNat_or, -BitVec.toNat_ofInt, -BitVec.toNat_and, fieldAddr_of fa67_0, load_of ld3, fieldAddr_of fa67_1, load_of ld56, len_slice u56, conv_i u3 u22, buildSlice_of u56 bs22 rfl, append_s u56 sz22, store_of sz56]
    exact ⟨⟨b3, by simpa using h3⟩, k3⟩
def strF (ws : List Int) (r : Int) : List UInt8 := (List.range (min (ws.getD r.toNat 0 % 4294967296).toNat ws.length)).map fun (i : Nat) => UInt8.ofNat ((ws.getD (atV ws r i).toNat 0) % 256).toNat
theorem stringR_run (hS24 : S 34 = []) (hS21 : S 54 = []) (hS20 : S 53 = []) (hS22 : S 62 = [])
    {hb hf wb wf : Nat} {ws : List Int} {room r : Int} (h : RefAt m hb hf wb wf ws room) (h0 : 0 ≤ r) (hw : ws.length ≤ 1000000) (hd : Wd ws) (hz : ws.getD 0 0 = 0) :
    ∃ v m1, callw Tryd.prog TT S 34 [.pointer (some ⟨hb, 0, none⟩), .int .u64 r] m = some (v, m1) ∧ v = .string ⟨(strF ws r).toArray⟩ ∧ Keeps m m1 [] := by
  refine fn_w 7 [21] k34 hS24 rfl ?_
  simp [-BitVec.toNat_or, -BitVec.toNat_ofInt, -BitVec.toNat_and, len_slice u89, fieldAddr_of fa67_1, load_of ld56, len_slice u56, conv_i u22 u5, buildSlice_of u89 bs5 rfl, append_s u89 sz5, conv_bytes u89 u5 u9]
  obtain ⟨q, hq⟩ : ∃ q : Nat, ws.getD r.toNat 0 % 4294967296 = q := ⟨(ws.getD r.toNat 0 % 4294967296).toNat, by omega⟩
  have hF : strF ws r = (List.range (min q ws.length)).map fun (i : Nat) => UInt8.ofNat ((ws.getD (atV ws r i).toNat 0) % 256).toNat := by unfold strF; rw [hq]; rfl
  rw [hF]
  refine wsem_loop 7 [21] (fun d E m2 => ∃ (i : Nat) (ao : Option Addr) (fam : Nat), (min q ws.length) - i = d ∧ i ≤ min q ws.length ∧ E = [(0, .pointer (some ⟨hb, 0, none⟩)), (1, .int .u64 r), (4, .string ⟨#[]⟩), (5, .slice ao i i), (6, .int .i64 i)] ∧
    Sl m2 ao i (((List.range i).map fun (i : Nat) => UInt8.ofNat ((ws.getD (atV ws r i).toNat 0) % 256).toNat).map fun b => Value.int .u8 b.toNat) 5 1 fam ∧ m.next ≤ fam ∧ Keeps m m2 []) _ ⟨_, ⟨0, none, m.next, rfl, by omega, rfl, Sl.nil _ _ _ _, Nat.le_refl _, .refl _ _⟩, ⟨rfl, rfl, rfl, rfl, rfl, trivial⟩⟩ ?_
  rintro d E m2 ih ⟨i, ao, fam, hdi, hi, rfl, s2, hfam, k2⟩
  have h2 := h.keep k2 (by simp) (by simp)
  have l0 := h2.h.load1 (off := 1) rfl
  have hc := lenR_run hS20 hS22 h2 h0 hw hd
  rw [hq] at hc
  by_cases a1 : i < q
  · have e1 : (i : Int) < q := by omega
    by_cases a2 : i < ws.length
    · have e2 : (i : Int) < ws.length := by omega
      have w1 : IntKind.i64.wrap ((i : Int) + 1) = ((i + 1 : Nat) : Int) := by rw [wrap_i64 (by omega) (by omega)]; omega
      have hg := getR_run (i := (i : Int)) hS21 hS20 hS22 h2 h0 hw hd hz
      obtain ⟨g0, g1⟩ := hd.at_ (atV ws r i).toNat
      have hF2 : ∀ (f : Nat → UInt8), (List.range (i + 1)).map f = (List.range i).map f ++ [f i] := by intro f; rw [List.range_succ, List.map_append]; rfl
      have w8 : IntKind.u8.wrap (ws.getD (atV ws r i).toNat 0) = ((UInt8.ofNat ((ws.getD (atV ws r i).toNat 0) % 256).toNat).toNat : Int) := by
        have e1 : (2 : Int) ^ IntKind.u8.bits = 256 := by decide
        have e3 : IntKind.u8.signed = false := rfl
        simp only [IntKind.wrap, e1, e3, Bool.false_and]
        simp only [UInt8.toNat_ofNat']
        simp
        omega
      have hF3 := hF2 fun (i : Nat) => UInt8.ofNat ((ws.getD (atV ws r i).toNat 0) % 256).toNat
      generalize UInt8.ofNat ((ws.getD (atV ws r i).toNat 0) % 256).toNat = b at w8 hF3
      generalize ws.getD (atV ws r i).toNat 0 = g at hg w8
      simp [-BitVec.toNat_or, -BitVec.toNat_ofInt, -BitVec.toNat_and, len_slice u89, fieldAddr_of fa67_1, load_of ld56, len_slice u56, conv_i u22 u5, buildSlice_of u89 bs5 rfl, append_s u89 sz5, conv_bytes u89 u5 u9, l0, hc, e1, a1, a2, e2, hg, w8, w1]
      generalize hr : sappend _ _ _ _ _ _ = x
      obtain ⟨m3, ao3, fam3, rfl, s3, k3, hf3⟩ := app_sl_new hr u89 ap5 s2 (by simp) (by simp [one_int]) (by omega) (by omega)
      have hk2 := k2.1
      simp [-BitVec.toNat_or, -BitVec.toNat_ofInt, -BitVec.toNat_and, len_slice u89, fieldAddr_of fa67_1, load_of ld56, len_slice u56, conv_i u22 u5, buildSlice_of u89 bs5 rfl, append_s u89 sz5, conv_bytes u89 u5 u9, w1]
      refine ih _ _ _ _ ⟨i + 1, ao3, fam3, rfl, by omega, rfl, ?_, by omega, k2.mono2 k3 hfam⟩ (by omega) ⟨rfl, rfl, rfl, rfl, ?_, trivial⟩
      · rw [hF3, List.map_append]
        exact s3
      · simp [lget]
    · have e2 : ¬ (i : Int) < ws.length := by omega
      have hmin : min q ws.length = i := by omega
      have hbs := bToS_sl (l := (List.range i).map fun (i : Nat) => UInt8.ofNat ((ws.getD (atV ws r i).toNat 0) % 256).toNat) (m := m2) (ao := ao) (e := 5) (fam := fam) (by simpa using s2)
      simp only [List.length_map, List.length_range] at hbs
      rw [hmin]
      generalize ((List.range i).map fun (i : Nat) => UInt8.ofNat ((ws.getD (atV ws r i).toNat 0) % 256).toNat) = L at hbs
      simp [-BitVec.toNat_or, -BitVec.toNat_ofInt, -BitVec.toNat_and, len_slice u89, fieldAddr_of fa67_1, load_of ld56, len_slice u56, conv_i u22 u5, buildSlice_of u89 bs5 rfl, append_s u89 sz5, conv_bytes u89 u5 u9, l0, hc, e1, a1, a2, e2, hbs]
      exact k2
  · have e1 : ¬ (i : Int) < q := by omega
    have hmin : min q ws.length = i := by omega
    have hbs := bToS_sl (l := (List.range i).map fun (i : Nat) => UInt8.ofNat ((ws.getD (atV ws r i).toNat 0) % 256).toNat) (m := m2) (ao := ao) (e := 5) (fam := fam) (by simpa using s2)
    simp only [List.length_map, List.length_range] at hbs
    rw [hmin]
    generalize ((List.range i).map fun (i : Nat) => UInt8.ofNat ((ws.getD (atV ws r i).toNat 0) % 256).toNat) = L at hbs
    simp [-BitVec.toNat_or, -BitVec.toNat_ofInt, -BitVec.toNat_and, len_slice u89, fieldAddr_of fa67_1, load_of ld56, len_slice u56, conv_i u22 u5, buildSlice_of u89 bs5 rfl, append_s u89 sz5, conv_bytes u89 u5 u9, l0, hc, e1, a1, hbs]
    exact k2
theorem stringG_run (hS24 : S 46 = []) (hS21 : S 59 = []) (hS36 : S 64 = []) (hS20 : S 20 = []) (hS37 : S 47 = []) (hS22 : S 60 = [])
    {hb hf wb wf : Nat} {ws : List Int} {room r : Int} (h : HeapAt m hb hf wb wf ws room) (h0 : 0 ≤ r) (hw : ws.length ≤ 1000000) (hd : Wd ws) :
    ∃ v m1, callw Tryd.prog TT S 46 [.pointer (some ⟨hb, 0, none⟩), .int .u64 r] m = some (v, m1) ∧ v = .string ⟨(strF ws r).toArray⟩ ∧ Keeps m m1 [] := by
  refine fn_w 8 [20] k46 hS24 rfl ?_
  simp [-BitVec.toNat_or, -BitVec.toNat_ofInt, -BitVec.toNat_and, fieldAddr_of fa92_0, load_of ld56, len_slice u56, conv_i u22 u5, buildSlice_of u89 bs5 rfl, append_s u89 sz5, conv_bytes u89 u5 u9]
  obtain ⟨q, hq⟩ : ∃ q : Nat, ws.getD r.toNat 0 % 4294967296 = q := ⟨(ws.getD r.toNat 0 % 4294967296).toNat, by omega⟩
  have hF : strF ws r = (List.range (min q ws.length)).map fun (i : Nat) => UInt8.ofNat ((ws.getD (atV ws r i).toNat 0) % 256).toNat := by unfold strF; rw [hq]; rfl
  rw [hF]
  refine wsem_loop 8 [20] (fun d E m2 => ∃ (i : Nat) (ao : Option Addr) (fam : Nat), (min q ws.length) - i = d ∧ i ≤ min q ws.length ∧ E = [(0, .pointer (some ⟨hb, 0, none⟩)), (1, .int .u64 r), (4, .string ⟨#[]⟩), (5, .slice ao i i), (6, .func (.func 59) #[.pointer (some ⟨hb, 0, none⟩)] #[]), (7, .int .i64 i)] ∧
    Sl m2 ao i (((List.range i).map fun (i : Nat) => UInt8.ofNat ((ws.getD (atV ws r i).toNat 0) % 256).toNat).map fun b => Value.int .u8 b.toNat) 5 1 fam ∧ m.next ≤ fam ∧ Keeps m m2 []) _ ⟨_, ⟨0, none, m.next, rfl, by omega, rfl, Sl.nil _ _ _ _, Nat.le_refl _, .refl _ _⟩, ⟨rfl, rfl, rfl, rfl, rfl, rfl, trivial⟩⟩ ?_
  rintro d E m2 ih ⟨i, ao, fam, hdi, hi, rfl, s2, hfam, k2⟩
  have h2 := h.keep k2 (by simp) (by simp)
  have l0 := h2.h.load1 (off := 0) rfl
  have hc := len_run hS20 hS37 hS22 h2 h0 hw hd
  rw [hq] at hc
  by_cases hlt : i < min q ws.length
  · have w1 : IntKind.i64.wrap ((i : Int) + 1) = ((i + 1 : Nat) : Int) := by rw [wrap_i64 (by omega) (by omega)]; omega
    have hg := get_run (i := (i : Int)) hS21 hS36 hS20 hS37 hS22 h2 h0 hw hd
    obtain ⟨g0, g1⟩ := hd.at_ (atV ws r i).toNat
    have hF2 : ∀ (f : Nat → UInt8), (List.range (i + 1)).map f = (List.range i).map f ++ [f i] := by intro f; rw [List.range_succ, List.map_append]; rfl
    have w8 : IntKind.u8.wrap (ws.getD (atV ws r i).toNat 0) = ((UInt8.ofNat ((ws.getD (atV ws r i).toNat 0) % 256).toNat).toNat : Int) := by
      have e1 : (2 : Int) ^ IntKind.u8.bits = 256 := by decide
      have e3 : IntKind.u8.signed = false := rfl
      simp only [IntKind.wrap, e1, e3, Bool.false_and]
      simp only [UInt8.toNat_ofNat']
      simp
      omega
    have hF3 := hF2 fun (i : Nat) => UInt8.ofNat ((ws.getD (atV ws r i).toNat 0) % 256).toNat
    generalize UInt8.ofNat ((ws.getD (atV ws r i).toNat 0) % 256).toNat = b at w8 hF3
    generalize ws.getD (atV ws r i).toNat 0 = g at hg w8
    have fin : ∀ x, sappend Tryd.prog 89 (m2.new [Value.int .u8 b.toNat] 5) (.slice ao i i) [Value.int .u8 b.toNat] 1 = x → ∃ (m3 : Mem) (ao3 : Option Addr) (fam3 : Nat), x = some (.slice ao3 (i + 1) (i + 1), m3) ∧ Sl m3 ao3 (i + 1) (((List.range (i + 1)).map fun (i : Nat) => UInt8.ofNat ((ws.getD (atV ws r i).toNat 0) % 256).toNat).map fun b => Value.int .u8 b.toNat) 5 1 fam3 ∧ m.next ≤ fam3 ∧ Keeps m m3 [] := by
      intro x hr
      obtain ⟨m3, ao3, fam3, rfl, s3, k3, hf3⟩ := app_sl_new hr u89 ap5 s2 (by simp) (by simp [one_int]) (by omega) (by omega)
      have hk2 := k2.1
      exact ⟨m3, ao3, fam3, rfl, by rw [hF3, List.map_append]; exact s3, by omega, k2.mono2 k3 hfam⟩
    by_cases hmn : ((ws.length : Int) < q)
    · have e1 : (i : Int) < ws.length := by omega
      simp [-BitVec.toNat_or, -BitVec.toNat_ofInt, -BitVec.toNat_and, fieldAddr_of fa92_0, load_of ld56, len_slice u56, conv_i u22 u5, buildSlice_of u89 bs5 rfl, append_s u89 sz5, conv_bytes u89 u5 u9, l0, hc, hmn, e1, hg, w8, w1]
      generalize hr : sappend _ _ _ _ _ _ = x
      obtain ⟨m3, ao3, fam3, rfl, s3, hf3, k3⟩ := fin x hr
      simp [-BitVec.toNat_or, -BitVec.toNat_ofInt, -BitVec.toNat_and, fieldAddr_of fa92_0, load_of ld56, len_slice u56, conv_i u22 u5, buildSlice_of u89 bs5 rfl, append_s u89 sz5, conv_bytes u89 u5 u9, w1]
      exact ih _ _ _ _ ⟨i + 1, ao3, fam3, rfl, by omega, rfl, s3, hf3, k3⟩ (by omega) ⟨rfl, rfl, rfl, rfl, rfl, by simp [lget], trivial⟩
    · have e1 : (i : Int) < q := by omega
      simp [-BitVec.toNat_or, -BitVec.toNat_ofInt, -BitVec.toNat_and, fieldAddr_of fa92_0, load_of ld56, len_slice u56, conv_i u22 u5, buildSlice_of u89 bs5 rfl, append_s u89 sz5, conv_bytes u89 u5 u9, l0, hc, hmn, e1, hg, w8, w1]
      generalize hr : sappend _ _ _ _ _ _ = x
      obtain ⟨m3, ao3, fam3, rfl, s3, hf3, k3⟩ := fin x hr
      simp [-BitVec.toNat_or, -BitVec.toNat_ofInt, -BitVec.toNat_and, fieldAddr_of fa92_0, load_of ld56, len_slice u56, conv_i u22 u5, buildSlice_of u89 bs5 rfl, append_s u89 sz5, conv_bytes u89 u5 u9, w1]
      exact ih _ _ _ _ ⟨i + 1, ao3, fam3, rfl, by omega, rfl, s3, hf3, k3⟩ (by omega) ⟨rfl, rfl, rfl, rfl, rfl, by simp [lget], trivial⟩
  · have hmin : min q ws.length = i := by omega
    have hbs := bToS_sl (l := (List.range i).map fun (i : Nat) => UInt8.ofNat ((ws.getD (atV ws r i).toNat 0) % 256).toNat) (m := m2) (ao := ao) (e := 5) (fam := fam) (by simpa using s2)
    simp only [List.length_map, List.length_range] at hbs
    rw [hmin]
    generalize ((List.range i).map fun (i : Nat) => UInt8.ofNat ((ws.getD (atV ws r i).toNat 0) % 256).toNat) = L at hbs
    by_cases hmn : ((ws.length : Int) < q)
    · have e1 : ¬ (i : Int) < ws.length := by omega
      simp [-BitVec.toNat_or, -BitVec.toNat_ofInt, -BitVec.toNat_and, fieldAddr_of fa92_0, load_of ld56, len_slice u56, conv_i u22 u5, buildSlice_of u89 bs5 rfl, append_s u89 sz5, conv_bytes u89 u5 u9, l0, hc, hmn, e1, hbs]
      exact k2
    · have e1 : ¬ (i : Int) < q := by omega
      simp [-BitVec.toNat_or, -BitVec.toNat_ofInt, -BitVec.toNat_and, fieldAddr_of fa92_0, load_of ld56, len_slice u56, conv_i u22 u5, buildSlice_of u89 bs5 rfl, append_s u89 sz5, conv_bytes u89 u5 u9, l0, hc, hmn, e1, hbs]
      exact k2
theorem text_no (hS23 : S 41 = []) (hS12 : S 48 = []) {hb hf wb wf : Nat} {A : List Int} {room : Int} {l : List UInt8} (h : HeapAt m hb hf wb wf A room) (hr : 0 < room ∧ room ≤ 65536) (hA : A.length ≤ 65536) (hl : l ≠ []) (hno : noRoom A room 3 l.length) :
    callw Tryd.prog TT S 41 [.pointer (some ⟨hb, 0, none⟩), .string ⟨l.toArray⟩] m = some (.tuple #[.int .u64 0, .bool false], m) := by
  have hc := alloc_no hS12 h hr hA hno
  have he : l.isEmpty = false := by simpa using hl
  refine fn_eq 9 [10, 24] k41 hS23 rfl ?_
  simp [-BitVec.toNat_or, -BitVec.toNat_ofInt, -BitVec.toNat_and, len_string u9, index_str u9, conv_i u5 u22, hc, he]
  refine wsem_loop 9 [10, 24] (fun d E m2 => d = 0 ∧ E = [(1, .string ⟨l.toArray⟩), (4, .int .u64 0), (5, .bool false), (6, .int .u64 0), (7, .bool false), (8, .int .i64 0)] ∧ m2 = m) _ ⟨_, ⟨rfl, rfl, rfl⟩, ⟨rfl, rfl, rfl, rfl, rfl, rfl, trivial⟩⟩ ?_
  rintro d E m2 ih ⟨_, rfl, rfl⟩
  simp [-BitVec.toNat_or, -BitVec.toNat_ofInt, -BitVec.toNat_and, len_string u9, index_str u9, conv_i u5 u22]
theorem textR_no (hS23 : S 51 = []) (hS12 : S 52 = []) {hb hf wb wf : Nat} {A : List Int} {room : Int} {l : List UInt8} (h : RefAt m hb hf wb wf A room) (hr : 0 < room ∧ room ≤ 65536) (hA : A.length ≤ 65536) (hl : l ≠ []) (hno : noRoom A room 3 l.length) :
    callw Tryd.prog TT S 51 [.pointer (some ⟨hb, 0, none⟩), .string ⟨l.toArray⟩] m = some (.tuple #[.int .u64 0, .bool false], m) := by
  have hc := allocR_no hS12 h hr hA hno
  have he : l.isEmpty = false := by simpa using hl
  refine fn_eq 9 [10, 19, 23] k51 hS23 rfl ?_
  simp [-BitVec.toNat_or, -BitVec.toNat_ofInt, -BitVec.toNat_and, len_string u9, index_str u9, conv_i u5 u22, hc, he]
theorem textR_run (hS23 : S 51 = []) (hS12 : S 52 = []) (hS17 : S 67 = []) (hS18 : S 61 = []) (hS20 : S 53 = []) (hS22 : S 62 = [])
    {hb hf wb wf : Nat} {A : List Int} {room : Int} {l : List UInt8} (h : RefAt m hb hf wb wf A room) (hr : 0 < room ∧ room ≤ 65536) (hfit : ((A.length + l.length + 1 : Nat) : Int) ≤ room) (hd : Wd A) (hz : A.getD 0 0 = 0) (hA : 0 < A.length) :
    ∃ v m1, callw Tryd.prog TT S 51 [.pointer (some ⟨hb, 0, none⟩), .string ⟨l.toArray⟩] m = some (v, m1) ∧ v = .tuple #[.int .u64 (if l = [] then 0 else A.length), .bool true] ∧
      (∃ wb', RefAt m1 hb hf wb' wf (A ++ txt l) room) ∧ Keeps m m1 [hf, wf] := by
  refine fn_w 9 [10, 19, 23] k51 hS23 rfl ?_
  by_cases hl : l = []
  · subst hl
    simp [-BitVec.toNat_or, -BitVec.toNat_ofInt, -BitVec.toNat_and, len_string u9, index_str u9, conv_i u5 u22]
    exact ⟨⟨wb, by simpa [txt] using h⟩, .refl _ _⟩
  have hn0 : l.length ≠ 0 := by simpa using hl
  obtain ⟨v, m1, hc, rfl, ⟨wb1, h1⟩, k1⟩ := allocR_yes (t := 3) (n := l.length) hS12 h hr (by omega) (by unfold noRoom; omega)
  simp only [List.append_assoc, List.cons_append, List.nil_append] at h1
  have he : l.isEmpty = false := by simpa using hl
  simp [-BitVec.toNat_or, -BitVec.toNat_ofInt, -BitVec.toNat_and, len_string u9, index_str u9, conv_i u5 u22, hc, he]
  have hwd := wd_app.2 ⟨hd, wd_cons.2 ⟨head_wd (t := 3) (n := l.length) (by omega) (by omega), wd_rep l.length⟩⟩
  refine wsem_loop 9 [10, 19, 23] (fun d E m2 => ∃ i : Nat, l.length - i = d ∧ i ≤ l.length ∧ E = [(0, .pointer (some ⟨hb, 0, none⟩)), (1, .string ⟨l.toArray⟩), (6, .int .u64 A.length), (7, .bool true), (8, .int .i64 i)] ∧
    RefAt m2 hb hf wb1 wf (A ++ headOf 3 l.length :: (byts (l.take i) ++ List.replicate (l.length - i) 0)) room ∧ Keeps m m2 [hf, wf]) _ ⟨_, ⟨0, rfl, by omega, rfl, by simpa [byts] using h1, k1⟩, ⟨rfl, rfl, rfl, rfl, rfl, trivial⟩⟩ ?_
  rintro d E m2 ih ⟨i, hdi, hi, rfl, h2, k2⟩
  by_cases hlt : i < l.length
  · have e1 : (i : Int) < l.length := by omega
    have hmax : (i : Int) ≤ 9223372036854775807 := by omega
    have w1 : IntKind.i64.wrap ((i : Int) + 1) = ((i + 1 : Nat) : Int) := by rw [wrap_i64 (by omega) (by omega)]; omega
    have hb8 := (l[i]).toNat_lt
    have w2 : IntKind.u64.wrap ((l[i]).toNat : Int) = (l[i]).toNat := wrap_u64 (by omega) (by omega)
    have hw2 : Wd (A ++ headOf 3 l.length :: (byts (l.take i) ++ List.replicate (l.length - i) 0)) := wd_app.2 ⟨hd, wd_cons.2 ⟨head_wd (by omega) (by omega), wd_app.2 ⟨wd_byts _, wd_rep _⟩⟩⟩
    have hlen : (A ++ headOf 3 l.length :: (byts (l.take i) ++ List.replicate (l.length - i) 0)).length = A.length + 1 + l.length := by simp [byts]; omega
    have hz2 : (A ++ headOf 3 l.length :: (byts (l.take i) ++ List.replicate (l.length - i) 0)).getD 0 0 = 0 := by
      rw [List.getD_eq_getElem?_getD, List.getElem?_append_left hA, ← List.getD_eq_getElem?_getD]; exact hz
    obtain ⟨r, m3, hp, rfl, h3, k3⟩ := setR_run (i := (i : Int)) (r := (A.length : Int)) (v := ((l[i]).toNat : Int)) hS18 hS17 hS20 hS22 h2 (by omega) (by omega) hw2 hz2
    rw [atV_obj (by omega) (by omega) hlt (by omega)] at h3
    have hpf : putF (A ++ headOf 3 l.length :: (byts (l.take i) ++ List.replicate (l.length - i) 0)) ((A.length + 1 + i : Nat) : Int) ((l[i]).toNat : Int) = A ++ headOf 3 l.length :: (byts (l.take (i + 1)) ++ List.replicate (l.length - (i + 1)) 0) := by
      unfold putF
      rw [if_neg (by omega), Int.toNat_natCast, obj_set, text_step hlt]
    rw [hpf] at h3
    simp [-BitVec.toNat_or, -BitVec.toNat_ofInt, -BitVec.toNat_and, len_string u9, index_str u9, conv_i u5 u22, e1, hmax, hlt, w2, hp, w1]
    refine ih _ _ _ _ ⟨i + 1, rfl, by omega, rfl, h3, k2.trans (k3.mono (by simp))⟩ (by omega) ⟨rfl, rfl, rfl, rfl, ?_, trivial⟩
    simp [lget]
  · have hil : i = l.length := by omega
    subst hil
    simp [-BitVec.toNat_or, -BitVec.toNat_ofInt, -BitVec.toNat_and, len_string u9, index_str u9, conv_i u5 u22, hl]
    exact ⟨⟨wb1, by simpa [txt, hl] using h2⟩, k2⟩
instance (ws : List Int) (room t n : Int) : Decidable (noRoom ws room t n) := by unfold noRoom; infer_instance
def allocW (ws : List Int) (room t n : Int) : List Int := if noRoom ws room t n then ws else ws ++ [headOf t n] ++ List.replicate n.toNat 0
def allocV (ws : List Int) (room t n : Int) : Int := if noRoom ws room t n then 0 else ws.length
def allocB (ws : List Int) (room t n : Int) : Bool := if noRoom ws room t n then false else true
theorem alloc_any (hS : S 48 = []) {hb hf wb wf : Nat} {ws : List Int} {room t n : Int} (h : HeapAt m hb hf wb wf ws room) (hr : 0 < room ∧ room ≤ 65536) (hw : ws.length ≤ 65536) :
    ∃ v m1, callw Tryd.prog TT S 48 [.pointer (some ⟨hb, 0, none⟩), .int .i64 t, .int .i64 n] m = some (v, m1) ∧ v = .tuple #[.int .u64 (allocV ws room t n), .bool (allocB ws room t n)] ∧
      (∃ wb', HeapAt m1 hb hf wb' wf (allocW ws room t n) room) ∧ Keeps m m1 [hf, wf] := by
  by_cases hno : noRoom ws room t n
  · exact ⟨_, m, alloc_no hS h hr hw hno, by simp only [allocV, allocB, if_pos hno], ⟨wb, by simp only [allocW, if_pos hno]; exact h⟩, (keeps_refl m).mono (by simp)⟩
  · obtain ⟨k, rfl⟩ : ∃ k : Nat, n = k := ⟨n.toNat, by unfold noRoom at hno; omega⟩
    obtain ⟨v, m1, h1, h2, h3, h4⟩ := alloc_yes hS h hr hw hno
    exact ⟨v, m1, h1, by simp only [allocV, allocB, if_neg hno]; exact h2, by simp only [allocW, if_neg hno, Int.toNat_natCast]; exact h3, h4⟩
theorem allocR_any (hS : S 52 = []) {hb hf wb wf : Nat} {ws : List Int} {room t n : Int} (h : RefAt m hb hf wb wf ws room) (hr : 0 < room ∧ room ≤ 65536) (hw : ws.length ≤ 65536) :
    ∃ v m1, callw Tryd.prog TT S 52 [.pointer (some ⟨hb, 0, none⟩), .int .i64 t, .int .i64 n] m = some (v, m1) ∧ v = .tuple #[.int .u64 (allocV ws room t n), .bool (allocB ws room t n)] ∧
      (∃ wb', RefAt m1 hb hf wb' wf (allocW ws room t n) room) ∧ Keeps m m1 [hf, wf] := by
  by_cases hno : noRoom ws room t n
  · exact ⟨_, m, allocR_no hS h hr hw hno, by simp only [allocV, allocB, if_pos hno], ⟨wb, by simp only [allocW, if_pos hno]; exact h⟩, (keeps_refl m).mono (by simp)⟩
  · obtain ⟨k, rfl⟩ : ∃ k : Nat, n = k := ⟨n.toNat, by unfold noRoom at hno; omega⟩
    obtain ⟨v, m1, h1, h2, h3, h4⟩ := allocR_yes hS h hr hw hno
    exact ⟨v, m1, h1, by simp only [allocV, allocB, if_neg hno]; exact h2, by simp only [allocW, if_neg hno, Int.toNat_natCast]; exact h3, h4⟩
def noText (ws : List Int) (room : Int) (l : List UInt8) : Prop := l ≠ [] ∧ noRoom ws room 3 l.length
instance (ws : List Int) (room : Int) (l : List UInt8) : Decidable (noText ws room l) := by unfold noText; infer_instance
def textW (ws : List Int) (room : Int) (l : List UInt8) : List Int := if noText ws room l then ws else ws ++ txt l
def textV (ws : List Int) (room : Int) (l : List UInt8) : Int := if noText ws room l then 0 else if l = [] then 0 else ws.length
def textB (ws : List Int) (room : Int) (l : List UInt8) : Bool := if noText ws room l then false else true
theorem noText_fit {ws : List Int} {room : Int} {l : List UInt8} (h : ¬ noText ws room l) (hl : l ≠ []) : ((ws.length + l.length + 1 : Nat) : Int) ≤ room := by
  unfold noText noRoom at h
  simp only [not_and, not_or] at h
  have := h hl
  omega
theorem text_any (hS23 : S 41 = []) (hS12 : S 48 = []) (hS17 : S 63 = []) (hS18 : S 56 = []) (hS36 : S 64 = []) (hS20 : S 20 = []) (hS37 : S 47 = []) (hS22 : S 60 = [])
    {hb hf wb wf : Nat} {A : List Int} {room : Int} {l : List UInt8} (h : HeapAt m hb hf wb wf A room) (hr : 0 < room ∧ room ≤ 65536) (hA : A.length ≤ 65536) (hd : Wd A) :
    ∃ v m1, callw Tryd.prog TT S 41 [.pointer (some ⟨hb, 0, none⟩), .string ⟨l.toArray⟩] m = some (v, m1) ∧ v = .tuple #[.int .u64 (textV A room l), .bool (textB A room l)] ∧
      (∃ wb', HeapAt m1 hb hf wb' wf (textW A room l) room) ∧ Keeps m m1 [hf, wf] := by
  by_cases hno : noText A room l
  · exact ⟨_, m, text_no hS23 hS12 h hr hA hno.1 hno.2, by simp only [textV, textB, if_pos hno], ⟨wb, by simp only [textW, if_pos hno]; exact h⟩, (keeps_refl m).mono (by simp)⟩
  · by_cases hl : l = []
    · subst hl
      refine ⟨.tuple #[.int .u64 0, .bool true], m, ?_, by simp only [textV, textB, if_neg hno, if_true], ⟨wb, by simp only [textW, if_neg hno, txt, if_true, List.append_nil]; exact h⟩, (keeps_refl m).mono (by simp)⟩
      refine fn_eq 9 [10, 24] k41 hS23 rfl ?_
      simp [-BitVec.toNat_or, -BitVec.toNat_ofInt, -BitVec.toNat_and, len_string u9, index_str u9, conv_i u5 u22]
    · obtain ⟨v, m1, h1, h2, h3, h4⟩ := text_run (l := l) hS23 hS12 hS17 hS18 hS36 hS20 hS37 hS22 h hr (noText_fit hno hl) hd
      exact ⟨v, m1, h1, by simp only [textV, textB, if_neg hno]; exact h2, by simp only [textW, if_neg hno]; exact h3, h4⟩
theorem textR_any (hS23 : S 51 = []) (hS12 : S 52 = []) (hS17 : S 67 = []) (hS18 : S 61 = []) (hS20 : S 53 = []) (hS22 : S 62 = [])
    {hb hf wb wf : Nat} {A : List Int} {room : Int} {l : List UInt8} (h : RefAt m hb hf wb wf A room) (hr : 0 < room ∧ room ≤ 65536) (hA : A.length ≤ 65536) (hd : Wd A) (hz : A.getD 0 0 = 0) (hA0 : 0 < A.length) :
    ∃ v m1, callw Tryd.prog TT S 51 [.pointer (some ⟨hb, 0, none⟩), .string ⟨l.toArray⟩] m = some (v, m1) ∧ v = .tuple #[.int .u64 (textV A room l), .bool (textB A room l)] ∧
      (∃ wb', RefAt m1 hb hf wb' wf (textW A room l) room) ∧ Keeps m m1 [hf, wf] := by
  by_cases hno : noText A room l
  · exact ⟨_, m, textR_no hS23 hS12 h hr hA hno.1 hno.2, by simp only [textV, textB, if_pos hno], ⟨wb, by simp only [textW, if_pos hno]; exact h⟩, (keeps_refl m).mono (by simp)⟩
  · by_cases hl : l = []
    · subst hl
      refine ⟨.tuple #[.int .u64 0, .bool true], m, ?_, by simp only [textV, textB, if_neg hno, if_true], ⟨wb, by simp only [textW, if_neg hno, txt, if_true, List.append_nil]; exact h⟩, (keeps_refl m).mono (by simp)⟩
      refine fn_eq 9 [10, 19, 23] k51 hS23 rfl ?_
      simp [-BitVec.toNat_or, -BitVec.toNat_ofInt, -BitVec.toNat_and, len_string u9, index_str u9, conv_i u5 u22]
    · obtain ⟨v, m1, h1, h2, h3, h4⟩ := textR_run (l := l) hS23 hS12 hS17 hS18 hS20 hS22 h hr (noText_fit hno hl) hd hz hA0
      exact ⟨v, m1, h1, by simp only [textV, textB, if_neg hno]; exact h2, by simp only [textW, if_neg hno]; exact h3, h4⟩
structure GoodW (ws : List Int) (room : Int) : Prop where
  wd : Wd ws
  zero : ws.getD 0 0 = 0
  pos : 0 < ws.length
  le : (ws.length : Int) ≤ room
theorem getD_app_zero {ws b : List Int} (h : 0 < ws.length) : (ws ++ b).getD 0 0 = ws.getD 0 0 := by
  rw [List.getD_eq_getElem?_getD, List.getElem?_append_left h, ← List.getD_eq_getElem?_getD]
theorem GoodW.put {ws : List Int} {room a v : Int} (h : GoodW ws room) (ha : 0 ≤ a) (hv : 0 ≤ v ∧ v ≤ 18446744073709551615) : GoodW (putF ws a v) room := by
  unfold putF
  split
  · exact h
  · rename_i hn
    refine ⟨?_, ?_, by simpa using h.pos, by simpa using h.le⟩
    · intro w hw
      rcases List.mem_or_eq_of_mem_set hw with h1 | rfl
      · exact h.wd w h1
      · exact hv
    · rw [List.getD_eq_getElem?_getD, List.getElem?_set_ne (by omega), ← List.getD_eq_getElem?_getD]
      exact h.zero
theorem GoodW.alloc {ws : List Int} {room t n : Int} (h : GoodW ws room) : GoodW (allocW ws room t n) room := by
  unfold allocW
  split
  · exact h
  · rename_i hn
    unfold noRoom at hn
    refine ⟨?_, ?_, by simp; omega, ?_⟩
    · exact wd_app.2 ⟨wd_app.2 ⟨h.wd, wd_cons.2 ⟨head_wd (by omega) (by omega), by intro w hw; simp at hw⟩⟩, wd_rep _⟩
    · rw [List.append_assoc, getD_app_zero h.pos]; exact h.zero
    · simp only [List.length_append, List.length_cons, List.length_nil, List.length_replicate]; omega
theorem GoodW.text {ws : List Int} {room : Int} {l : List UInt8} (h : GoodW ws room) (hr : room ≤ 65536) : GoodW (textW ws room l) room := by
  unfold textW
  split
  · exact h
  · rename_i hn
    unfold txt
    split
    · simpa using h
    · rename_i hl
      have hf := noText_fit hn hl
      have hp := h.pos
      refine ⟨?_, ?_, by simp; omega, ?_⟩
      · exact wd_app.2 ⟨h.wd, wd_cons.2 ⟨head_wd (by omega) (by omega), wd_byts _⟩⟩
      · rw [getD_app_zero h.pos]; exact h.zero
      · simp only [List.length_append, List.length_cons, byts, List.length_map]; omega
theorem u64_le {x : Int} (h : (Lit.int .u64 x).wf = true) : 0 ≤ x ∧ x ≤ 18446744073709551615 := by
  simp only [Lit.wf, Bool.and_eq_true, decide_eq_true_eq] at h
  have e1 : IntKind.u64.min = 0 := by decide
  have e2 : IntKind.u64.max = 18446744073709551615 := by decide
  omega
theorem i64_le {x : Int} (h : (Lit.int .i64 x).wf = true) : -9223372036854775808 ≤ x ∧ x ≤ 9223372036854775807 := by
  simp only [Lit.wf, Bool.and_eq_true, decide_eq_true_eq] at h
  have e1 : IntKind.i64.min = -9223372036854775808 := by decide
  have e2 : IntKind.i64.max = 9223372036854775807 := by decide
  omega
end Go.Proofs.YtggbgelfgfmikaaDoor.base

