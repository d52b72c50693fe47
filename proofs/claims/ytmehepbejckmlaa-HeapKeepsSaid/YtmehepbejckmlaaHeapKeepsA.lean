/-
  This text proves 'Rows.HeapKeepsSaid': the law 'HeapKeeps' returns true at any sizes, places and values, in whatever memory and on every tape, and its input reads as it did.
  No condition.
-/
import Derived.Test.YtmehepbejckmlaaRows
import Derived.Test.YtmehepbejckmlaaHeapBase2
set_option maxRecDepth 100000
set_option linter.unusedSimpArgs false
set_option linter.unusedVariables false
namespace Go.Proofs.Ytmehepbejckmlaa.heapKeeps
open Go.Sh heapBase
/-- the words of objects, from number k on -/
def flat : Nat → List (List Int) → List Int
  | _, [] => []
  | k, c :: r => (headOf ((k : Int) + 5) c.length :: c) ++ flat (k + 1) r
def tot : List (List Int) → Nat
  | [] => 0
  | c :: r => c.length + 1 + tot r
/-- where object k stands -/
def offs (objs : List (List Int)) (k : Nat) : Nat := 1 + tot (objs.take k)

theorem flat_append : ∀ (a b : List (List Int)) (k : Nat), flat k (a ++ b) = flat k a ++ flat (k + a.length) b
  | [], b, k => by simp [flat]
  | c :: r, b, k => by
    simp only [List.cons_append, flat, List.length_cons]
    rw [flat_append r b (k + 1)]
    simp [Nat.add_assoc, Nat.add_comm 1]
theorem tot_append : ∀ (a b : List (List Int)), tot (a ++ b) = tot a + tot b
  | [], b => by simp [tot]
  | c :: r, b => by simp only [List.cons_append, tot, tot_append r b]; omega
theorem flat_length : ∀ (objs : List (List Int)) (k : Nat), (flat k objs).length = tot objs
  | [], k => rfl
  | c :: r, k => by simp only [flat, tot, List.length_append, List.length_cons, flat_length r]

theorem flat_split {objs : List (List Int)} {k : Nat} {c : List Int} (h : objs[k]? = some c) :
    (0 : Int) :: flat 0 objs = ((0 : Int) :: flat 0 (objs.take k)) ++ (headOf ((k : Int) + 5) c.length :: c) ++ flat (k + 1) (objs.drop (k + 1)) ∧ ((0 : Int) :: flat 0 (objs.take k)).length = offs objs k := by
  have hk := (List.getElem?_eq_some_iff.1 h).1
  constructor
  · have hs : objs = objs.take k ++ (c :: objs.drop (k + 1)) := by
      have := List.take_append_drop k objs
      rw [List.drop_eq_getElem_cons hk] at this
      have hc : objs[k] = c := by rw [List.getElem?_eq_getElem hk] at h; simpa using h
      rw [hc] at this
      exact this.symm
    conv => lhs; rw [hs]
    rw [flat_append]
    have hl : (objs.take k).length = k := by simp; omega
    simp only [hl, Nat.zero_add, flat, List.cons_append, List.append_assoc]
  · simp only [List.length_cons, flat_length, offs]; omega

theorem head_at {objs : List (List Int)} {k : Nat} {c : List Int} (h : objs[k]? = some c) : ((0 : Int) :: flat 0 objs).getD (offs objs k) 0 = headOf ((k : Int) + 5) c.length := by
  obtain ⟨h1, h2⟩ := flat_split h
  rw [h1, ← h2, List.getD_eq_getElem?_getD, List.append_assoc, List.getElem?_append_right (Nat.le_refl _), Nat.sub_self]
  rfl
theorem word_at {objs : List (List Int)} {k j : Nat} {c : List Int} (h : objs[k]? = some c) (hj : j < c.length) : ((0 : Int) :: flat 0 objs).getD (offs objs k + 1 + j) 0 = c.getD j 0 := by
  obtain ⟨h1, h2⟩ := flat_split h
  rw [h1, List.getD_eq_getElem?_getD, List.append_assoc, List.getElem?_append_right (by rw [h2]; omega), h2, show offs objs k + 1 + j - offs objs k = j + 1 by omega]
  rw [List.cons_append, List.getElem?_cons_succ, List.getElem?_append_left hj, List.getD_eq_getElem?_getD]
theorem fits {objs : List (List Int)} {k : Nat} {c : List Int} (h : objs[k]? = some c) : offs objs k + 1 + c.length ≤ ((0 : Int) :: flat 0 objs).length := by
  obtain ⟨h1, h2⟩ := flat_split h
  rw [h1]
  simp only [List.length_append, h2, List.length_cons]
  omega
theorem offs_set {objs : List (List Int)} {k : Nat} {c c' : List Int} (h : objs[k]? = some c) (hl : c'.length = c.length) (i : Nat) : offs (objs.set k c') i = offs objs i := by
  unfold offs
  congr 1
  have key : ∀ (l : List (List Int)) (k : Nat) (i : Nat), l[k]? = some c → tot ((l.set k c').take i) = tot (l.take i) := by
    intro l
    induction l with
    | nil => intro k i hh; simp at hh
    | cons a r ih =>
      intro k i hh
      cases i with
      | zero => simp
      | succ i =>
        cases k with
        | zero =>
          simp at hh
          subst hh
          simp [tot, hl]
        | succ k =>
          simp at hh
          simp only [List.set_cons_succ, List.take_succ_cons, tot, ih k i hh]
  exact key objs k i h
theorem set_at {objs : List (List Int)} {k j : Nat} {c : List Int} {v : Int} (h : objs[k]? = some c) (hj : j < c.length) : ((0 : Int) :: flat 0 objs).set (offs objs k + 1 + j) v = (0 : Int) :: flat 0 (objs.set k (c.set j v)) := by
  obtain ⟨h1, h2⟩ := flat_split h
  have hk := (List.getElem?_eq_some_iff.1 h).1
  have hg : (objs.set k (c.set j v))[k]? = some (c.set j v) := by simp [hk]
  obtain ⟨g1, g2⟩ := flat_split hg
  rw [h1, g1]
  have e1 : (objs.set k (c.set j v)).take k = objs.take k := by rw [List.take_set]; exact List.set_eq_of_length_le (by simp; omega)
  have e2 : (objs.set k (c.set j v)).drop (k + 1) = objs.drop (k + 1) := by rw [List.drop_set, if_pos (by omega)]
  rw [e1, e2, List.append_assoc, List.append_assoc, List.set_append_right _ _ (by rw [h2]; omega), h2, show offs objs k + 1 + j - offs objs k = j + 1 by omega]
  rw [List.cons_append, List.cons_append, List.set_cons_succ, List.set_append_left _ _ (by simpa using hj)]
  simp
theorem offs_last (objs : List (List Int)) : offs objs objs.length = ((0 : Int) :: flat 0 objs).length := by
  unfold offs
  rw [List.take_of_length_le (Nat.le_refl _), List.length_cons, flat_length]
  omega
theorem offs_app (objs : List (List Int)) (c : List Int) {i : Nat} (h : i ≤ objs.length) : offs (objs ++ [c]) i = offs objs i := by
  unfold offs
  rw [List.take_append_of_le_length h]
theorem flat_snoc (objs : List (List Int)) (c : List Int) : (0 : Int) :: flat 0 (objs ++ [c]) = ((0 : Int) :: flat 0 objs) ++ [headOf ((objs.length : Int) + 5) c.length] ++ c := by
  rw [flat_append]
  simp [flat]

variable {S : Sums} {m : Mem}
theorem u40 : Try.prog.underlying 40 = some (.slice 34) := by kernel_rfl
theorem el34 : elOk Try.prog 34 = true := by kernel_rfl
theorem ap34 : apOk Try.prog 34 1 24 = true := by kernel_rfl

/-- where the objects stand, as words -/
def refsOf (objs : List (List Int)) : List Int := (List.range objs.length).map fun k => ((offs objs k : Nat) : Int)
theorem refsOf_snoc (objs : List (List Int)) (c : List Int) : refsOf (objs ++ [c]) = refsOf objs ++ [((((0 : Int) :: flat 0 objs).length : Nat) : Int)] := by
  unfold refsOf
  rw [List.length_append, List.length_singleton, List.range_succ, List.map_append, List.map_singleton, offs_app objs c (Nat.le_refl _), offs_last]
  congr 1
  apply List.map_congr_left
  intro k hk
  rw [offs_app objs c (by simp at hk; omega)]

/-- the rows that are wanted, as slices -/
def wants : List (Nat × Nat) → List (List Int) → List Value
  | p :: r, c :: s => .slice (some ⟨p.1, 0, none⟩) c.length c.length :: wants r s
  | _, _ => []
theorem wants_length : ∀ (bs : List (Nat × Nat)) (objs : List (List Int)), bs.length = objs.length → (wants bs objs).length = objs.length
  | [], [], _ => rfl
  | p :: r, c :: s, h => by simp only [wants, List.length_cons]; rw [wants_length r s (by simpa using h)]
  | [], _ :: _, h => by simp at h
  | _ :: _, [], h => by simp at h
theorem wants_snoc : ∀ (bs : List (Nat × Nat)) (objs : List (List Int)) (p : Nat × Nat) (c : List Int), bs.length = objs.length → wants (bs ++ [p]) (objs ++ [c]) = wants bs objs ++ [.slice (some ⟨p.1, 0, none⟩) c.length c.length]
  | [], [], _, _, _ => rfl
  | q :: r, d :: s, p, c, h => by simp only [List.cons_append, wants]; rw [wants_snoc r s p c (by simpa using h)]
  | [], _ :: _, _, _, h => by simp at h
  | _ :: _, [], _, _, h => by simp at h
theorem wants_at : ∀ (bs : List (Nat × Nat)) (objs : List (List Int)) (k : Nat) (p : Nat × Nat) (c : List Int), bs[k]? = some p → objs[k]? = some c → (wants bs objs)[k]? = some (.slice (some ⟨p.1, 0, none⟩) c.length c.length)
  | q :: r, d :: s, 0, p, c, h1, h2 => by simp at h1 h2; subst h1; subst h2; rfl
  | q :: r, d :: s, k + 1, p, c, h1, h2 => by simp at h1 h2; simp only [wants, List.getElem?_cons_succ]; exact wants_at r s k p c h1 h2
  | [], _, _, _, _, h, _ => by simp at h
  | _ :: _, [], _, _, _, _, h => by simp at h

/-- what the memory holds: the heap, the places, the wanted rows -/
structure Kp (n0 : Nat) (m : Mem) (hb hf wb wf : Nat) (objs : List (List Int)) (rv qv : Value) (rf qf : Nat) (bs : List (Nat × Nat)) : Prop where
  h : HeapAt m hb hf wb wf ((0 : Int) :: flat 0 objs) 65536
  r : Full m rv (words (refsOf objs)) 29 rf
  q : Full m qv (wants bs objs) 34 qf
  bl : bs.length = objs.length
  b : ∀ (k : Nat) p c, bs[k]? = some p → objs[k]? = some c → Own m p.1 (words c) 29 p.2
  nd : objs ≠ [] → (hf :: wf :: rf :: qf :: bs.map (·.2)).Nodup
  lo : n0 ≤ m.next ∧ n0 ≤ hf ∧ n0 ≤ wf ∧ (objs ≠ [] → n0 ≤ rf ∧ n0 ≤ qf ∧ ∀ p ∈ bs, n0 ≤ p.2)
  sz : objs.length ≤ 30 ∧ tot objs ≤ 9 * objs.length ∧ ∀ c ∈ objs, c.length ≤ 8 ∧ Wd c

noncomputable def c5 : Code := bodyOf Try.f5
noncomputable def r5_0 : Code := Code.sub [0] c5
noncomputable def r5_1 : Code := Code.sub [1, 0] c5
noncomputable def r5_2 : Code := Code.sub [1, 1, 0, 0] c5
noncomputable def r5_3 : Code := Code.sub [1, 1, 0, 1, 0, 0] c5
noncomputable def r5_4 : Code := Code.sub [1, 1, 1, 0] c5
noncomputable def r5_5 : Code := Code.sub [1, 1, 1, 1, 0] c5
noncomputable def r5_6 : Code := Code.sub [1, 1, 1, 1, 1, 0, 0] c5
noncomputable def r5_7 : Code := Code.sub [1, 1, 1, 1, 1, 0, 1, 0, 0, 0, 0] c5
noncomputable def r5_8 : Code := Code.sub [1, 1, 1, 1, 1, 0, 1, 0, 0, 1, 0, 0, 0] c5
noncomputable def r5_9 : Code := Code.sub [1, 1, 1, 1, 1, 0, 1, 0, 0, 1, 0, 0, 1, 0] c5
noncomputable def r5_10 : Code := Code.sub [1, 1, 1, 1, 1, 0, 1, 0, 0, 1, 0, 0, 1, 1, 0, 0] c5
noncomputable def r5_11 : Code := Code.sub [1, 1, 1, 1, 1, 0, 1, 0, 0, 1, 0, 0, 1, 1, 0, 1, 0, 0] c5
noncomputable def r5_12 : Code := Code.sub [1, 1, 1, 1, 1, 0, 1, 0, 0, 1, 0, 0, 1, 1, 1, 0] c5
noncomputable def r5_13 : Code := Code.sub [1, 1, 1, 1, 1, 0, 1, 0, 0, 1, 0, 0, 1, 1, 1, 1] c5
noncomputable def r5_14 : Code := Code.sub [1, 1, 1, 1, 1, 0, 1, 0, 0, 1, 1] c5
noncomputable def r5_15 : Code := Code.sub [1, 1, 1, 1, 1, 1, 0, 0] c5
noncomputable def r5_16 : Code := Code.sub [1, 1, 1, 1, 1, 1, 0, 1, 0, 0, 0, 0] c5
noncomputable def r5_17 : Code := Code.sub [1, 1, 1, 1, 1, 1, 0, 1, 0, 0, 1, 0, 0, 0] c5
noncomputable def r5_18 : Code := Code.sub [1, 1, 1, 1, 1, 1, 0, 1, 0, 0, 1, 0, 0, 1, 0] c5
noncomputable def r5_19 : Code := Code.sub [1, 1, 1, 1, 1, 1, 0, 1, 0, 0, 1, 0, 0, 1, 1, 0, 0] c5
noncomputable def r5_20 : Code := Code.sub [1, 1, 1, 1, 1, 1, 0, 1, 0, 0, 1, 0, 0, 1, 1, 0, 1, 0, 0] c5
noncomputable def r5_21 : Code := Code.sub [1, 1, 1, 1, 1, 1, 0, 1, 0, 0, 1, 0, 0, 1, 1, 1, 0] c5
noncomputable def r5_22 : Code := Code.sub [1, 1, 1, 1, 1, 1, 0, 1, 0, 0, 1, 0, 0, 1, 1, 1, 1, 0] c5
noncomputable def r5_23 : Code := Code.sub [1, 1, 1, 1, 1, 1, 0, 1, 0, 0, 1, 1] c5
noncomputable def r5_24 : Code := Code.sub [1, 1, 1, 1, 1, 1, 1, 0, 0] c5
noncomputable def r5_25 : Code := Code.sub [1, 1, 1, 1, 1, 1, 1, 0, 1, 0, 0, 0, 0] c5
noncomputable def r5_26 : Code := Code.sub [1, 1, 1, 1, 1, 1, 1, 0, 1, 0, 0, 1, 0, 0, 0, 0] c5
noncomputable def r5_27 : Code := Code.sub [1, 1, 1, 1, 1, 1, 1, 0, 1, 0, 0, 1, 0, 0, 0, 1, 0, 0] c5
noncomputable def r5_28 : Code := Code.sub [1, 1, 1, 1, 1, 1, 1, 0, 1, 0, 0, 1, 0, 0, 1, 0] c5
noncomputable def r5_29 : Code := Code.sub [1, 1, 1, 1, 1, 1, 1, 0, 1, 0, 0, 1, 0, 0, 1, 1, 0, 0, 0, 0] c5
noncomputable def r5_30 : Code := Code.sub [1, 1, 1, 1, 1, 1, 1, 0, 1, 0, 0, 1, 0, 0, 1, 1, 0, 0, 1, 0, 0, 0] c5
noncomputable def r5_31 : Code := Code.sub [1, 1, 1, 1, 1, 1, 1, 0, 1, 0, 0, 1, 0, 0, 1, 1, 0, 0, 1, 0, 0, 1, 0, 0] c5
noncomputable def r5_32 : Code := Code.sub [1, 1, 1, 1, 1, 1, 1, 0, 1, 0, 0, 1, 0, 0, 1, 1, 0, 0, 1, 1] c5
noncomputable def r5_33 : Code := Code.sub [1, 1, 1, 1, 1, 1, 1, 0, 1, 0, 0, 1, 1] c5
noncomputable def r5_34 : Code := Code.sub [1, 1, 1, 1, 1, 1, 1, 1, 0] c5
theorem body5 : c5 = (.seq r5_0 (.seq r5_1 (.seq (.seq r5_2 (.cond (.tmp 33) (.seq r5_3 .ret) .skip)) (.seq r5_4 (.seq r5_5 (.seq (.seq r5_6 (.block 0 (.loop (.seq (.seq r5_7 (.cond (.tmp 41) .skip (.exit 0))) (.seq (.block 1 (.seq r5_8 (.seq r5_9 (.seq (.seq r5_10 (.cond (.tmp 58) (.seq r5_11 .ret) .skip)) (.seq r5_12 r5_13))))) r5_14))))) (.seq (.seq r5_15 (.block 2 (.loop (.seq (.seq r5_16 (.cond (.tmp 86) .skip (.exit 2))) (.seq (.block 3 (.seq r5_17 (.seq r5_18 (.seq (.seq r5_19 (.cond (.tmp 120) (.seq r5_20 .ret) .skip)) (.seq r5_21 (.cond (.tmp 127) r5_22 .skip)))))) r5_23))))) (.seq (.seq r5_24 (.block 4 (.loop (.seq (.seq r5_25 (.cond (.tmp 141) .skip (.exit 4))) (.seq (.block 5 (.seq (.seq r5_26 (.cond (.tmp 166) (.seq r5_27 .ret) .skip)) (.seq r5_28 (.block 6 (.loop (.seq (.seq r5_29 (.cond (.tmp 173) .skip (.exit 6))) (.seq (.block 7 (.seq r5_30 (.cond (.tmp 210) (.seq r5_31 .ret) .skip))) r5_32))))))) r5_33))))) (.seq r5_34 .ret))))))))) := by kernel_rfl
/-- the slots of the first loop -/
structure Sk (t : Tree Value) (v0 v1 v2 : Value) (hb i : Nat) (rv qv : Value) : Prop where
  s0 : t.get 0 = some v0
  s1 : t.get 1 = some v1
  s2 : t.get 2 = some v2
  s7 : t.get 7 = some (.pointer (some ⟨hb, 0, none⟩))
  s9 : t.get 9 = some rv
  s10 : t.get 10 = some qv
  s11 : t.get 11 = some (.int .i64 i)

noncomputable def roundA : Code := .seq (.seq r5_7 (.cond (.tmp 41) .skip (.exit 0))) (.seq (.block 1 (.seq r5_8 (.seq r5_9 (.seq (.seq r5_10 (.cond (.tmp 58) (.seq r5_11 .ret) .skip)) (.seq r5_12 r5_13))))) r5_14)

section
variable {t : Tree Value} {v0 v1 v2 rv qv : Value} {hb i : Nat}
theorem a9 (h : Sk t v0 v1 v2 hb i rv qv) {n : Nat} {ref : Int} {m1 : Mem} (h12 : t.get 12 = some (.int .i64 n)) (hi : i ≤ 1000) (hc : callw Try.prog TT S 12 [.pointer (some ⟨hb, 0, none⟩), .int .i64 ((i : Int) + 5), .int .i64 n] m = some (.tuple #[.int .u64 ref, .bool true], m1)) :
    ∃ t', execw Try.prog TT S (.seq r5_9 (.seq r5_10 (.cond (.tmp 58) (.seq r5_11 .ret) .skip))) t m = some (.normal, t', m1) ∧ Sk t' v0 v1 v2 hb i rv qv ∧ t'.get 12 = some (.int .i64 n) ∧ t'.get 13 = some (.int .u64 ref) := by
  obtain ⟨s0, s1, s2, s7, s9, s10, s11⟩ := h
  have w : IntKind.i64.wrap ((i : Int) + 5) = (i : Int) + 5 := wrap_i64 (by omega) (by omega)
  have : ∃ t', execw Try.prog TT S (.seq r5_9 (.seq r5_10 (.cond (.tmp 58) (.seq r5_11 .ret) .skip))) t m = some (.normal, t', m1) ∧ t'.get 0 = t.get 0 ∧ t'.get 1 = t.get 1 ∧ t'.get 2 = t.get 2 ∧ t'.get 7 = t.get 7 ∧ t'.get 9 = t.get 9 ∧ t'.get 10 = t.get 10 ∧ t'.get 11 = t.get 11 ∧ t'.get 12 = t.get 12 ∧ t'.get 13 = some (.int .u64 ref) := by
    simp only [r5_9, r5_10, c5, bodyOf, Try.f5, Code.sub]
    simp [x_seq, x_region, x_cond, x_ret, x_skip, x_exit, sregion_false, sregion_quiet, floatB, quiet, loudB, sops_nil, sops_cons, sop1_plain, sop1_guard, syield, put_some, put_none, ev_tmp, ev_const, fill_nil, fill_cons, o_move, o_assign, o_bin, o_pick, o_nilCheck, o_fieldAddr, o_load, o_len, o_store, o_conv, o_un, o_extract, o_append, o_call, o_buildSlice, o_box, o_alloc, o_build, o_indexAddr, Tree.get_set, s_binOp, fastBin, s_unOp, fastUn, boolEq, sresults, sresultsL, sresult, one_int, one_slice, one_ptr, one_bool, one_str, cells_int, cells_slice, cells_ptr, cells_bool, cells_str, cells_agg, loadRow_new, window, over, -BitVec.toNat_or, -BitVec.toNat_ofInt, -BitVec.toNat_and, fieldAddr_of fa0, fieldAddr_of fa1, load_of ld3, load_of ld34, len_slice u34, store_of sz34, conv_i u3 u29, build_one u34 el29, append_s u34 sz29, append_m u3 u34, box_of b58, build_of bo58, len_slice u22, index_slice u22 sz3, bin_ptr u24, bin_bool u4 .eql (Or.inl rfl), bin_bool u4 .neq (Or.inr rfl), load_of ld29, store_of sz29, index_slice u34 sz29, conv_i u29 u3, build_one u40 el34, append_s u40 sz34, make_of u34 ap29, s0, s1, s2, s7, s9, s10, s11, h12, w, hc]
  obtain ⟨t', g, g0, g1, g2, g7, g9, g10, g11, g12, g13⟩ := this
  exact ⟨t', g, ⟨g0.trans s0, g1.trans s1, g2.trans s2, g7.trans s7, g9.trans s9, g10.trans s10, g11.trans s11⟩, g12.trans h12, g13⟩

theorem a12 (h : Sk t v0 v1 v2 hb i rv qv) {n : Nat} {ref : Int} {rv' : Value} {m1 : Mem} (h12 : t.get 12 = some (.int .i64 n)) (h13 : t.get 13 = some (.int .u64 ref)) (hc : sappend Try.prog 34 (m.new [.int .u64 ref] 29) rv [.int .u64 ref] 1 = some (rv', m1)) :
    ∃ t', execw Try.prog TT S r5_12 t m = some (.normal, t', m1) ∧ Sk t' v0 v1 v2 hb i rv' qv ∧ t'.get 12 = some (.int .i64 n) := by
  obtain ⟨s0, s1, s2, s7, s9, s10, s11⟩ := h
  have : ∃ t', execw Try.prog TT S r5_12 t m = some (.normal, t', m1) ∧ t'.get 0 = t.get 0 ∧ t'.get 1 = t.get 1 ∧ t'.get 2 = t.get 2 ∧ t'.get 7 = t.get 7 ∧ t'.get 9 = some rv' ∧ t'.get 10 = t.get 10 ∧ t'.get 11 = t.get 11 ∧ t'.get 12 = t.get 12 := by
    simp only [r5_12, c5, bodyOf, Try.f5, Code.sub]
    simp [x_seq, x_region, x_cond, x_ret, x_skip, x_exit, sregion_false, sregion_quiet, floatB, quiet, loudB, sops_nil, sops_cons, sop1_plain, sop1_guard, syield, put_some, put_none, ev_tmp, ev_const, fill_nil, fill_cons, o_move, o_assign, o_bin, o_pick, o_nilCheck, o_fieldAddr, o_load, o_len, o_store, o_conv, o_un, o_extract, o_append, o_call, o_buildSlice, o_box, o_alloc, o_build, o_indexAddr, Tree.get_set, s_binOp, fastBin, s_unOp, fastUn, boolEq, sresults, sresultsL, sresult, one_int, one_slice, one_ptr, one_bool, one_str, cells_int, cells_slice, cells_ptr, cells_bool, cells_str, cells_agg, loadRow_new, window, over, -BitVec.toNat_or, -BitVec.toNat_ofInt, -BitVec.toNat_and, fieldAddr_of fa0, fieldAddr_of fa1, load_of ld3, load_of ld34, len_slice u34, store_of sz34, conv_i u3 u29, build_one u34 el29, append_s u34 sz29, append_m u3 u34, box_of b58, build_of bo58, len_slice u22, index_slice u22 sz3, bin_ptr u24, bin_bool u4 .eql (Or.inl rfl), bin_bool u4 .neq (Or.inr rfl), load_of ld29, store_of sz29, index_slice u34 sz29, conv_i u29 u3, build_one u40 el34, append_s u40 sz34, make_of u34 ap29, s0, s1, s2, s7, s9, s10, s11, h12, h13, hc]
  obtain ⟨t', g, g0, g1, g2, g7, g9, g10, g11, g12⟩ := this
  exact ⟨t', g, ⟨g0.trans s0, g1.trans s1, g2.trans s2, g7.trans s7, g9, g10.trans s10, g11.trans s11⟩, g12.trans h12⟩

theorem a13 (h : Sk t v0 v1 v2 hb i rv qv) {n : Nat} {qv' : Value} {m1 : Mem} (h12 : t.get 12 = some (.int .i64 n)) (hn : n ≤ 1000)
    (hc : sappend Try.prog 40 ((m.new (words (List.replicate n 0)) 29).new [.slice (some ⟨m.next, 0, none⟩) n n] 34) qv [.slice (some ⟨m.next, 0, none⟩) n n] 1 = some (qv', m1)) :
    ∃ t', execw Try.prog TT S r5_13 t m = some (.normal, t', m1) ∧ Sk t' v0 v1 v2 hb i rv qv' := by
  obtain ⟨s0, s1, s2, s7, s9, s10, s11⟩ := h
  have hz : zerosOf Try.prog 29 n = some (words (List.replicate n 0)) := by
    rw [zeros_one z29 rfl rfl (by omega)]
    simp [words]
  have e1 : (0 : Int) ≤ n := by omega
  have e2 : (n : Int) ≤ 9223372036854775807 := by omega
  have e3 : n * 8 ≤ 281474976710656 := by omega
  have : ∃ t', execw Try.prog TT S r5_13 t m = some (.normal, t', m1) ∧ t'.get 0 = t.get 0 ∧ t'.get 1 = t.get 1 ∧ t'.get 2 = t.get 2 ∧ t'.get 7 = t.get 7 ∧ t'.get 9 = t.get 9 ∧ t'.get 10 = some qv' ∧ t'.get 11 = t.get 11 := by
    simp only [r5_13, c5, bodyOf, Try.f5, Code.sub]
    simp [x_seq, x_region, x_cond, x_ret, x_skip, x_exit, sregion_false, sregion_quiet, floatB, quiet, loudB, sops_nil, sops_cons, sop1_plain, sop1_guard, syield, put_some, put_none, ev_tmp, ev_const, fill_nil, fill_cons, o_move, o_assign, o_bin, o_pick, o_nilCheck, o_fieldAddr, o_load, o_len, o_store, o_conv, o_un, o_extract, o_append, o_call, o_buildSlice, o_box, o_alloc, o_build, o_indexAddr, Tree.get_set, s_binOp, fastBin, s_unOp, fastUn, boolEq, sresults, sresultsL, sresult, one_int, one_slice, one_ptr, one_bool, one_str, cells_int, cells_slice, cells_ptr, cells_bool, cells_str, cells_agg, loadRow_new, window, over, -BitVec.toNat_or, -BitVec.toNat_ofInt, -BitVec.toNat_and, fieldAddr_of fa0, fieldAddr_of fa1, load_of ld3, load_of ld34, len_slice u34, store_of sz34, conv_i u3 u29, build_one u34 el29, append_s u34 sz29, append_m u3 u34, box_of b58, build_of bo58, len_slice u22, index_slice u22 sz3, bin_ptr u24, bin_bool u4 .eql (Or.inl rfl), bin_bool u4 .neq (Or.inr rfl), load_of ld29, store_of sz29, index_slice u34 sz29, conv_i u29 u3, build_one u40 el34, append_s u40 sz34, make_of u34 ap29, o_makeSlice, s0, s1, s2, s7, s9, s10, s11, h12, hz, e1, e2, e3, hc]
  obtain ⟨t', g, g0, g1, g2, g7, g9, g10, g11⟩ := this
  exact ⟨t', g, ⟨g0.trans s0, g1.trans s1, g2.trans s2, g7.trans s7, g9.trans s9, g10, g11.trans s11⟩⟩
end

theorem refsOf_ne {objs : List (List Int)} (h : objs ≠ []) : words (refsOf objs) ≠ [] := by
  intro e
  have : (words (refsOf objs)).length = 0 := by rw [e]; rfl
  simp [words, refsOf] at this
  exact h this
theorem refsOf_nil {objs : List (List Int)} (h : words (refsOf objs) ≠ []) : objs ≠ [] := by
  rintro rfl
  exact h rfl
theorem wants_nil {bs : List (Nat × Nat)} {objs : List (List Int)} (h : wants bs objs ≠ []) : objs ≠ [] := by
  rintro rfl
  cases bs <;> exact h rfl

/-- what a round lays -/
theorem lay {n0 hb hf wb wf : Nat} {objs : List (List Int)} {rv qv : Value} {rf qf : Nat} {bs : List (Nat × Nat)} (h : Kp n0 m hb hf wb wf objs rv qv rf qf bs) (hS : S 12 = []) {n : Nat} (hn : n ≤ 8) (hl : objs.length < 30) :
    ∃ m1 m2 m3 wb1 rb qb rf' qf' bs' fs, callw Try.prog TT S 12 [.pointer (some ⟨hb, 0, none⟩), .int .i64 ((objs.length : Int) + 5), .int .i64 n] m = some (.tuple #[.int .u64 ((((0 : Int) :: flat 0 objs).length : Nat) : Int), .bool true], m1) ∧
      sappend Try.prog 34 (m1.new [.int .u64 ((((0 : Int) :: flat 0 objs).length : Nat) : Int)] 29) rv [.int .u64 ((((0 : Int) :: flat 0 objs).length : Nat) : Int)] 1 = some (.slice (some ⟨rb, 0, none⟩) (objs.length + 1) (objs.length + 1), m2) ∧
      sappend Try.prog 40 ((m2.new (words (List.replicate n 0)) 29).new [.slice (some ⟨m2.next, 0, none⟩) n n] 34) qv [.slice (some ⟨m2.next, 0, none⟩) n n] 1 = some (.slice (some ⟨qb, 0, none⟩) (objs.length + 1) (objs.length + 1), m3) ∧
      Kp n0 m3 hb hf wb1 wf (objs ++ [List.replicate n 0]) (.slice (some ⟨rb, 0, none⟩) (objs.length + 1) (objs.length + 1)) (.slice (some ⟨qb, 0, none⟩) (objs.length + 1) (objs.length + 1)) rf' qf' bs' ∧
      Keeps m m3 fs ∧ ∀ f ∈ fs, n0 ≤ f := by
  obtain ⟨hh, hr, hq, hbl, hbk, hnd, ⟨l0, l1, l2, l3⟩, z1, z2, z3⟩ := h
  have hlen : ((0 : Int) :: flat 0 objs).length = tot objs + 1 := by rw [List.length_cons, flat_length]
  have hno : ¬ noRoom ((0 : Int) :: flat 0 objs) 65536 ((objs.length : Int) + 5) n := by unfold noRoom; rw [hlen]; omega
  obtain ⟨m1, wb1, c1, p1, k1⟩ := alloc_yes hS hh (by omega) (by omega) hno
  have p1' : HeapAt m1 hb hf wb1 wf ((0 : Int) :: flat 0 (objs ++ [List.replicate n 0])) 65536 := by
    rw [flat_snoc]
    simpa using p1
  -- families that are real
  have real : objs ≠ [] → hf ≠ wf ∧ hf ≠ rf ∧ hf ≠ qf ∧ wf ≠ rf ∧ wf ≠ qf ∧ rf ≠ qf ∧ (∀ p ∈ bs, p.2 ≠ hf ∧ p.2 ≠ wf ∧ p.2 ≠ rf ∧ p.2 ≠ qf) ∧ (bs.map (·.2)).Nodup := by
    intro hne
    have := hnd hne
    simp only [List.nodup_cons, List.mem_cons, not_or, List.mem_map, not_exists, not_and] at this
    obtain ⟨⟨a1, a2, a3, a4⟩, ⟨b1, b2, b3⟩, ⟨d1, d2⟩, e1, e2⟩ := this
    exact ⟨a1, a2, a3, b1, b2, d1, fun p hp => ⟨a4 p hp, b3 p hp, d2 p hp, e1 p hp⟩, e2⟩
  have hfl : hf < m.next := hh.h.flt
  have wfl : wf < m.next := hh.w.flt
  have rfl' : objs ≠ [] → rf < m.next := fun hne => hr.flt (refsOf_ne hne)
  have wne : objs ≠ [] → wants bs objs ≠ [] := fun hne e => by
    have := wants_length bs objs hbl
    rw [e] at this
    exact hne (List.length_eq_zero_iff.1 this.symm)
  have qfl : objs ≠ [] → qf < m.next := fun hne => hq.flt (wne hne)
  have bfl : ∀ p ∈ bs, p.2 < m.next := by
    intro p hp
    obtain ⟨k, hk⟩ := List.getElem?_of_mem hp
    have hkl := (List.getElem?_eq_some_iff.1 hk).1
    exact (hbk k p _ hk (List.getElem?_eq_getElem (by omega))).flt
  -- refs
  have r1 := hr.keep k1 (fun hne => by have := real (refsOf_nil hne); simp; omega)
  obtain ⟨fr, hfr, hfr1⟩ : ∃ fr : List Nat, (words (refsOf objs) ≠ [] → rf ∈ fr) ∧ ∀ x ∈ fr, objs ≠ [] ∧ x = rf := by
    by_cases hne : objs = []
    · exact ⟨[], fun h => absurd hne (refsOf_nil h), fun x hx => by simp at hx⟩
    · exact ⟨[rf], fun _ => by simp, fun x hx => ⟨hne, by simpa using hx⟩⟩
  have rlen : (words (refsOf objs)).length = objs.length := by simp [words, refsOf]
  obtain ⟨m2, rb, rf', s2, o2, k2, f2, n2⟩ := append_one (P := Try.prog) (ty := 34) (v := .int .u64 ((((0 : Int) :: flat 0 objs).length : Nat) : Int)) hfr u34 ap29 r1 rfl (by rw [rlen]; omega) (by rw [rlen]; omega)
  rw [rlen] at s2
  -- want
  have kn := keeps_new m2 (words (List.replicate n 0)) 29 []
  have q2 := ((hq.keep k1 (fun hne => by have := real (wants_nil hne); simp; omega)).keep k2 (fun hne hx => by have h1 := hfr1 _ hx; have := real h1.1; omega)).keep kn (fun _ => by simp)
  obtain ⟨fq, hfq, hfq1⟩ : ∃ fq : List Nat, (wants bs objs ≠ [] → qf ∈ fq) ∧ ∀ x ∈ fq, objs ≠ [] ∧ x = qf := by
    by_cases hne : objs = []
    · exact ⟨[], fun h => absurd hne (wants_nil h), fun x hx => by simp at hx⟩
    · exact ⟨[qf], fun _ => by simp, fun x hx => ⟨hne, by simpa using hx⟩⟩
  have wlen := wants_length bs objs hbl
  obtain ⟨m3, qb, qf', s3, o3, k3, f3, n3⟩ := append_one (P := Try.prog) (ty := 40) (v := .slice (some ⟨m2.next, 0, none⟩) n n) hfq u40 ap34 q2 rfl (by rw [wlen]; omega) (by rw [wlen]; omega)
  rw [wlen] at s3
  have hk1 := k1.1
  have nn : (m2.new (words (List.replicate n 0)) 29).next = m2.next + 1 := rfl
  have o2f := o2.flt
  have hk2 := k2.1
  have off_r : ∀ x, x ≠ rf ∨ objs = [] → x ∉ fr := fun x hx hm => by have := hfr1 x hm; rcases hx with h | h; exact h this.2; exact this.1 h
  have off_q : ∀ x, x ≠ qf ∨ objs = [] → x ∉ fq := fun x hx hm => by have := hfq1 x hm; rcases hx with h | h; exact h this.2; exact this.1 h
  refine ⟨m1, m2, m3, wb1, rb, qb, rf', qf', bs ++ [(m2.next, m2.next)], [hf, wf] ++ fr ++ fq, c1, s2, s3, ⟨?_, ?_, ?_, ?_, ?_, ?_, ?_, ?_⟩, ?_, ?_⟩
  · have g1 : hf ∉ fr := off_r _ (by by_cases e : objs = []; exact Or.inr e; exact Or.inl (real e).2.1)
    have g2 : wf ∉ fr := off_r _ (by by_cases e : objs = []; exact Or.inr e; exact Or.inl (real e).2.2.2.1)
    have g3 : hf ∉ fq := off_q _ (by by_cases e : objs = []; exact Or.inr e; exact Or.inl (real e).2.2.1)
    have g4 : wf ∉ fq := off_q _ (by by_cases e : objs = []; exact Or.inr e; exact Or.inl (real e).2.2.2.2.1)
    exact ((p1'.keep k2 g1 g2).keep kn (by simp) (by simp)).keep k3 g3 g4
  · refine Or.inr ⟨by rw [refsOf_snoc]; simp [words], rb, ?_, ?_⟩
    · simp [words, refsOf]
    · rw [refsOf_snoc]
      have g : rf' ∉ fq := fun hx => by
        have h1 := hfq1 _ hx
        have := real h1.1
        have := qfl h1.1
        rcases f2 with ⟨_, e⟩ | e
        · omega
        · omega
      have := (o2.keep kn (by simp)).keep k3 g
      simpa [words] using this
  · refine Or.inr ⟨by rw [wants_snoc _ _ _ _ hbl]; simp, qb, ?_, ?_⟩
    · rw [wants_snoc _ _ _ _ hbl]; simp [wlen]
    · rw [wants_snoc _ _ _ _ hbl]; simpa using o3
  · simp [hbl]
  · intro k p c hp hc
    by_cases hk : k < objs.length
    · rw [List.getElem?_append_left (by omega)] at hp
      rw [List.getElem?_append_left hk] at hc
      have hne : objs ≠ [] := by rintro rfl; simp at hk
      have hpm := List.mem_of_getElem? hp
      have := (real hne).2.2.2.2.2.2.1 p hpm
      exact ((((hbk k p c hp hc).keep k1 (by simp; omega)).keep k2 (off_r _ (Or.inl this.2.2.1))).keep kn (by simp)).keep k3 (off_q _ (Or.inl this.2.2.2))
    · have hk' : k = objs.length := by
        have := (List.getElem?_eq_some_iff.1 hc).1
        simp at this; omega
      subst hk'
      rw [List.getElem?_append_right (by omega), ← hbl, Nat.sub_self] at hp
      simp at hp hc
      subst hp; subst hc
      have g : m2.next ∉ fq := fun hx => by
        have h1 := hfq1 _ hx
        have := qfl h1.1
        omega
      exact (Own.new m2 (words (List.replicate n 0)) 29).keep k3 g
  · intro _
    rw [List.map_append]
    have hb2 : ∀ p ∈ bs, p.2 < m2.next := fun p hp => by have := bfl p hp; omega
    have hq3 : qf' ≠ m2.next := by
      rcases f3 with ⟨e0, e⟩ | e
      · have := qfl (wants_nil e0); omega
      · omega
    have hrq : rf' ≠ qf' := by
      rcases f2 with ⟨e0, e⟩ | e <;> rcases f3 with ⟨e0', e'⟩ | e'
      · have := real (refsOf_nil e0); omega
      · have := rfl' (refsOf_nil e0); omega
      · have := qfl (wants_nil e0'); omega
      · omega
    have hfr' : hf ≠ rf' ∧ wf ≠ rf' ∧ ∀ p ∈ bs, p.2 ≠ rf' := by
      rcases f2 with ⟨e0, e⟩ | e
      · have := real (refsOf_nil e0)
        rw [e]
        exact ⟨this.2.1, this.2.2.2.1, fun p hp => (this.2.2.2.2.2.2.1 p hp).2.2.1⟩
      · exact ⟨by omega, by omega, fun p hp => by have := bfl p hp; omega⟩
    have hfq' : hf ≠ qf' ∧ wf ≠ qf' ∧ ∀ p ∈ bs, p.2 ≠ qf' := by
      rcases f3 with ⟨e0, e⟩ | e
      · have := real (wants_nil e0)
        rw [e]
        exact ⟨this.2.2.1, this.2.2.2.2.1, fun p hp => (this.2.2.2.2.2.2.1 p hp).2.2.2⟩
      · exact ⟨by omega, by omega, fun p hp => by have := bfl p hp; omega⟩
    have hbw : (∀ p ∈ bs, p.2 ≠ hf ∧ p.2 ≠ wf) ∧ (bs.map (·.2)).Nodup := by
      by_cases e : objs = []
      · have : bs = [] := List.length_eq_zero_iff.1 (by rw [hbl, e]; rfl)
        rw [this]; simp
      · have := real e
        exact ⟨fun p hp => ⟨(this.2.2.2.2.2.2.1 p hp).1, (this.2.2.2.2.2.2.1 p hp).2.1⟩, this.2.2.2.2.2.2.2⟩
    have hne0 := hh.ne
    simp only [List.nodup_cons, List.mem_cons, not_or, List.mem_append, List.mem_map, not_exists, not_and, List.map_cons, List.map_nil, List.not_mem_nil, or_false, not_false_eq_true, and_true]
    refine ⟨⟨hne0, hfr'.1, hfq'.1, fun p hp => (hbw.1 p hp).1, by omega⟩, ⟨hfr'.2.1, hfq'.2.1, fun p hp => (hbw.1 p hp).2, by omega⟩, ⟨hrq, hfr'.2.2, by omega⟩, ⟨hfq'.2.2, hq3⟩, ?_⟩
    rw [List.nodup_append]
    refine ⟨hbw.2, by simp, fun x hx y hy => ?_⟩
    simp only [List.mem_map] at hx
    obtain ⟨p, hp, rfl⟩ := hx
    simp at hy
    subst hy
    have := hb2 p hp
    omega
  · refine ⟨by omega, l1, l2, fun _ => ⟨?_, ?_, fun p hp => ?_⟩⟩
    · rcases f2 with ⟨e0, e⟩ | e
      · rw [e]; exact (l3 (refsOf_nil e0)).1
      · omega
    · rcases f3 with ⟨e0, e⟩ | e
      · rw [e]; exact (l3 (wants_nil e0)).2.1
      · omega
    · rcases List.mem_append.1 hp with hp | hp
      · have hne : objs ≠ [] := by
          rintro rfl
          have : bs = [] := List.length_eq_zero_iff.1 hbl
          rw [this] at hp; simp at hp
        exact (l3 hne).2.2 p hp
      · simp at hp; subst hp; simp only; omega
  · refine ⟨by simp; omega, ?_, fun c hc => ?_⟩
    · rw [tot_append]; simp [tot]; omega
    · rcases List.mem_append.1 hc with hc | hc
      · exact z3 c hc
      · simp at hc; subst hc; exact ⟨by simpa using hn, fun w hw => by have := List.eq_of_mem_replicate hw; omega⟩
  · have e1 := k1.mono (gs := [hf, wf] ++ fr ++ fq) (fun x hx => by simp at hx; rcases hx with rfl | rfl <;> simp)
    have e2 := k2.mono (gs := [hf, wf] ++ fr ++ fq) (fun x hx => by simp [hx])
    have e3 := kn.mono (gs := [hf, wf] ++ fr ++ fq) (fun x hx => by simp at hx)
    have e4 := k3.mono (gs := [hf, wf] ++ fr ++ fq) (fun x hx => by simp [hx])
    exact ((e1.trans e2).trans e3).trans e4
  · intro f hf'
    rcases List.mem_append.1 hf' with hx | hx
    · rcases List.mem_append.1 hx with hx | hx
      · simp at hx; rcases hx with rfl | rfl
        · exact l1
        · exact l2
      · have := hfr1 f hx; rw [this.2]; exact (l3 this.1).1
    · have := hfq1 f hx; rw [this.2]; exact (l3 this.1).2.1

theorem loopA (hS9 : S 9 = []) (hS12 : S 12 = []) {ao : Option Addr} {c hb hf wf la lf n0 : Nat} {zs : List Int} {v1 v2 : Value} (hlf : lf < n0) (ha : zs ≠ [] → ao = some ⟨la, 0, none⟩) :
    ∀ (d i : Nat) (m : Mem) (t : Tree Value) (wb : Nat) (objs : List (List Int)) (rv qv : Value) (rf qf : Nat) (bs : List (Nat × Nat)), 30 - i ≤ d → i = objs.length → Sk t (.slice ao zs.length c) v1 v2 hb i rv qv → Kp n0 m hb hf wb wf objs rv qv rf qf bs → (zs ≠ [] → Rdo m la (zs.map (Value.int .i64)) 3 lf) →
      ∃ t' m' wb' objs' rv' qv' rf' qf' bs' fs i', execw Try.prog TT S (.loop roundA) t m = some (.exit 0, t', m') ∧ Sk t' (.slice ao zs.length c) v1 v2 hb i' rv' qv' ∧ Kp n0 m' hb hf wb' wf objs' rv' qv' rf' qf' bs' ∧ Keeps m m' fs ∧ ∀ f ∈ fs, n0 ≤ f := by
  intro d
  have stop : ∀ (i : Nat) (m : Mem) (t : Tree Value) (rv qv : Value), Sk t (.slice ao zs.length c) v1 v2 hb i rv qv → ¬ (i < zs.length ∧ i < 30) → ∃ t', execw Try.prog TT S (.seq r5_7 (.cond (.tmp 41) .skip (.exit 0))) t m = some (.exit 0, t', m) ∧ Sk t' (.slice ao zs.length c) v1 v2 hb i rv qv := by
    intro i m t rv qv h hi
    obtain ⟨s0, s1, s2, s7, s9, s10, s11⟩ := h
    have : ∃ t', execw Try.prog TT S (.seq r5_7 (.cond (.tmp 41) .skip (.exit 0))) t m = some (.exit 0, t', m) ∧ t'.get 0 = t.get 0 ∧ t'.get 1 = t.get 1 ∧ t'.get 2 = t.get 2 ∧ t'.get 7 = t.get 7 ∧ t'.get 9 = t.get 9 ∧ t'.get 10 = t.get 10 ∧ t'.get 11 = t.get 11 := by
      simp only [r5_7, c5, bodyOf, Try.f5, Code.sub]
      by_cases a : i < zs.length
      · have e2 : ¬ ((i : Int) < 30) := by omega
        have e1 : ((i : Int) < zs.length) := by omega
        simp [x_seq, x_region, x_cond, x_ret, x_skip, x_exit, sregion_false, sregion_quiet, floatB, quiet, loudB, sops_nil, sops_cons, sop1_plain, sop1_guard, syield, put_some, put_none, ev_tmp, ev_const, fill_nil, fill_cons, o_move, o_assign, o_bin, o_pick, o_nilCheck, o_fieldAddr, o_load, o_len, o_store, o_conv, o_un, o_extract, o_append, o_call, o_buildSlice, o_box, o_alloc, o_build, o_indexAddr, Tree.get_set, s_binOp, fastBin, s_unOp, fastUn, boolEq, sresults, sresultsL, sresult, one_int, one_slice, one_ptr, one_bool, one_str, cells_int, cells_slice, cells_ptr, cells_bool, cells_str, cells_agg, loadRow_new, window, over, -BitVec.toNat_or, -BitVec.toNat_ofInt, -BitVec.toNat_and, fieldAddr_of fa0, fieldAddr_of fa1, load_of ld3, load_of ld34, len_slice u34, store_of sz34, conv_i u3 u29, build_one u34 el29, append_s u34 sz29, append_m u3 u34, box_of b58, build_of bo58, len_slice u22, index_slice u22 sz3, bin_ptr u24, bin_bool u4 .eql (Or.inl rfl), bin_bool u4 .neq (Or.inr rfl), load_of ld29, store_of sz29, index_slice u34 sz29, conv_i u29 u3, build_one u40 el34, append_s u40 sz34, make_of u34 ap29, s0, s1, s2, s7, s9, s10, s11, a, e1, e2]
      · have e1 : ¬ ((i : Int) < zs.length) := by omega
        simp [x_seq, x_region, x_cond, x_ret, x_skip, x_exit, sregion_false, sregion_quiet, floatB, quiet, loudB, sops_nil, sops_cons, sop1_plain, sop1_guard, syield, put_some, put_none, ev_tmp, ev_const, fill_nil, fill_cons, o_move, o_assign, o_bin, o_pick, o_nilCheck, o_fieldAddr, o_load, o_len, o_store, o_conv, o_un, o_extract, o_append, o_call, o_buildSlice, o_box, o_alloc, o_build, o_indexAddr, Tree.get_set, s_binOp, fastBin, s_unOp, fastUn, boolEq, sresults, sresultsL, sresult, one_int, one_slice, one_ptr, one_bool, one_str, cells_int, cells_slice, cells_ptr, cells_bool, cells_str, cells_agg, loadRow_new, window, over, -BitVec.toNat_or, -BitVec.toNat_ofInt, -BitVec.toNat_and, fieldAddr_of fa0, fieldAddr_of fa1, load_of ld3, load_of ld34, len_slice u34, store_of sz34, conv_i u3 u29, build_one u34 el29, append_s u34 sz29, append_m u3 u34, box_of b58, build_of bo58, len_slice u22, index_slice u22 sz3, bin_ptr u24, bin_bool u4 .eql (Or.inl rfl), bin_bool u4 .neq (Or.inr rfl), load_of ld29, store_of sz29, index_slice u34 sz29, conv_i u29 u3, build_one u40 el34, append_s u40 sz34, make_of u34 ap29, s0, s1, s2, s7, s9, s10, s11, a, e1]
    obtain ⟨t', g, g0, g1, g2, g7, g9, g10, g11⟩ := this
    exact ⟨t', g, ⟨g0.trans s0, g1.trans s1, g2.trans s2, g7.trans s7, g9.trans s9, g10.trans s10, g11.trans s11⟩⟩
  induction d with
  | zero =>
    intro i m t wb objs rv qv rf qf bs hd hi h hp hr
    obtain ⟨t', g, k⟩ := stop i m t rv qv h (by omega)
    exact ⟨t', m, wb, objs, rv, qv, rf, qf, bs, [], i, loop_exit (seq_exit g), k, hp, .refl _ _, fun f hf => by simp at hf⟩
  | succ d ih =>
    intro i m t wb objs rv qv rf qf bs hd hi h hp hr
    by_cases hgo : i < zs.length ∧ i < 30
    · obtain ⟨s0, s1, s2, s7, s9, s10, s11⟩ := h
      have hz : zs ≠ [] := by intro e; rw [e] at hgo; simp at hgo
      have ha' := ha hz
      have hlt := hgo.1
      have e1 : ((i : Int) < zs.length) := by omega
      have e2 : ((i : Int) < 30) := by omega
      have hmax : (i : Int) ≤ 9223372036854775807 := by omega
      have hl : loadRow m ⟨la, i, none⟩ 1 = some [.int .i64 (zs.getD i 0)] := (hr hz).load1 (by simp [List.getD_eq_getElem?_getD, List.getElem?_eq_getElem hlt])
      generalize zs.getD i 0 = z at hl
      have hpk := pick_run (m := m) hS9 z 9 (by omega) (by omega)
      have q0 : 0 ≤ z % 9 := Int.emod_nonneg _ (by omega)
      have q0' : z % 9 < 9 := Int.emod_lt_of_pos _ (by omega)
      obtain ⟨n, hn⟩ : ∃ n : Nat, z % 9 = n := ⟨(z % 9).toNat, by omega⟩
      rw [hn] at hpk
      have q1 : ∃ t1, execw Try.prog TT S (.seq r5_7 (.cond (.tmp 41) .skip (.exit 0))) t m = some (.normal, t1, m) ∧ t1.get 0 = t.get 0 ∧ t1.get 1 = t.get 1 ∧ t1.get 2 = t.get 2 ∧ t1.get 7 = t.get 7 ∧ t1.get 9 = t.get 9 ∧ t1.get 10 = t.get 10 ∧ t1.get 11 = t.get 11 := by
        simp only [r5_7, c5, bodyOf, Try.f5, Code.sub]
        simp [x_seq, x_region, x_cond, x_ret, x_skip, x_exit, sregion_false, sregion_quiet, floatB, quiet, loudB, sops_nil, sops_cons, sop1_plain, sop1_guard, syield, put_some, put_none, ev_tmp, ev_const, fill_nil, fill_cons, o_move, o_assign, o_bin, o_pick, o_nilCheck, o_fieldAddr, o_load, o_len, o_store, o_conv, o_un, o_extract, o_append, o_call, o_buildSlice, o_box, o_alloc, o_build, o_indexAddr, Tree.get_set, s_binOp, fastBin, s_unOp, fastUn, boolEq, sresults, sresultsL, sresult, one_int, one_slice, one_ptr, one_bool, one_str, cells_int, cells_slice, cells_ptr, cells_bool, cells_str, cells_agg, loadRow_new, window, over, -BitVec.toNat_or, -BitVec.toNat_ofInt, -BitVec.toNat_and, fieldAddr_of fa0, fieldAddr_of fa1, load_of ld3, load_of ld34, len_slice u34, store_of sz34, conv_i u3 u29, build_one u34 el29, append_s u34 sz29, append_m u3 u34, box_of b58, build_of bo58, len_slice u22, index_slice u22 sz3, bin_ptr u24, bin_bool u4 .eql (Or.inl rfl), bin_bool u4 .neq (Or.inr rfl), load_of ld29, store_of sz29, index_slice u34 sz29, conv_i u29 u3, build_one u40 el34, append_s u40 sz34, make_of u34 ap29, s0, s1, s2, s7, s9, s10, s11, hlt, e1, e2]
      obtain ⟨t1, g1, a0, a1, a2, a7, a9', a10, a11⟩ := q1
      have b0 := a0.trans s0; have b1 := a1.trans s1; have b2 := a2.trans s2; have b7 := a7.trans s7; have b9 := a9'.trans s9; have b10 := a10.trans s10; have b11 := a11.trans s11
      rw [ha'] at b0
      have q2 : ∃ t2, execw Try.prog TT S r5_8 t1 m = some (.normal, t2, m) ∧ t2.get 0 = t1.get 0 ∧ t2.get 1 = t1.get 1 ∧ t2.get 2 = t1.get 2 ∧ t2.get 7 = t1.get 7 ∧ t2.get 9 = t1.get 9 ∧ t2.get 10 = t1.get 10 ∧ t2.get 11 = t1.get 11 ∧ t2.get 12 = some (.int .i64 n) := by
        simp only [r5_8, c5, bodyOf, Try.f5, Code.sub]
        simp [x_seq, x_region, x_cond, x_ret, x_skip, x_exit, sregion_false, sregion_quiet, floatB, quiet, loudB, sops_nil, sops_cons, sop1_plain, sop1_guard, syield, put_some, put_none, ev_tmp, ev_const, fill_nil, fill_cons, o_move, o_assign, o_bin, o_pick, o_nilCheck, o_fieldAddr, o_load, o_len, o_store, o_conv, o_un, o_extract, o_append, o_call, o_buildSlice, o_box, o_alloc, o_build, o_indexAddr, Tree.get_set, s_binOp, fastBin, s_unOp, fastUn, boolEq, sresults, sresultsL, sresult, one_int, one_slice, one_ptr, one_bool, one_str, cells_int, cells_slice, cells_ptr, cells_bool, cells_str, cells_agg, loadRow_new, window, over, -BitVec.toNat_or, -BitVec.toNat_ofInt, -BitVec.toNat_and, fieldAddr_of fa0, fieldAddr_of fa1, load_of ld3, load_of ld34, len_slice u34, store_of sz34, conv_i u3 u29, build_one u34 el29, append_s u34 sz29, append_m u3 u34, box_of b58, build_of bo58, len_slice u22, index_slice u22 sz3, bin_ptr u24, bin_bool u4 .eql (Or.inl rfl), bin_bool u4 .neq (Or.inr rfl), load_of ld29, store_of sz29, index_slice u34 sz29, conv_i u29 u3, build_one u40 el34, append_s u40 sz34, make_of u34 ap29, b0, b1, b2, b7, b9, b10, b11, hlt, hmax, hl, hpk]
      obtain ⟨t2, g2, c0, c1, c2, c7, c9, c10, c11, c12⟩ := q2
      have k2 : Sk t2 (.slice ao zs.length c) v1 v2 hb i rv qv := ⟨by rw [ha']; exact c0.trans b0, c1.trans b1, c2.trans b2, c7.trans b7, c9.trans b9, c10.trans b10, c11.trans b11⟩
      obtain ⟨m1, m2, m3, wb1, rb, qb, rf', qf', bs', fs, hc, hs2, hs3, hkp, hk, hfs⟩ := lay hp hS12 (n := n) (by omega) (by omega)
      rw [← hi] at hc
      obtain ⟨t3, g3, k3, k12, k13⟩ := a9 k2 c12 (by omega) hc
      obtain ⟨t4, g4, k4, k14⟩ := a12 (S := S) (m := m1) k3 k12 k13 hs2
      obtain ⟨t5, g5, k5⟩ := a13 (S := S) (m := m2) k4 k14 (by omega) hs3
      obtain ⟨s0', s1', s2', s7', s9', s10', s11'⟩ := k5
      have w1 : IntKind.i64.wrap ((i : Int) + 1) = ((i + 1 : Nat) : Int) := by rw [wrap_i64 (by omega) (by omega)]; omega
      have q6 : ∃ t6, execw Try.prog TT S r5_14 t5 m3 = some (.normal, t6, m3) ∧ t6.get 0 = t5.get 0 ∧ t6.get 1 = t5.get 1 ∧ t6.get 2 = t5.get 2 ∧ t6.get 7 = t5.get 7 ∧ t6.get 9 = t5.get 9 ∧ t6.get 10 = t5.get 10 ∧ t6.get 11 = some (.int .i64 ((i + 1 : Nat) : Int)) := by
        simp only [r5_14, c5, bodyOf, Try.f5, Code.sub]
        simp [x_seq, x_region, x_cond, x_ret, x_skip, x_exit, sregion_false, sregion_quiet, floatB, quiet, loudB, sops_nil, sops_cons, sop1_plain, sop1_guard, syield, put_some, put_none, ev_tmp, ev_const, fill_nil, fill_cons, o_move, o_assign, o_bin, o_pick, o_nilCheck, o_fieldAddr, o_load, o_len, o_store, o_conv, o_un, o_extract, o_append, o_call, o_buildSlice, o_box, o_alloc, o_build, o_indexAddr, Tree.get_set, s_binOp, fastBin, s_unOp, fastUn, boolEq, sresults, sresultsL, sresult, one_int, one_slice, one_ptr, one_bool, one_str, cells_int, cells_slice, cells_ptr, cells_bool, cells_str, cells_agg, loadRow_new, window, over, -BitVec.toNat_or, -BitVec.toNat_ofInt, -BitVec.toNat_and, s0', s1', s2', s7', s9', s10', s11', w1]
      obtain ⟨t6, g6, f0, f1, f2, f7, f9, f10, f11⟩ := q6
      have e9 : execw Try.prog TT S (.seq r5_9 (.seq (.seq r5_10 (.cond (.tmp 58) (.seq r5_11 .ret) .skip)) (.seq r5_12 r5_13))) t2 m = some (.normal, t5, m3) := by
        have := seq_ok g4 g5
        rw [x_seq] at g3 ⊢
        cases hx : execw Try.prog TT S r5_9 t2 m with
        | none => rw [hx] at g3; cases g3
        | some q =>
          obtain ⟨e, tt, mm⟩ := q
          rw [hx] at g3
          cases e with
          | normal => exact seq_ok g3 this
          | exit k => simp at g3
          | ret => simp at g3
      rw [loop_go (b := roundA) (seq_ok g1 (seq_ok (block_ok (seq_ok g2 e9)) g6))]
      obtain ⟨t', m', wb2, objs2, rv2, qv2, rf2, qf2, bs2, fs2, i2, e, k, hp2, hk2, hfs2⟩ := ih (i + 1) m3 t6 wb1 _ _ _ rf' qf' bs' (by omega) (by simp; omega) ⟨f0.trans s0', f1.trans s1', f2.trans s2', f7.trans s7', f9.trans s9', f10.trans s10', f11⟩ hkp (fun _ => (hr hz).keep hk (fun hx => by have := hfs _ hx; omega))
      exact ⟨t', m', wb2, objs2, rv2, qv2, rf2, qf2, bs2, fs ++ fs2, i2, e, k, hp2, (hk.mono (fun x hx => by simp [hx])).trans (hk2.mono (fun x hx => by simp [hx])), fun f hf => by
        rcases List.mem_append.1 hf with h | h
        · exact hfs f h
        · exact hfs2 f h⟩
    · obtain ⟨t', g, k⟩ := stop i m t rv qv h hgo
      exact ⟨t', m, wb, objs, rv, qv, rf, qf, bs, [], i, loop_exit (seq_exit g), k, hp, .refl _ _, fun f hf => by simp at hf⟩

/-- the heap's words are words -/
theorem Wd_flat : ∀ (objs : List (List Int)) (k : Nat), (∀ c ∈ objs, c.length ≤ 8 ∧ Wd c) → k + objs.length ≤ 1000 → Wd (flat k objs)
  | [], k, _, _ => fun w hw => by simp [flat] at hw
  | c :: r, k, h, hl => by
    intro w hw
    have hc := h c (by simp)
    simp only [flat, List.cons_append, List.mem_cons, List.mem_append] at hw
    simp only [List.length_cons] at hl
    rcases hw with rfl | hw | hw
    · rw [head_val (by omega) (by omega)]; omega
    · exact hc.2 w hw
    · exact Wd_flat r (k + 1) (fun c hc => h c (by simp [hc])) (by omega) w hw
theorem Kp.wd {n0 hb hf wb wf : Nat} {objs : List (List Int)} {rv qv : Value} {rf qf : Nat} {bs : List (Nat × Nat)} (h : Kp n0 m hb hf wb wf objs rv qv rf qf bs) : Wd ((0 : Int) :: flat 0 objs) := by
  intro w hw
  rcases List.mem_cons.1 hw with rfl | hw
  · omega
  · exact Wd_flat objs 0 h.sz.2.2 (by have := h.sz.1; omega) w hw

/-- where the word j of object k stands -/
theorem at_obj {objs : List (List Int)} {k : Nat} {c : List Int} {j : Int} (h : objs[k]? = some c) (hz : objs.length ≤ 30 ∧ tot objs ≤ 9 * objs.length ∧ ∀ c ∈ objs, c.length ≤ 8 ∧ Wd c) (hj : 0 ≤ j) :
    atV ((0 : Int) :: flat 0 objs) ((offs objs k : Nat) : Int) j = if j < c.length then ((offs objs k + 1 + j.toNat : Nat) : Int) else 0 := by
  have hk := (List.getElem?_eq_some_iff.1 h).1
  have hc := hz.2.2 c (List.mem_of_getElem? h)
  have hf := fits h
  have hlen : ((0 : Int) :: flat 0 objs).length = tot objs + 1 := by rw [List.length_cons, flat_length]
  unfold atV
  rw [Int.toNat_natCast, head_at h, head_val (by omega) (by omega)]
  have : (((k : Int) + 5) * 4294967296 + (c.length : Int)) % 4294967296 = c.length := by omega
  rw [this]
  by_cases hlt : j < c.length
  · rw [if_pos ⟨hj, hlt⟩, if_pos hlt, wrap_u64 (x := ((offs objs k : Nat) : Int) + 1) (by omega) (by omega), wrap_u64 (x := j) (by omega) (by omega), wrap_u64 (by omega) (by omega)]
    omega
  · rw [if_neg (fun h => hlt h.2), if_neg hlt]

theorem refsOf_set {objs : List (List Int)} {k : Nat} {c c' : List Int} (h : objs[k]? = some c) (hl : c'.length = c.length) : refsOf (objs.set k c') = refsOf objs := by
  unfold refsOf
  rw [List.length_set]
  apply List.map_congr_left
  intro i _
  rw [offs_set h hl]
theorem wants_set : ∀ (bs : List (Nat × Nat)) (objs : List (List Int)) (k : Nat) (c c' : List Int), objs[k]? = some c → c'.length = c.length → wants bs (objs.set k c') = wants bs objs
  | [], [], k, c, c', h, _ => by simp at h
  | [], _ :: _, k, c, c', h, _ => by cases k <;> rfl
  | _ :: _, [], k, c, c', h, _ => by simp at h
  | p :: r, d :: s, 0, c, c', h, hl => by simp at h; subst h; simp [wants, hl]
  | p :: r, d :: s, k + 1, c, c', h, hl => by simp at h; simp only [List.set_cons_succ, wants]; rw [wants_set r s k c c' h hl]
theorem tot_set : ∀ (objs : List (List Int)) (k : Nat) (c c' : List Int), objs[k]? = some c → c'.length = c.length → tot (objs.set k c') = tot objs
  | [], k, c, c', h, _ => by simp at h
  | d :: s, 0, c, c', h, hl => by simp at h; subst h; simp [tot, hl]
  | d :: s, k + 1, c, c', h, hl => by simp at h; simp only [List.set_cons_succ, tot]; rw [tot_set s k c c' h hl]
theorem Wd_set {c : List Int} {j : Nat} {v : Int} (h : Wd c) (hv : 0 ≤ v ∧ v ≤ 18446744073709551615) : Wd (c.set j v) := by
  intro w hw
  rcases List.mem_or_eq_of_mem_set hw with h1 | h1
  · exact h w h1
  · rw [h1]; exact hv
end Go.Proofs.Ytmehepbejckmlaa.heapKeeps

