/-
  This text proves what the maker's declare does over the abstract run.
  Condition: nothing is known of its calls ahead ('S f = []').
-/
import Derived.Test.YtgomgdbapgibjaaDoorMakB
set_option maxRecDepth 100000
set_option linter.unusedSimpArgs false
set_option linter.unusedVariables false
namespace Go.Proofs.YtgomgdbapgibjaaDoor.base
open Go.Sh gen
variable {S : Sums} {m : Mem}
structure Cu (m0 : Mem) (b : Nat) (σ : Ms) (g : Nat) (m : Mem) (τ : Ms) : Prop where
  m_ : Mk m b τ
  loops : τ.loops = σ.loops
  res : τ.res = σ.res
  out : τ.out.length ≤ σ.out.length + g
  k : Keeps m0 m [b, σ.vf]
  vf : τ.vf = σ.vf ∨ m0.next ≤ τ.vf
  names : σ.names ≤ τ.names
  rf : τ.rf = σ.rf
theorem Cu.refl {b : Nat} {σ : Ms} (h : Mk m b σ) : Cu m b σ 0 m σ := ⟨h, rfl, rfl, Nat.le_refl _, Keeps.refl _ _, Or.inl rfl, Nat.le_refl _, rfl⟩
theorem keeps_two {m0 m m1 : Mem} {b f g : Nat} (h : Keeps m0 m [b, f]) (k : Keeps m m1 [b, g]) (hg : g = f ∨ m0.next ≤ g) : Keeps m0 m1 [b, f] := by
  rcases hg with rfl | hg
  · exact h.trans k
  · refine ⟨Nat.le_trans h.1 k.1, fun l bl hl hb hq hf => ?_, fun x hl hf => ?_⟩
    · have h1 := h.2.1 l bl hl hb hq hf
      refine k.2.1 l bl (Nat.lt_of_lt_of_le hl h.1) h1 (Nat.lt_of_lt_of_le hq h.1) (fun hx => ?_)
      simp only [List.mem_cons, List.not_mem_nil, or_false, not_or] at hf hx
      omega
    · rw [k.2.2 x (Nat.lt_of_lt_of_le hl h.1) (fun hx => ?_), h.2.2 x hl hf]
      simp only [List.mem_cons, List.not_mem_nil, or_false, not_or] at hf hx
      omega
theorem Cu.trans {m0 m m1 : Mem} {b g g2 : Nat} {σ τ υ : Ms} (h : Cu m0 b σ g m τ) (k : Cu m b τ g2 m1 υ) : Cu m0 b σ (g + g2) m1 υ := by
  refine ⟨k.m_, k.loops.trans h.loops, k.res.trans h.res, ?_, keeps_two h.k k.k h.vf, ?_, Nat.le_trans h.names k.names, k.rf.trans h.rf⟩
  · have := h.out; have := k.out; omega
  · have := h.k.1
    rcases k.vf with h1 | h1
    · rw [h1]; exact h.vf
    · exact Or.inr (by omega)
theorem Cu.mono {m0 m : Mem} {b g g2 : Nat} {σ τ : Ms} (h : Cu m0 b σ g m τ) (hg : g ≤ g2) : Cu m0 b σ g2 m τ := ⟨h.m_, h.loops, h.res, by have := h.out; omega, h.k, h.vf, h.names, h.rf⟩
theorem Cu.step {m0 m m1 : Mem} {b g a : Nat} {z : Int} {σ τ : Ms} (h : Cu m0 b σ g m τ) (k : Keeps m m1 [b]) (hm : Mk m1 b { τ with at_ := a, size := z }) : Cu m0 b σ g m1 { τ with at_ := a, size := z } :=
  ⟨hm, h.loops, h.res, h.out, h.k.trans (k.mono (by simp)), h.vf, h.names, h.rf⟩
theorem Cu.next {m0 m : Mem} {b g : Nat} {σ τ : Ms} (hN : Nm S) (h : Cu m0 b σ g m τ) (k : Nat) (K : Int) (hK : K = k) (hk : 0 < k) (hk2 : k < 1000000) :
    ∃ (y : Nat) (m1 : Mem) (υ : Ms), callw Tryd.prog TT S 22 [.pointer (some ⟨b, 0, none⟩), .int .i64 K] m = some (.int .i64 y, m1) ∧ y < k ∧ Cu m0 b σ g m1 υ ∧ υ.names = τ.names := by
  obtain ⟨v1, m1, c1, y, a2, rfl, hy, h1, k1⟩ := mnext_run hN h.m_ k K hK hk hk2
  exact ⟨y, m1, _, c1, hy, h.step k1 (a := a2) (z := τ.size) h1, rfl⟩
theorem Cu.var {m0 m : Mem} {b g : Nat} {σ τ : Ms} (hN : Nm S) (h : Cu m0 b σ g m τ) (t : Nat) (T : Int) (hT : T = t) (ht : t < 7) :
    ∃ (s : List UInt8) (m1 : Mem) (υ : Ms), callw Tryd.prog TT S 51 [.pointer (some ⟨b, 0, none⟩), .int .i64 T] m = some (.string ⟨s.toArray⟩, m1) ∧ s.length ≤ 8 ∧ Cu m0 b σ g m1 υ ∧ υ.names = τ.names := by
  subst hT
  obtain ⟨v1, m1, c1, s, a2, z2, rfl, hy, h1, k1⟩ := mv_run hN h.m_ t ht
  exact ⟨s, m1, _, c1, hy, h.step k1 (a := a2) (z := z2) h1, rfl⟩
theorem Cu.leaf {m0 m : Mem} {b g : Nat} {σ τ : Ms} (hN : Nm S) (h : Cu m0 b σ g m τ) (t : Nat) (T : Int) (hT : T = t) (ht : t < 7) :
    ∃ (s : List UInt8) (m1 : Mem) (υ : Ms), callw Tryd.prog TT S 46 [.pointer (some ⟨b, 0, none⟩), .int .i64 T] m = some (.string ⟨s.toArray⟩, m1) ∧ s.length ≤ 24 ∧ Cu m0 b σ g m1 υ ∧ υ.names = τ.names := by
  subst hT
  obtain ⟨v1, m1, c1, s, a2, z2, rfl, hy, h1, k1⟩ := mleaf_run hN h.m_ t ht
  exact ⟨s, m1, _, c1, hy, h.step k1 (a := a2) (z := z2) h1, rfl⟩
theorem Cu.expr {m0 m : Mem} {b g : Nat} {σ τ : Ms} (hN : Nm S) (h : Cu m0 b σ g m τ) (t d : Nat) (T D : Int) (hT : T = t) (hD : D = d) (ht : t < 7) (hd : d ≤ 3) :
    ∃ (s : List UInt8) (m1 : Mem) (υ : Ms), callw Tryd.prog TT S 35 [.pointer (some ⟨b, 0, none⟩), .int .i64 T, .int .i64 D] m = some (.string ⟨s.toArray⟩, m1) ∧ s.length ≤ 360 ∧ Cu m0 b σ g m1 υ ∧ υ.names = τ.names := by
  subst hT hD
  obtain ⟨v1, m1, c1, s, a2, z2, rfl, hy, h1, k1⟩ := mexpr_run hN d hd h.m_ t ht
  have hl : Lx d ≤ 360 := by
    rcases (by omega : d = 0 ∨ d = 1 ∨ d = 2 ∨ d = 3) with h | h | h | h <;> rw [h] <;> decide
  exact ⟨s, m1, _, c1, by omega, h.step k1 (a := a2) (z := z2) h1, rfl⟩
theorem Cu.line {m0 m : Mem} {b g : Nat} {σ τ : Ms} (hN : Nm S) (h : Cu m0 b σ g m τ) (n : Nat) (N : Int) (hn : N = n) (hn2 : n ≤ 100) (s : List UInt8) (hs : s.length ≤ 9000) (ho : σ.out.length + g ≤ 1000000000000) :
    ∃ (v : Value) (m1 : Mem) (υ : Ms), callw Tryd.prog TT S 20 [.pointer (some ⟨b, 0, none⟩), .int .i64 N, .string ⟨s.toArray⟩] m = some (v, m1) ∧ Cu m0 b σ (g + 10000) m1 υ ∧ υ.names = τ.names ∧ υ.vs = τ.vs ∧ υ.vf = τ.vf := by
  subst hn
  have h0 := h.out
  obtain ⟨v, m1, c1, h1, k1⟩ := mline_run hN h.m_ hn2 s (by omega) (by omega)
  exact ⟨v, m1, _, c1, ⟨h1, h.loops, h.res, by simp; omega, h.k.trans (k1.mono (by simp)), h.vf, h.names, h.rf⟩, rfl, rfl, rfl⟩
theorem Cu.push {m0 m3 m5 m6 : Mem} {b g t b5 k fm : Nat} {σ τ : Ms} {ss : List (List UInt8)} {nm : List UInt8} (q3 : Cu m0 b σ g m3 τ) (hs8 : ∀ s ∈ ss, s.length ≤ 8) (hnm : nm.length ≤ 8) (hn : ss.length + 1 ≤ τ.names + 4) (ht : t < 7)
    (o5 : Own m5 b5 (strC ss ++ [.string ⟨nm.toArray⟩]) 9 fm) (hfm : m3.next ≤ fm) (k5 : Keeps m3 m5 []) (hk : k = ss.length + 1) (o6 : Own m6 τ.vb (over τ.vs t [.slice (some ⟨b5, 0, none⟩) k k]) 48 τ.vf) (k6 : Keeps m5 m6 [τ.vf]) :
    Cu m0 b σ g m6 { τ with vs := over τ.vs t [.slice (some ⟨b5, 0, none⟩) k k] } := by
  subst hk
  have hl := q3.m_.len
  have hlt := q3.m_.own.flt
  have hlt2 := q3.m_.vo.flt
  have h5 := q3.m_.keep k5
  have k36 : Keeps m3 m6 [τ.vf] := k5.nil.trans k6
  have hmem : ∀ v ∈ over τ.vs t [.slice (some ⟨b5, 0, none⟩) (ss.length + 1) (ss.length + 1)], v ∈ τ.vs ∨ v = .slice (some ⟨b5, 0, none⟩) (ss.length + 1) (ss.length + 1) := by
    intro v hv
    simp only [over, List.mem_append, List.mem_cons, List.not_mem_nil, or_false] at hv
    rcases hv with (hv | hv) | hv
    · exact Or.inl (List.mem_of_mem_take hv)
    · exact Or.inr hv
    · exact Or.inl (List.mem_of_mem_drop hv)
  refine ⟨?_, q3.loops, q3.res, q3.out, keeps_two q3.k (k36.mono (by simp)) q3.vf, q3.vf, q3.names, q3.rf⟩
  refine ⟨h5.own.keep k6 (by simpa using h5.ne.symm), o6, ?_, ?_, h5.ne, h5.raw.keep k6 (by simpa using h5.rne.2), h5.rl, h5.rne, h5.at_, h5.names, h5.loops, Nat.lt_of_lt_of_le h5.rlt k6.1⟩
  · simp [over]; omega
  · intro v hv
    rcases hmem v hv with hv | rfl
    · exact (h5.vars v hv).keep k6 (by simp)
    · refine ⟨_, ss ++ [nm], fm, by simp; rfl, ?_, ?_, ?_, ?_, ?_⟩
      · have := (o5.keep k6 (by simp; omega)).rdo
        exact ⟨by simp [strC], Or.inr ⟨b5, rfl, by simpa [strC] using this⟩⟩
      · intro s hs
        rcases List.mem_append.1 hs with hs | hs
        · exact hs8 s hs
        · simp at hs; subst hs; exact hnm
      · show (ss ++ [nm]).length ≤ τ.names + 4
        simp
        omega
      · intro _
        exact ⟨by omega, by show fm ≠ τ.vf; omega⟩
      · simp
theorem mdeclare_run (hN : Nm S) {b t n : Nat} {σ : Ms} (h : Mk m b σ) (ht : t < 7) (hn : n ≤ 100) (hnm : σ.names ≤ 24) (s : List UInt8) (hs : s.length ≤ 8000) (ho : σ.out.length ≤ 900000000000) :
    ∃ v m1 υ, callw Tryd.prog TT S 50 [.pointer (some ⟨b, 0, none⟩), .int .i64 t, .int .i64 n, .string ⟨s.toArray⟩] m = some (v, m1) ∧ Cu m b σ 10000 m1 υ := by
  obtain ⟨v1, m1, c1, ⟨d, rfl, hd⟩, k1⟩ := mdigits_run (m := m) hN (n := σ.names) (by omega)
  have h1 := h.keep k1
  obtain ⟨l0, l1, l2, l3, l4, l5, l6, l7, l8⟩ := h.l
  obtain ⟨e0, e1, e2, e3, e4, e5, e6, e7, e8⟩ := h1.l
  have w1 : IntKind.i64.wrap ((σ.names : Int) + 1) = ((σ.names + 1 : Nat) : Int) := by rw [wrap_i64 (by omega) (by omega)]; omega
  suffices hh : ∃ v m1, callw Tryd.prog TT S 50 [.pointer (some ⟨b, 0, none⟩), .int .i64 t, .int .i64 n, .string ⟨s.toArray⟩] m = some (v, m1) ∧ ∃ υ, Cu m b σ 10000 m1 υ by
    obtain ⟨v, m1, h1, υ, h2⟩ := hh
    exact ⟨v, m1, υ, h1, h2⟩
  refine fn_w 9 [23] k50 hN.declare rfl ?_
  simp (disch := first | omega | (simp only [List.length_append, List.length_cons, List.length_nil]; omega) | rfl) [-Int.natCast_add, -strOp, add_short, fold_k, fold_0, -BitVec.toNat_or, -BitVec.toNat_ofInt, -BitVec.toNat_and, fieldAddr_of fa45_3, load_of ld3, bin_str u9 .add (Or.inl rfl), store_of sz3, fieldAddr_of fa45_2, load_of ld43, buildSlice_of u48 bs9 rfl, index_slice u43 sz48, load_of ld48, append_s u48 sz9, store_of sz48, l3, c1, w1, e3]
  generalize hrr : storeRow _ _ _ = rr
  obtain ⟨m2, rfl, o2, k2⟩ := store_own hrr h1.own (by simp [Ms.cells]) (by simp [one_int])
  have h2 : Mk m2 b { σ with names := σ.names + 1 } := h1.set k2 (by simpa [Ms.cells, over] using o2) rfl rfl rfl rfl rfl rfl h.at_ (by show σ.names + 1 ≤ 30; omega) h.loops (by show σ.names ≤ σ.names + 1; omega)
  have q2 : Cu m b σ 0 m2 { σ with names := σ.names + 1 } := ⟨h2, rfl, rfl, Nat.le_refl _, (k1.nil).trans (k2.mono (by simp)), Or.inl rfl, by show σ.names ≤ σ.names + 1; omega, rfl⟩
  simp (disch := first | omega | (simp only [List.length_append, List.length_cons, List.length_nil]; omega) | rfl) [-Int.natCast_add, -strOp, add_short, fold_k, fold_0, -BitVec.toNat_or, -BitVec.toNat_ofInt, -BitVec.toNat_and, fieldAddr_of fa45_3, load_of ld3, bin_str u9 .add (Or.inl rfl), store_of sz3, fieldAddr_of fa45_2, load_of ld43, buildSlice_of u48 bs9 rfl, index_slice u43 sz48, load_of ld48, append_s u48 sz9, store_of sz48]
  apply cut2_ (fun (m3 : Mem) (τ : Ms) => Cu m b σ 10000 m3 τ ∧ τ.vs = σ.vs ∧ τ.names = σ.names + 1)
  case main =>
    by_cases t6 : t = 6
    · obtain ⟨v3, m3, τ, c3, q3, q5, q4, _⟩ := q2.line hN n n rfl hn (118 :: 97 :: 114 :: 32 :: 118 :: (d ++ 32 :: 73 :: 32 :: 61 :: 32 :: s)) (by simp; omega) (by omega)
      intro meth
      simp (disch := first | omega | (simp only [List.length_append, List.length_cons, List.length_nil]; omega) | rfl) [-Int.natCast_add, -strOp, add_short, fold_k, fold_0, -w50_5, -BitVec.toNat_or, -BitVec.toNat_ofInt, -BitVec.toNat_and, fieldAddr_of fa45_3, load_of ld3, bin_str u9 .add (Or.inl rfl), store_of sz3, fieldAddr_of fa45_2, load_of ld43, buildSlice_of u48 bs9 rfl, index_slice u43 sz48, load_of ld48, append_s u48 sz9, store_of sz48, t6, c3]
      exact w_sub (E := [(0, .pointer (some ⟨b, 0, none⟩)), (1, .int .i64 t), (8, .string ⟨(118 :: d).toArray⟩)]) (meth m3 τ ⟨q3, q4, q5⟩) ⟨by rfl, by simp [lget, t6], by rfl, trivial⟩
    · have t6' : ¬ (t : Int) = 6 := by omega
      obtain ⟨v3, m3, τ, c3, q3, q5, q4, _⟩ := q2.line hN n n rfl hn (118 :: (d ++ 32 :: 58 :: 61 :: 32 :: s)) (by simp; omega) (by omega)
      intro meth
      simp (disch := first | omega | (simp only [List.length_append, List.length_cons, List.length_nil]; omega) | rfl) [-Int.natCast_add, -strOp, add_short, fold_k, fold_0, -w50_5, -BitVec.toNat_or, -BitVec.toNat_ofInt, -BitVec.toNat_and, fieldAddr_of fa45_3, load_of ld3, bin_str u9 .add (Or.inl rfl), store_of sz3, fieldAddr_of fa45_2, load_of ld43, buildSlice_of u48 bs9 rfl, index_slice u43 sz48, load_of ld48, append_s u48 sz9, store_of sz48, t6, t6', c3]
      exact w_sub (E := [(0, .pointer (some ⟨b, 0, none⟩)), (1, .int .i64 t), (8, .string ⟨(118 :: d).toArray⟩)]) (meth m3 τ ⟨q3, q4, q5⟩) ⟨by rfl, by rfl, by rfl, trivial⟩
  intro m3 τ ⟨q3, q4, q5⟩
  have hl := q3.m_.len
  obtain ⟨_, ss0, _, hv0, _, _, hn0, _, _⟩ := h.vars τ.vs[t] (by rw [← q4]; exact List.getElem_mem _)
  obtain ⟨ao, ss, fam, hv, hr, hs8, hn4, hq, hz0⟩ := q3.m_.vars τ.vs[t] (List.getElem_mem _)
  have hn5 : ss.length ≤ σ.names + 4 := by
    rw [hv] at hv0
    simp only [Value.slice.injEq] at hv0
    omega
  clear hv0 hn0
  have ld : loadRow m3 ⟨τ.vb, t, none⟩ 1 = some [.slice ao ss.length ss.length] := by
    rw [q3.m_.vo.load (off := t) 1 (by omega)]
    simp only [window]
    rw [List.drop_eq_getElem_cons (by omega), hv]
    rfl
  have lv := q3.m_.l.2.2.1
  have em : (t : Int) ≤ 9223372036854775807 := by omega
  have oe : Own (m3.new [] 9) m3.next [] 9 m3.next := Own.new _ _ _
  have ke : Keeps m3 (m3.new [] 9) [] := keeps_new _ _ _ _
  have hlt := q3.m_.own.flt
  have hlt2 := q3.m_.vo.flt
  have hn30 := h.names
  have fin : ∀ (m5 : Mem) (b5 k : Nat), Own m5 b5 (strC ss ++ [.string ⟨(118 :: d).toArray⟩]) 9 m3.next → Keeps m3 m5 [] → k = ss.length + 1 → ∀ m6 : Mem, Own m6 τ.vb (over τ.vs t [.slice (some ⟨b5, 0, none⟩) k k]) 48 τ.vf → Keeps m5 m6 [τ.vf] → ∃ υ, Cu m b σ 10000 m6 υ :=
    fun m5 b5 k o5 k5 hk m6 o6 k6 => ⟨_, q3.push hs8 (by simp; omega) (by omega) ht o5 (Nat.le_refl _) k5 hk o6 k6⟩
  by_cases z : ss.length = 0
  · have hss : ss = [] := List.length_eq_zero_iff.1 z
    have ha := hz0 z
    subst hss ha
    simp (disch := first | omega | (simp only [List.length_append, List.length_cons, List.length_nil]; omega) | rfl) [-Int.natCast_add, -strOp, add_short, fold_k, fold_0, -BitVec.toNat_or, -BitVec.toNat_ofInt, -BitVec.toNat_and, fieldAddr_of fa45_3, load_of ld3, bin_str u9 .add (Or.inl rfl), store_of sz3, fieldAddr_of fa45_2, load_of ld43, buildSlice_of u48 bs9 rfl, index_slice u43 sz48, load_of ld48, append_s u48 sz9, store_of sz48, lv, ht, em, ld, z, q3.m_.own.ln, q3.m_.vo.ln]
    generalize hrr : sappend _ _ _ _ _ _ = rr
    obtain ⟨m4, b4, rfl, o4, k4⟩ := app_own hrr u48 ap9 oe rfl rfl rfl (by simp) (by simp)
    have kk4 : Keeps m3 m4 [] := ke.fresh k4 (by simp)
    have h4 := q3.m_.keep kk4
    have lv4 := h4.l.2.2.1
    simp (disch := first | omega | (simp only [List.length_append, List.length_cons, List.length_nil]; omega) | rfl) [-Int.natCast_add, -strOp, add_short, fold_k, fold_0, -BitVec.toNat_or, -BitVec.toNat_ofInt, -BitVec.toNat_and, fieldAddr_of fa45_3, load_of ld3, bin_str u9 .add (Or.inl rfl), store_of sz3, fieldAddr_of fa45_2, load_of ld43, buildSlice_of u48 bs9 rfl, index_slice u43 sz48, load_of ld48, append_s u48 sz9, store_of sz48, lv, ht, em, ld, z, q3.m_.own.ln, q3.m_.vo.ln, lv4, o4.ln, h4.own.ln, h4.vo.ln]
    generalize hrr2 : sappend _ _ _ _ _ _ = rr2
    obtain ⟨m5, b5, rfl, o5, k5⟩ := app_own_new hrr2 u48 ap9 o4 rfl rfl rfl (by simp) (by simp)
    have kk5 : Keeps m3 m5 [] := kk4.fresh k5 (by simp)
    have h5 := q3.m_.keep kk5
    have lv5 := h5.l.2.2.1
    simp (disch := first | omega | (simp only [List.length_append, List.length_cons, List.length_nil]; omega) | rfl) [-Int.natCast_add, -strOp, add_short, fold_k, fold_0, -BitVec.toNat_or, -BitVec.toNat_ofInt, -BitVec.toNat_and, fieldAddr_of fa45_3, load_of ld3, bin_str u9 .add (Or.inl rfl), store_of sz3, fieldAddr_of fa45_2, load_of ld43, buildSlice_of u48 bs9 rfl, index_slice u43 sz48, load_of ld48, append_s u48 sz9, store_of sz48, lv, ht, em, ld, z, q3.m_.own.ln, q3.m_.vo.ln, lv4, o4.ln, h4.own.ln, h4.vo.ln, lv5]
    generalize hrr3 : storeRow _ _ _ = rr3
    obtain ⟨m6, rfl, o6, k6⟩ := store_own hrr3 h5.vo (by simp; omega) (by simp [one_slice])
    simp (disch := first | omega | (simp only [List.length_append, List.length_cons, List.length_nil]; omega) | rfl) [-Int.natCast_add, -strOp, add_short, fold_k, fold_0, -BitVec.toNat_or, -BitVec.toNat_ofInt, -BitVec.toNat_and, fieldAddr_of fa45_3, load_of ld3, bin_str u9 .add (Or.inl rfl), store_of sz3, fieldAddr_of fa45_2, load_of ld43, buildSlice_of u48 bs9 rfl, index_slice u43 sz48, load_of ld48, append_s u48 sz9, store_of sz48, lv, ht, em, ld, z, q3.m_.own.ln, q3.m_.vo.ln, lv4, o4.ln, h4.own.ln, h4.vo.ln, lv5]
    exact fin m5 b5 1 (by simpa [strC] using o5) kk5 rfl m6 o6 k6
  · obtain ⟨sb, hsb, so⟩ := hr.rdo z
    have l2 := (so.load (off := 0) ss.length (by simp [strC]))
    have htk : List.take ss.length (strC ss) = strC ss := List.take_of_length_le (by simp [strC])
    simp (disch := first | omega | (simp only [List.length_append, List.length_cons, List.length_nil]; omega) | rfl) [-Int.natCast_add, -strOp, add_short, fold_k, fold_0, -BitVec.toNat_or, -BitVec.toNat_ofInt, -BitVec.toNat_and, fieldAddr_of fa45_3, load_of ld3, bin_str u9 .add (Or.inl rfl), store_of sz3, fieldAddr_of fa45_2, load_of ld43, buildSlice_of u48 bs9 rfl, index_slice u43 sz48, load_of ld48, append_s u48 sz9, store_of sz48, lv, ht, em, ld, z, hsb, l2, so.ln, q3.m_.own.ln, q3.m_.vo.ln, htk]
    generalize hrr : sappend _ _ _ _ _ _ = rr
    obtain ⟨m4, b4, rfl, o4, k4⟩ := app_own hrr u48 ap9 oe rfl (by simp [strC]) (by simp [strC, one_str]) (by omega) (by omega)
    have kk4 : Keeps m3 m4 [] := ke.fresh k4 (by simp)
    have h4 := q3.m_.keep kk4
    have lv4 := h4.l.2.2.1
    simp (disch := first | omega | (simp only [List.length_append, List.length_cons, List.length_nil]; omega) | rfl) [-Int.natCast_add, -strOp, add_short, fold_k, fold_0, -BitVec.toNat_or, -BitVec.toNat_ofInt, -BitVec.toNat_and, fieldAddr_of fa45_3, load_of ld3, bin_str u9 .add (Or.inl rfl), store_of sz3, fieldAddr_of fa45_2, load_of ld43, buildSlice_of u48 bs9 rfl, index_slice u43 sz48, load_of ld48, append_s u48 sz9, store_of sz48, lv, ht, em, ld, z, hsb, l2, so.ln, q3.m_.own.ln, q3.m_.vo.ln, htk, lv4, o4.ln, h4.own.ln, h4.vo.ln]
    generalize hrr2 : sappend _ _ _ _ _ _ = rr2
    obtain ⟨m5, b5, rfl, o5, k5⟩ := app_own_new hrr2 u48 ap9 o4 (by simp [strC]) rfl (by simp [one_str]) (by omega) (by omega)
    have kk5 : Keeps m3 m5 [] := kk4.fresh k5 (by simp)
    have h5 := q3.m_.keep kk5
    have lv5 := h5.l.2.2.1
    simp (disch := first | omega | (simp only [List.length_append, List.length_cons, List.length_nil]; omega) | rfl) [-Int.natCast_add, -strOp, add_short, fold_k, fold_0, -BitVec.toNat_or, -BitVec.toNat_ofInt, -BitVec.toNat_and, fieldAddr_of fa45_3, load_of ld3, bin_str u9 .add (Or.inl rfl), store_of sz3, fieldAddr_of fa45_2, load_of ld43, buildSlice_of u48 bs9 rfl, index_slice u43 sz48, load_of ld48, append_s u48 sz9, store_of sz48, lv, ht, em, ld, z, hsb, l2, so.ln, q3.m_.own.ln, q3.m_.vo.ln, htk, lv4, o4.ln, h4.own.ln, h4.vo.ln, lv5]
    generalize hrr3 : storeRow _ _ _ = rr3
    obtain ⟨m6, rfl, o6, k6⟩ := store_own hrr3 h5.vo (by simp; omega) (by simp [one_slice])
    simp (disch := first | omega | (simp only [List.length_append, List.length_cons, List.length_nil]; omega) | rfl) [-Int.natCast_add, -strOp, add_short, fold_k, fold_0, -BitVec.toNat_or, -BitVec.toNat_ofInt, -BitVec.toNat_and, fieldAddr_of fa45_3, load_of ld3, bin_str u9 .add (Or.inl rfl), store_of sz3, fieldAddr_of fa45_2, load_of ld43, buildSlice_of u48 bs9 rfl, index_slice u43 sz48, load_of ld48, append_s u48 sz9, store_of sz48, lv, ht, em, ld, z, hsb, l2, so.ln, q3.m_.own.ln, q3.m_.vo.ln, htk, lv4, o4.ln, h4.own.ln, h4.vo.ln, lv5]
    exact fin m5 b5 _ (by simpa using o5) kk5 (by omega) m6 o6 k6
end Go.Proofs.YtgomgdbapgibjaaDoor.base

