/-
  This text proves what the maker's loop does over the abstract run, given what its stmts does.
  Condition: nothing is known of its calls ahead ('S f = []').
-/
import Derived.Test.YtgomgdbapgibjaaDoorMakD
set_option maxRecDepth 100000
set_option linter.unusedSimpArgs false
set_option linter.unusedVariables false
namespace Go.Proofs.YtgomgdbapgibjaaDoor.base
open Go.Sh gen
variable {S : Sums} {m : Mem}
def HLo (S : Sums) (d : Nat) : Prop := ∀ {m : Mem} {b n : Nat} {σ : Ms}, Mk m b σ → Hy σ n d (Gt d) → σ.names ≤ 24 →
  ∃ v m1 υ, callw Tryd.prog TT S 52 [.pointer (some ⟨b, 0, none⟩), .int .i64 n, .int .i64 d] m = some (v, m1) ∧ Cu m b σ (Gt d) m1 υ
theorem Cu.inner {m0 m m1 m2 m3 : Mem} {b g g2 : Nat} {σ τ υ : Ms} {p : Nat} (q : Cu m0 b σ g m τ) (k1 : Keeps m m1 [b]) (q2 : Cu m1 b { τ with loops := p } g2 m2 υ)
    (k : Keeps m2 m3 [b]) (o : Own m3 b (Ms.cells { υ with loops := τ.loops }) 45 b) : Cu m0 b σ (g + g2) m3 { υ with loops := τ.loops } := by
  have h := q2.m_
  have h3 : Mk m3 b { υ with loops := τ.loops } := h.set k o rfl rfl rfl rfl rfl rfl h.at_ h.names q.m_.loops (Nat.le_refl _)
  refine ⟨h3, q.loops, q2.res.trans q.res, ?_, keeps_two (q.k.trans (k1.mono (by simp))) (q2.k.trans (k.mono (by simp))) q.vf, ?_, Nat.le_trans q.names q2.names, q2.rf.trans q.rf⟩
  · have h1 : υ.out.length ≤ τ.out.length + g2 := q2.out
    have h2 := q.out
    show υ.out.length ≤ σ.out.length + (g + g2)
    omega
  · have := (q.k.trans (k1.mono (gs := [b, σ.vf]) (by simp))).1
    rcases q2.vf with h1 | h1
    · show υ.vf = σ.vf ∨ m0.next ≤ υ.vf
      have h1 : υ.vf = τ.vf := h1
      rw [h1]; exact q.vf
    · exact Or.inr (by show m0.next ≤ υ.vf; omega)
theorem mloop_zero (hN : Nm S) : HLo S 0 := by
  intro m b n σ h hy _
  suffices hh : ∃ v m1, callw Tryd.prog TT S 52 [.pointer (some ⟨b, 0, none⟩), .int .i64 n, .int .i64 0] m = some (v, m1) ∧ ∃ υ, Cu m b σ (Gt 0) m1 υ by
    obtain ⟨v, m1, h1, υ, h2⟩ := hh
    exact ⟨v, m1, υ, h1, h2⟩
  refine fn_w 8 [9, 52] k52 hN.loop rfl ?_
  simp (disch := first | omega | (simp only [List.length_append, List.length_cons, List.length_nil]; omega) | rfl) [-Int.natCast_add, -strOp, add_short, fold_k, fold_0, -BitVec.toNat_or, -BitVec.toNat_ofInt, -BitVec.toNat_and, fieldAddr_of fa45_3, load_of ld3, bin_str u9 .add (Or.inl rfl), store_of sz3, buildSlice_of u43 bs48 rfl, fieldAddr_of fa45_2, load_of ld43, append_s u43 sz48, buildSlice_of u48 bs9 rfl, index_slice u43 sz48, load_of ld48, append_s u48 sz9, store_of sz48, build_arr u73 sz9 zo73, index_arr u73 sz9, part_one ld9, fieldAddr_of fa45_4, store_of sz43]
  exact ⟨_, (Cu.refl h).mono (by omega)⟩
theorem mloop_run (hN : Nm S) (d : Nat) (hd : d ≤ 8) (st : HSs S d) : HLo S (d + 1) := by
  intro m b n σ h hy hnm
  suffices hh : ∃ v m1, callw Tryd.prog TT S 52 [.pointer (some ⟨b, 0, none⟩), .int .i64 n, .int .i64 (d + 1 : Nat)] m = some (v, m1) ∧ ∃ υ, Cu m b σ (Gt (d + 1)) m1 υ by
    obtain ⟨v, m1, h1, υ, h2⟩ := hh
    exact ⟨v, m1, υ, h1, h2⟩
  obtain ⟨v1, m1, c1, ⟨dg, rfl, hdg⟩, k1⟩ := mdigits_run (m := m) hN (n := σ.names) (by omega)
  have h1 := h.keep k1
  have l3 := h.l.2.2.2.1
  have e3 := h1.l.2.2.2.1
  have w1 : IntKind.i64.wrap ((σ.names : Int) + 1) = ((σ.names + 1 : Nat) : Int) := by rw [wrap_i64 (by omega) (by omega)]; omega
  have d0 : ¬ ((d + 1 : Nat) : Int) ≤ 0 := by omega
  refine fn_w 8 [9, 52] k52 hN.loop rfl ?_
  simp (disch := first | omega | (simp only [List.length_append, List.length_cons, List.length_nil]; omega) | rfl) [-Int.natCast_add, -strOp, add_short, fold_k, fold_0, -BitVec.toNat_or, -BitVec.toNat_ofInt, -BitVec.toNat_and, fieldAddr_of fa45_3, load_of ld3, bin_str u9 .add (Or.inl rfl), store_of sz3, buildSlice_of u43 bs48 rfl, fieldAddr_of fa45_2, load_of ld43, append_s u43 sz48, buildSlice_of u48 bs9 rfl, index_slice u43 sz48, load_of ld48, append_s u48 sz9, store_of sz48, build_arr u73 sz9 zo73, index_arr u73 sz9, part_one ld9, fieldAddr_of fa45_4, store_of sz43, l3, c1, w1, e3, d0]
  generalize hrr : storeRow _ _ _ = rr
  obtain ⟨m2, rfl, o2, k2⟩ := store_own hrr h1.own (by simp [Ms.cells]) (by simp [one_int])
  have h2 : Mk m2 b { σ with names := σ.names + 1 } := h1.set k2 (by simpa [Ms.cells, over] using o2) rfl rfl rfl rfl rfl rfl h.at_ (by show σ.names + 1 ≤ 30; omega) h.loops (by show σ.names ≤ σ.names + 1; omega)
  have q2 : Cu m b σ 0 m2 { σ with names := σ.names + 1 } := ⟨h2, rfl, rfl, Nat.le_refl _, (k1.nil).trans (k2.mono (by simp)), Or.inl rfl, by show σ.names ≤ σ.names + 1; omega, rfl⟩
  have lv := h2.l.2.2.1
  have hl : σ.vs.length = 7 := h2.len
  have l7 : loadRow m2 ⟨σ.vb, 0, none⟩ 7 = some σ.vs := by
    rw [h2.vo.load (off := 0) 7 (by show 0 + 7 ≤ σ.vs.length; omega)]
    simp [window, List.take_of_length_le, hl]
  simp (disch := first | omega | (simp only [List.length_append, List.length_cons, List.length_nil]; omega) | rfl) [-Int.natCast_add, -strOp, add_short, fold_k, fold_0, -BitVec.toNat_or, -BitVec.toNat_ofInt, -BitVec.toNat_and, fieldAddr_of fa45_3, load_of ld3, bin_str u9 .add (Or.inl rfl), store_of sz3, buildSlice_of u43 bs48 rfl, fieldAddr_of fa45_2, load_of ld43, append_s u43 sz48, buildSlice_of u48 bs9 rfl, index_slice u43 sz48, load_of ld48, append_s u48 sz9, store_of sz48, build_arr u73 sz9 zo73, index_arr u73 sz9, part_one ld9, fieldAddr_of fa45_4, store_of sz43, lv, h2.own.ln, h2.vo.ln, l7]
  have hlt : b < m2.next := h2.own.flt
  have hlt2 : σ.vf < m2.next := h2.vo.flt
  generalize hrr : sappend _ _ _ _ _ _ = rr
  obtain ⟨m3, wb, rfl, o3, k3'⟩ := app_own hrr u43 ap48 (Own.new m2 [] 48) rfl (by simp [hl]) (by simp; intro v hv; obtain ⟨ao, ss, fam, rfl, _⟩ := h.vars v hv; rfl) (by simp) (by simp)
  have k3 : Keeps m2 m3 [] := (keeps_new m2 [] 48 []).fresh k3' (by simp)
  simp only [List.nil_append] at o3
  clear hrr k3'
  have fin : ∀ {m8 m9 : Mem} {g : Nat} {τ : Ms}, Cu m3 b { σ with names := σ.names + 1 } g m8 τ → Keeps m8 m9 [b] → Own m9 b (Ms.cells { τ with vb := wb, vf := m2.next, vs := σ.vs }) 45 b → g ≤ Gt (d + 1) → ∃ υ, Cu m b σ (Gt (d + 1)) m9 υ := fun q k o hg => ⟨_, (q2.trans (h2.back k3 o3 (Nat.le_refl _) q k o)).mono (by omega)⟩
  have q3 := Cu.refl (h2.keep k3)
  have hyo := hy.out
  have hyn := hy.n
  obtain ⟨v4, m4, τ, c4, q4, n4, s4, _⟩ := q3.line hN n n rfl (by omega) (118 :: (dg ++ [32, 58, 61, 32, 48])) (by simp; omega) (by show σ.out.length + 0 ≤ _; omega)
  simp (disch := first | omega | (simp only [List.length_append, List.length_cons, List.length_nil]; omega) | rfl) [-Int.natCast_add, -strOp, add_short, fold_k, fold_0, -BitVec.toNat_or, -BitVec.toNat_ofInt, -BitVec.toNat_and, fieldAddr_of fa45_3, load_of ld3, bin_str u9 .add (Or.inl rfl), store_of sz3, buildSlice_of u43 bs48 rfl, fieldAddr_of fa45_2, load_of ld43, append_s u43 sz48, buildSlice_of u48 bs9 rfl, index_slice u43 sz48, load_of ld48, append_s u48 sz9, store_of sz48, build_arr u73 sz9 zo73, index_arr u73 sz9, part_one ld9, fieldAddr_of fa45_4, store_of sz43, c4]
  apply cut2_ (fun (m5 : Mem) (υ : Ms) => Cu m3 b { σ with names := σ.names + 1 } 10000 m5 υ)
  case main =>
    have hl4 := q4.m_.len
    obtain ⟨ao, ss, fam, hv, hr, hs8, hn4, hq, hz0⟩ := q4.m_.vars τ.vs[0] (List.getElem_mem _)
    obtain ⟨_, ss0, _, hv0, _, _, hn0, _, _⟩ := h.vars τ.vs[0] (by rw [← (s4 : τ.vs = σ.vs)]; exact List.getElem_mem _)
    have hn5 : ss.length ≤ σ.names + 4 := by
      rw [hv] at hv0
      simp only [Value.slice.injEq] at hv0
      omega
    have hnn : τ.names = σ.names + 1 := n4
    clear hv0 hn0
    have ld : loadRow m4 ⟨τ.vb, 0, none⟩ 1 = some [.slice ao ss.length ss.length] := by
      rw [q4.m_.vo.load (off := 0) 1 (by omega)]
      simp only [window]
      rw [List.drop_eq_getElem_cons (by omega), hv]
      rfl
    have lv := q4.m_.l.2.2.1
    have oe : Own (m4.new [] 9) m4.next [] 9 m4.next := Own.new _ _ _
    have ke : Keeps m4 (m4.new [] 9) [] := keeps_new _ _ _ _
    by_cases z : ss.length = 0
    · have hss : ss = [] := List.length_eq_zero_iff.1 z
      have ha := hz0 z
      subst hss ha
      intro meth
      simp (disch := first | omega | (simp only [List.length_append, List.length_cons, List.length_nil]; omega) | rfl) [-Int.natCast_add, -strOp, add_short, fold_k, fold_0, -w52_6, -BitVec.toNat_or, -BitVec.toNat_ofInt, -BitVec.toNat_and, fieldAddr_of fa45_3, load_of ld3, bin_str u9 .add (Or.inl rfl), store_of sz3, buildSlice_of u43 bs48 rfl, fieldAddr_of fa45_2, load_of ld43, append_s u43 sz48, buildSlice_of u48 bs9 rfl, index_slice u43 sz48, load_of ld48, append_s u48 sz9, store_of sz48, build_arr u73 sz9 zo73, index_arr u73 sz9, part_one ld9, fieldAddr_of fa45_4, store_of sz43, lv, ld, z, q4.m_.own.ln, q4.m_.vo.ln]
      generalize hrr : sappend _ _ _ _ _ _ = rr
      obtain ⟨m5, b5, rfl, o5, k5⟩ := app_own hrr u48 ap9 oe rfl rfl rfl (by simp) (by simp)
      have kk5 : Keeps m4 m5 [] := ke.fresh k5 (by simp)
      have h5 := q4.m_.keep kk5
      have lv5 := h5.l.2.2.1
      simp (disch := first | omega | (simp only [List.length_append, List.length_cons, List.length_nil]; omega) | rfl) [-Int.natCast_add, -strOp, add_short, fold_k, fold_0, -w52_6, -BitVec.toNat_or, -BitVec.toNat_ofInt, -BitVec.toNat_and, fieldAddr_of fa45_3, load_of ld3, bin_str u9 .add (Or.inl rfl), store_of sz3, buildSlice_of u43 bs48 rfl, fieldAddr_of fa45_2, load_of ld43, append_s u43 sz48, buildSlice_of u48 bs9 rfl, index_slice u43 sz48, load_of ld48, append_s u48 sz9, store_of sz48, build_arr u73 sz9 zo73, index_arr u73 sz9, part_one ld9, fieldAddr_of fa45_4, store_of sz43, lv, ld, z, q4.m_.own.ln, q4.m_.vo.ln, lv5, o5.ln, h5.own.ln, h5.vo.ln]
      generalize hrr2 : sappend _ _ _ _ _ _ = rr2
      obtain ⟨m6, b6, rfl, o6, k6⟩ := app_own_new hrr2 u48 ap9 o5 rfl rfl rfl (by simp) (by simp)
      have kk6 : Keeps m4 m6 [] := kk5.fresh k6 (by simp)
      have h6 := q4.m_.keep kk6
      have lv6 := h6.l.2.2.1
      simp (disch := first | omega | (simp only [List.length_append, List.length_cons, List.length_nil]; omega) | rfl) [-Int.natCast_add, -strOp, add_short, fold_k, fold_0, -w52_6, -BitVec.toNat_or, -BitVec.toNat_ofInt, -BitVec.toNat_and, fieldAddr_of fa45_3, load_of ld3, bin_str u9 .add (Or.inl rfl), store_of sz3, buildSlice_of u43 bs48 rfl, fieldAddr_of fa45_2, load_of ld43, append_s u43 sz48, buildSlice_of u48 bs9 rfl, index_slice u43 sz48, load_of ld48, append_s u48 sz9, store_of sz48, build_arr u73 sz9 zo73, index_arr u73 sz9, part_one ld9, fieldAddr_of fa45_4, store_of sz43, lv, ld, z, q4.m_.own.ln, q4.m_.vo.ln, lv5, o5.ln, h5.own.ln, h5.vo.ln, lv6]
      generalize hrr3 : storeRow _ _ _ = rr3
      obtain ⟨m7, rfl, o7, k7⟩ := store_own hrr3 h6.vo (by simp; omega) (by simp [one_slice])
      simp (disch := first | omega | (simp only [List.length_append, List.length_cons, List.length_nil]; omega) | rfl) [-Int.natCast_add, -strOp, add_short, fold_k, fold_0, -w52_6, -BitVec.toNat_or, -BitVec.toNat_ofInt, -BitVec.toNat_and, fieldAddr_of fa45_3, load_of ld3, bin_str u9 .add (Or.inl rfl), store_of sz3, buildSlice_of u43 bs48 rfl, fieldAddr_of fa45_2, load_of ld43, append_s u43 sz48, buildSlice_of u48 bs9 rfl, index_slice u43 sz48, load_of ld48, append_s u48 sz9, store_of sz48, build_arr u73 sz9 zo73, index_arr u73 sz9, part_one ld9, fieldAddr_of fa45_4, store_of sz43, lv, ld, z, q4.m_.own.ln, q4.m_.vo.ln, lv5, o5.ln, h5.own.ln, h5.vo.ln, lv6]
      obtain ⟨υ, hυ⟩ : ∃ υ, Cu m3 b { σ with names := σ.names + 1 } 10000 m7 υ := ⟨_, q4.push (t := 0) (nm := 118 :: dg) hs8 (by simp; omega) (by omega) (by omega) (by simpa [strC] using o6) (Nat.le_refl _) kk6 rfl o7 k7⟩
      exact w_sub (E := [(0, .pointer (some ⟨b, 0, none⟩)), (1, .int .i64 n), (2, .int .i64 (d + 1 : Nat)), (6, .string ⟨(118 :: dg).toArray⟩), (7, .slice (some ⟨wb, 0, none⟩) 7 7)]) (meth m7 υ hυ) ⟨by rfl, by rfl, by rfl, by rfl, by rfl, trivial⟩
    · obtain ⟨sb, hsb, so⟩ := hr.rdo z
      have l2 := (so.load (off := 0) ss.length (by simp [strC]))
      have htk : List.take ss.length (strC ss) = strC ss := List.take_of_length_le (by simp [strC])
      intro meth
      simp (disch := first | omega | (simp only [List.length_append, List.length_cons, List.length_nil]; omega) | rfl) [-Int.natCast_add, -strOp, add_short, fold_k, fold_0, -w52_6, -BitVec.toNat_or, -BitVec.toNat_ofInt, -BitVec.toNat_and, fieldAddr_of fa45_3, load_of ld3, bin_str u9 .add (Or.inl rfl), store_of sz3, buildSlice_of u43 bs48 rfl, fieldAddr_of fa45_2, load_of ld43, append_s u43 sz48, buildSlice_of u48 bs9 rfl, index_slice u43 sz48, load_of ld48, append_s u48 sz9, store_of sz48, build_arr u73 sz9 zo73, index_arr u73 sz9, part_one ld9, fieldAddr_of fa45_4, store_of sz43, lv, ld, z, hsb, l2, so.ln, htk, q4.m_.own.ln, q4.m_.vo.ln]
      generalize hrr : sappend _ _ _ _ _ _ = rr
      obtain ⟨m5, b5, rfl, o5, k5⟩ := app_own hrr u48 ap9 oe rfl (by simp [strC]) (by simp [strC, one_str]) (by omega) (by omega)
      have kk5 : Keeps m4 m5 [] := ke.fresh k5 (by simp)
      have h5 := q4.m_.keep kk5
      have lv5 := h5.l.2.2.1
      simp (disch := first | omega | (simp only [List.length_append, List.length_cons, List.length_nil]; omega) | rfl) [-Int.natCast_add, -strOp, add_short, fold_k, fold_0, -w52_6, -BitVec.toNat_or, -BitVec.toNat_ofInt, -BitVec.toNat_and, fieldAddr_of fa45_3, load_of ld3, bin_str u9 .add (Or.inl rfl), store_of sz3, buildSlice_of u43 bs48 rfl, fieldAddr_of fa45_2, load_of ld43, append_s u43 sz48, buildSlice_of u48 bs9 rfl, index_slice u43 sz48, load_of ld48, append_s u48 sz9, store_of sz48, build_arr u73 sz9 zo73, index_arr u73 sz9, part_one ld9, fieldAddr_of fa45_4, store_of sz43, lv, ld, z, hsb, l2, so.ln, htk, q4.m_.own.ln, q4.m_.vo.ln, lv5, o5.ln, h5.own.ln, h5.vo.ln]
      generalize hrr2 : sappend _ _ _ _ _ _ = rr2
      obtain ⟨m6, b6, rfl, o6, k6⟩ := app_own_new hrr2 u48 ap9 o5 (by simp [strC]) rfl (by simp [one_str]) (by omega) (by omega)
      have kk6 : Keeps m4 m6 [] := kk5.fresh k6 (by simp)
      have h6 := q4.m_.keep kk6
      have lv6 := h6.l.2.2.1
      simp (disch := first | omega | (simp only [List.length_append, List.length_cons, List.length_nil]; omega) | rfl) [-Int.natCast_add, -strOp, add_short, fold_k, fold_0, -w52_6, -BitVec.toNat_or, -BitVec.toNat_ofInt, -BitVec.toNat_and, fieldAddr_of fa45_3, load_of ld3, bin_str u9 .add (Or.inl rfl), store_of sz3, buildSlice_of u43 bs48 rfl, fieldAddr_of fa45_2, load_of ld43, append_s u43 sz48, buildSlice_of u48 bs9 rfl, index_slice u43 sz48, load_of ld48, append_s u48 sz9, store_of sz48, build_arr u73 sz9 zo73, index_arr u73 sz9, part_one ld9, fieldAddr_of fa45_4, store_of sz43, lv, ld, z, hsb, l2, so.ln, htk, q4.m_.own.ln, q4.m_.vo.ln, lv5, o5.ln, h5.own.ln, h5.vo.ln, lv6]
      generalize hrr3 : storeRow _ _ _ = rr3
      obtain ⟨m7, rfl, o7, k7⟩ := store_own hrr3 h6.vo (by simp; omega) (by simp [one_slice])
      simp (disch := first | omega | (simp only [List.length_append, List.length_cons, List.length_nil]; omega) | rfl) [-Int.natCast_add, -strOp, add_short, fold_k, fold_0, -w52_6, -BitVec.toNat_or, -BitVec.toNat_ofInt, -BitVec.toNat_and, fieldAddr_of fa45_3, load_of ld3, bin_str u9 .add (Or.inl rfl), store_of sz3, buildSlice_of u43 bs48 rfl, fieldAddr_of fa45_2, load_of ld43, append_s u43 sz48, buildSlice_of u48 bs9 rfl, index_slice u43 sz48, load_of ld48, append_s u48 sz9, store_of sz48, build_arr u73 sz9 zo73, index_arr u73 sz9, part_one ld9, fieldAddr_of fa45_4, store_of sz43, lv, ld, z, hsb, l2, so.ln, htk, q4.m_.own.ln, q4.m_.vo.ln, lv5, o5.ln, h5.own.ln, h5.vo.ln, lv6]
      obtain ⟨υ, hυ⟩ : ∃ υ, Cu m3 b { σ with names := σ.names + 1 } 10000 m7 υ := ⟨_, q4.push (t := 0) (nm := 118 :: dg) hs8 (by simp; omega) (by omega) (by omega) (by simpa using o6) (Nat.le_refl _) kk6 (by omega) o7 k7⟩
      exact w_sub (E := [(0, .pointer (some ⟨b, 0, none⟩)), (1, .int .i64 n), (2, .int .i64 (d + 1 : Nat)), (6, .string ⟨(118 :: dg).toArray⟩), (7, .slice (some ⟨wb, 0, none⟩) 7 7)]) (meth m7 υ hυ) ⟨by rfl, by rfl, by rfl, by rfl, by rfl, trivial⟩
  intro m4 τ q4
  obtain ⟨y, m5, υ5, c5, hy5, q5, _⟩ := q4.next hN 9 9 rfl (by omega) (by omega)
  have so5 : ∀ {g : Nat}, g ≤ 100000 → σ.out.length + g ≤ 1000000000000 := fun hg => by omega
  apply cut2_ (fun (m7 : Mem) (τ : Ms) => Cu m3 b { σ with names := σ.names + 1 } 20000 m7 τ)
  case main =>
    by_cases y0 : y = 0
    · obtain ⟨s, m6, υ6, c6, hs6, q6, _⟩ := q5.expr hN 1 2 1 2 rfl rfl (by omega) (by omega)
      obtain ⟨v7, m7, υ7, c7, q7, _⟩ := q6.line hN n n rfl (by omega) (102 :: 111 :: 114 :: 32 :: (s ++ [32, 123])) (by simp; omega) (so5 (by omega))
      intro meth
      simp (disch := first | omega | (simp only [List.length_append, List.length_cons, List.length_nil]; omega) | rfl) [-Int.natCast_add, -strOp, add_short, fold_k, fold_0, -w52_9, -BitVec.toNat_or, -BitVec.toNat_ofInt, -BitVec.toNat_and, fieldAddr_of fa45_3, load_of ld3, bin_str u9 .add (Or.inl rfl), store_of sz3, buildSlice_of u43 bs48 rfl, fieldAddr_of fa45_2, load_of ld43, append_s u43 sz48, buildSlice_of u48 bs9 rfl, index_slice u43 sz48, load_of ld48, append_s u48 sz9, store_of sz48, build_arr u73 sz9 zo73, index_arr u73 sz9, part_one ld9, fieldAddr_of fa45_4, store_of sz43, c5, y0, c6, c7]
      exact w_sub (E := [(0, .pointer (some ⟨b, 0, none⟩)), (1, .int .i64 n), (2, .int .i64 (d + 1 : Nat)), (6, .string ⟨(118 :: dg).toArray⟩), (7, .slice (some ⟨wb, 0, none⟩) 7 7)]) (meth m7 υ7 q7) ⟨by rfl, by rfl, by rfl, by rfl, by rfl, trivial⟩
    · have y0' : ¬ (y : Int) = 0 := by omega
      obtain ⟨z, m6, υ6, c6, hz6, q6, _⟩ := q5.next hN 4 4 rfl (by omega) (by omega)
      have key : ∀ x : List UInt8, x.length ≤ 2 → ∃ (v7 : Value) (m7 : Mem) (υ7 : Ms), callw Tryd.prog TT S 20 [.pointer (some ⟨b, 0, none⟩), .int .i64 n, .string ⟨(102 :: 111 :: 114 :: 32 :: 118 :: (dg ++ 32 :: 60 :: 32 :: (x ++ [32, 123]))).toArray⟩] m6 = some (v7, m7) ∧ Cu m3 b { σ with names := σ.names + 1 } 20000 m7 υ7 := fun x hx => by
        obtain ⟨v7, m7, υ7, c7, q7, _⟩ := q6.line hN n n rfl (by omega) (102 :: 111 :: 114 :: 32 :: 118 :: (dg ++ 32 :: 60 :: 32 :: (x ++ [32, 123]))) (by simp; omega) (so5 (by omega))
        exact ⟨v7, m7, υ7, c7, q7⟩
      rcases (by omega : z = 0 ∨ z = 1 ∨ z = 2 ∨ z = 3) with rfl | rfl | rfl | rfl
      · obtain ⟨v7, m7, υ7, c7, q7⟩ := key [51] (by simp)
        simp only [List.append_assoc, List.cons_append, List.nil_append] at c7
        intro meth
        simp (disch := first | omega | (simp only [List.length_append, List.length_cons, List.length_nil]; omega) | rfl) [-Int.natCast_add, -strOp, add_short, fold_k, fold_0, -w52_9, -BitVec.toNat_or, -BitVec.toNat_ofInt, -BitVec.toNat_and, fieldAddr_of fa45_3, load_of ld3, bin_str u9 .add (Or.inl rfl), store_of sz3, buildSlice_of u43 bs48 rfl, fieldAddr_of fa45_2, load_of ld43, append_s u43 sz48, buildSlice_of u48 bs9 rfl, index_slice u43 sz48, load_of ld48, append_s u48 sz9, store_of sz48, build_arr u73 sz9 zo73, index_arr u73 sz9, part_one ld9, fieldAddr_of fa45_4, store_of sz43, c5, y0, y0', c6, c7]
        exact w_sub (E := [(0, .pointer (some ⟨b, 0, none⟩)), (1, .int .i64 n), (2, .int .i64 (d + 1 : Nat)), (6, .string ⟨(118 :: dg).toArray⟩), (7, .slice (some ⟨wb, 0, none⟩) 7 7)]) (meth m7 υ7 q7) ⟨by rfl, by rfl, by rfl, by rfl, by rfl, trivial⟩
      · obtain ⟨v7, m7, υ7, c7, q7⟩ := key [49, 48] (by simp)
        simp only [List.append_assoc, List.cons_append, List.nil_append] at c7
        intro meth
        simp (disch := first | omega | (simp only [List.length_append, List.length_cons, List.length_nil]; omega) | rfl) [-Int.natCast_add, -strOp, add_short, fold_k, fold_0, -w52_9, -BitVec.toNat_or, -BitVec.toNat_ofInt, -BitVec.toNat_and, fieldAddr_of fa45_3, load_of ld3, bin_str u9 .add (Or.inl rfl), store_of sz3, buildSlice_of u43 bs48 rfl, fieldAddr_of fa45_2, load_of ld43, append_s u43 sz48, buildSlice_of u48 bs9 rfl, index_slice u43 sz48, load_of ld48, append_s u48 sz9, store_of sz48, build_arr u73 sz9 zo73, index_arr u73 sz9, part_one ld9, fieldAddr_of fa45_4, store_of sz43, c5, y0, y0', c6, c7]
        exact w_sub (E := [(0, .pointer (some ⟨b, 0, none⟩)), (1, .int .i64 n), (2, .int .i64 (d + 1 : Nat)), (6, .string ⟨(118 :: dg).toArray⟩), (7, .slice (some ⟨wb, 0, none⟩) 7 7)]) (meth m7 υ7 q7) ⟨by rfl, by rfl, by rfl, by rfl, by rfl, trivial⟩
      · obtain ⟨v7, m7, υ7, c7, q7⟩ := key [50, 48] (by simp)
        simp only [List.append_assoc, List.cons_append, List.nil_append] at c7
        intro meth
        simp (disch := first | omega | (simp only [List.length_append, List.length_cons, List.length_nil]; omega) | rfl) [-Int.natCast_add, -strOp, add_short, fold_k, fold_0, -w52_9, -BitVec.toNat_or, -BitVec.toNat_ofInt, -BitVec.toNat_and, fieldAddr_of fa45_3, load_of ld3, bin_str u9 .add (Or.inl rfl), store_of sz3, buildSlice_of u43 bs48 rfl, fieldAddr_of fa45_2, load_of ld43, append_s u43 sz48, buildSlice_of u48 bs9 rfl, index_slice u43 sz48, load_of ld48, append_s u48 sz9, store_of sz48, build_arr u73 sz9 zo73, index_arr u73 sz9, part_one ld9, fieldAddr_of fa45_4, store_of sz43, c5, y0, y0', c6, c7]
        exact w_sub (E := [(0, .pointer (some ⟨b, 0, none⟩)), (1, .int .i64 n), (2, .int .i64 (d + 1 : Nat)), (6, .string ⟨(118 :: dg).toArray⟩), (7, .slice (some ⟨wb, 0, none⟩) 7 7)]) (meth m7 υ7 q7) ⟨by rfl, by rfl, by rfl, by rfl, by rfl, trivial⟩
      · obtain ⟨v7, m7, υ7, c7, q7⟩ := key [52, 48] (by simp)
        simp only [List.append_assoc, List.cons_append, List.nil_append] at c7
        intro meth
        simp (disch := first | omega | (simp only [List.length_append, List.length_cons, List.length_nil]; omega) | rfl) [-Int.natCast_add, -strOp, add_short, fold_k, fold_0, -w52_9, -BitVec.toNat_or, -BitVec.toNat_ofInt, -BitVec.toNat_and, fieldAddr_of fa45_3, load_of ld3, bin_str u9 .add (Or.inl rfl), store_of sz3, buildSlice_of u43 bs48 rfl, fieldAddr_of fa45_2, load_of ld43, append_s u43 sz48, buildSlice_of u48 bs9 rfl, index_slice u43 sz48, load_of ld48, append_s u48 sz9, store_of sz48, build_arr u73 sz9 zo73, index_arr u73 sz9, part_one ld9, fieldAddr_of fa45_4, store_of sz43, c5, y0, y0', c6, c7]
        exact w_sub (E := [(0, .pointer (some ⟨b, 0, none⟩)), (1, .int .i64 n), (2, .int .i64 (d + 1 : Nat)), (6, .string ⟨(118 :: dg).toArray⟩), (7, .slice (some ⟨wb, 0, none⟩) 7 7)]) (meth m7 υ7 q7) ⟨by rfl, by rfl, by rfl, by rfl, by rfl, trivial⟩
  clear c5 q5 hy5 q4
  intro m5 τ5 q5
  have wn : IntKind.i64.wrap ((n : Int) + 1) = ((n + 1 : Nat) : Int) := by rw [wrap_i64 (by omega) (by omega)]; omega
  obtain ⟨v6, m6, υ6, c6, q6, _⟩ := q5.line hN (n + 1) (n + 1 : Nat) rfl (by omega) (118 :: (dg ++ 32 :: 61 :: 32 :: 118 :: (dg ++ [32, 43, 32, 49]))) (by simp; omega) (so5 (by omega))
  have l6 := q6.m_.l.2.2.2.2.1
  have hlp : υ6.loops = σ.loops := q6.loops
  have hrs : υ6.res = σ.res := q6.res
  have hou : υ6.out.length ≤ σ.out.length + 30000 := q6.out
  have hlo := hy.loops
  have wl : IntKind.i64.wrap ((υ6.loops : Int) + 1) = ((υ6.loops + 1 : Nat) : Int) := by rw [wrap_i64 (by omega) (by omega)]; omega
  simp (disch := first | omega | (simp only [List.length_append, List.length_cons, List.length_nil]; omega) | rfl) [-Int.natCast_add, -strOp, add_short, fold_k, fold_0, -BitVec.toNat_or, -BitVec.toNat_ofInt, -BitVec.toNat_and, fieldAddr_of fa45_3, load_of ld3, bin_str u9 .add (Or.inl rfl), store_of sz3, buildSlice_of u43 bs48 rfl, fieldAddr_of fa45_2, load_of ld43, append_s u43 sz48, buildSlice_of u48 bs9 rfl, index_slice u43 sz48, load_of ld48, append_s u48 sz9, store_of sz48, build_arr u73 sz9 zo73, index_arr u73 sz9, part_one ld9, fieldAddr_of fa45_4, store_of sz43, wn, c6, l6, wl]
  generalize hrr : storeRow _ _ _ = rr
  obtain ⟨m7, rfl, o7, k7⟩ := store_own hrr q6.m_.own (by simp [Ms.cells]) (by simp [one_int])
  have h7 : Mk m7 b { υ6 with loops := υ6.loops + 1 } := q6.m_.set k7 (by simpa [Ms.cells, over] using o7) rfl rfl rfl rfl rfl rfl q6.m_.at_ q6.m_.names (by show υ6.loops + 1 ≤ 10; omega) (Nat.le_refl _)
  have hgt : Gt (d + 1) = 8 * Gt d + 100000 := rfl
  obtain ⟨v8, m8, υ8, c8, q8⟩ := st (n := n + 1) h7 ⟨by show υ6.loops + 1 + d ≤ 9; omega, by omega, by show υ6.res < 7; rw [hrs]; exact hy.res, by show υ6.out.length + _ ≤ _; omega⟩
  have wd : IntKind.i64.wrap (((d + 1 : Nat) : Int) - 1) = (d : Int) := by rw [wrap_i64 (by omega) (by omega)]; omega
  have l8 := q8.m_.l.2.2.2.2.1
  have e8 : υ8.loops = υ6.loops + 1 := q8.loops
  have w8 : IntKind.i64.wrap ((υ8.loops : Int) - 1) = (υ6.loops : Int) := by rw [wrap_i64 (by omega) (by omega)]; omega
  simp (disch := first | omega | (simp only [List.length_append, List.length_cons, List.length_nil]; omega) | rfl) [-Int.natCast_add, -strOp, add_short, fold_k, fold_0, -BitVec.toNat_or, -BitVec.toNat_ofInt, -BitVec.toNat_and, fieldAddr_of fa45_3, load_of ld3, bin_str u9 .add (Or.inl rfl), store_of sz3, buildSlice_of u43 bs48 rfl, fieldAddr_of fa45_2, load_of ld43, append_s u43 sz48, buildSlice_of u48 bs9 rfl, index_slice u43 sz48, load_of ld48, append_s u48 sz9, store_of sz48, build_arr u73 sz9 zo73, index_arr u73 sz9, part_one ld9, fieldAddr_of fa45_4, store_of sz43, wn, wd, c8, l8, w8]
  generalize hrr : storeRow _ _ _ = rr
  obtain ⟨m9, rfl, o9, k9⟩ := store_own hrr q8.m_.own (by simp [Ms.cells]) (by simp [one_int])
  have q9 := q6.inner k7 q8 k9 (by simpa [Ms.cells, over] using o9)
  obtain ⟨v10, m10, υ10, c10, q10, _⟩ := q9.line hN n n rfl (by omega) [125] (by simp) (by show σ.out.length + _ ≤ _; omega)
  simp (disch := first | omega | (simp only [List.length_append, List.length_cons, List.length_nil]; omega) | rfl) [-Int.natCast_add, -strOp, add_short, fold_k, fold_0, -BitVec.toNat_or, -BitVec.toNat_ofInt, -BitVec.toNat_and, fieldAddr_of fa45_3, load_of ld3, bin_str u9 .add (Or.inl rfl), store_of sz3, buildSlice_of u43 bs48 rfl, fieldAddr_of fa45_2, load_of ld43, append_s u43 sz48, buildSlice_of u48 bs9 rfl, index_slice u43 sz48, load_of ld48, append_s u48 sz9, store_of sz48, build_arr u73 sz9 zo73, index_arr u73 sz9, part_one ld9, fieldAddr_of fa45_4, store_of sz43, c10]
  generalize hrr : storeRow _ _ _ = rr
  obtain ⟨m11, rfl, o11, k11⟩ := store_own hrr q10.m_.own (by simp [Ms.cells]) (by simp [one_slice])
  simp (disch := first | omega | (simp only [List.length_append, List.length_cons, List.length_nil]; omega) | rfl) [-Int.natCast_add, -strOp, add_short, fold_k, fold_0, -BitVec.toNat_or, -BitVec.toNat_ofInt, -BitVec.toNat_and, fieldAddr_of fa45_3, load_of ld3, bin_str u9 .add (Or.inl rfl), store_of sz3, buildSlice_of u43 bs48 rfl, fieldAddr_of fa45_2, load_of ld43, append_s u43 sz48, buildSlice_of u48 bs9 rfl, index_slice u43 sz48, load_of ld48, append_s u48 sz9, store_of sz48, build_arr u73 sz9 zo73, index_arr u73 sz9, part_one ld9, fieldAddr_of fa45_4, store_of sz43]
  exact fin q10 k11 (by simpa [Ms.cells, over] using o11) (by omega)
end Go.Proofs.YtgomgdbapgibjaaDoor.base

