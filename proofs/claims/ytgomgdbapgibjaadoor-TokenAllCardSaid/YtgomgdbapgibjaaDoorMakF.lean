/-
  This text proves what the maker's stmt does over the abstract run, given what its stmts and loop do.
  Condition: nothing is known of its calls ahead ('S f = []').
-/
import Derived.Test.YtgomgdbapgibjaaDoorMakE
set_option maxRecDepth 100000
set_option linter.unusedSimpArgs false
set_option linter.unusedVariables false
namespace Go.Proofs.YtgomgdbapgibjaaDoor.base
open Go.Sh gen
variable {S : Sums} {m : Mem}
theorem Cu.declare {m0 m : Mem} {b g : Nat} {σ τ : Ms} (hN : Nm S) (h : Cu m0 b σ g m τ) (t : Nat) (T : Int) (hT : T = t) (ht : t < 7) (n : Nat) (hn : n ≤ 100) (hnm : τ.names ≤ 24) (s : List UInt8) (hs : s.length ≤ 8000) (ho : σ.out.length + g ≤ 900000000000) :
    ∃ (v : Value) (m1 : Mem) (υ : Ms), callw Tryd.prog TT S 50 [.pointer (some ⟨b, 0, none⟩), .int .i64 T, .int .i64 n, .string ⟨s.toArray⟩] m = some (v, m1) ∧ Cu m0 b σ (g + 10000) m1 υ := by
  subst hT
  have := h.out
  obtain ⟨v, m1, υ, c1, q1⟩ := mdeclare_run hN h.m_ ht hn hnm s hs (by omega)
  exact ⟨v, m1, υ, c1, h.trans q1⟩
theorem Cu.stmts {m0 m : Mem} {b g d n : Nat} {σ τ : Ms} (st : HSs S d) (h : Cu m0 b σ g m τ) (hy : Hy σ n (d + 1) (g + 4 * Gt d)) :
    ∃ (v : Value) (m1 : Mem) (υ : Ms), callw Tryd.prog TT S 34 [.pointer (some ⟨b, 0, none⟩), .int .i64 (n + 1 : Nat), .int .i64 d] m = some (v, m1) ∧ Cu m0 b σ (g + 4 * Gt d) m1 υ := by
  have h1 := h.out
  have h2 := hy.loops
  have h3 := hy.n
  have h4 := hy.out
  obtain ⟨v, m1, υ, c1, q1⟩ := st (n := n + 1) h.m_ ⟨by rw [h.loops]; omega, by omega, by rw [h.res]; exact hy.res, by omega⟩
  exact ⟨v, m1, υ, c1, h.trans q1⟩
theorem Cu.loop_ {m0 m : Mem} {b g d n : Nat} {σ τ : Ms} (lo : HLo S d) (h : Cu m0 b σ g m τ) (hg : g = 0) (hy : Hy σ n d (Gt d)) (hnm : τ.names ≤ 24) :
    ∃ (v : Value) (m1 : Mem) (υ : Ms), callw Tryd.prog TT S 52 [.pointer (some ⟨b, 0, none⟩), .int .i64 n, .int .i64 d] m = some (v, m1) ∧ Cu m0 b σ (Gt d) m1 υ := by
  subst hg
  have h1 := h.out
  have h4 := hy.out
  obtain ⟨v, m1, υ, c1, q1⟩ := lo (n := n) h.m_ ⟨by rw [h.loops]; exact hy.loops, hy.n, by rw [h.res]; exact hy.res, by omega⟩ hnm
  exact ⟨v, m1, υ, c1, (h.trans q1).mono (by omega)⟩
set_option maxHeartbeats 8000000 in
theorem mstmt_run (hN : Nm S) (d : Nat) (hd : d ≤ 8) (lo : HLo S d) (st : ∀ e, d = e + 1 → HSs S e) : HSt S d := by
  intro m b n σ h hy
  suffices hh : ∃ v m1, callw Tryd.prog TT S 45 [.pointer (some ⟨b, 0, none⟩), .int .i64 n, .int .i64 d] m = some (v, m1) ∧ ∃ υ, Cu m b σ (Gt d) m1 υ by
    obtain ⟨v, m1, h1, υ, h2⟩ := hh
    exact ⟨v, m1, υ, h1, h2⟩
  refine fn_w 208 [217, 228, 239, 250, 261, 266] k45 hN.stmt rfl ?_
  have q0 := Cu.refl h
  have lsz := h.l.2.2.2.2.2.1
  have lnm := h.l.2.2.2.1
  have hyn := hy.n
  have hyo := hy.out
  have hG : 100000 ≤ Gt d := by cases d <;> simp [Gt]
  have wn : IntKind.i64.wrap ((n : Int) + 1) = ((n + 1 : Nat) : Int) := by rw [wrap_i64 (by omega) (by omega)]; omega
  by_cases hz : 70 < σ.size
  · obtain ⟨s1, m1, υ1, c1, hs1, q1, _⟩ := q0.leaf hN 0 0 rfl (by omega)
    obtain ⟨v2, m2, υ2, c2, q2, _⟩ := q1.line hN n n rfl (by omega) (112 :: 114 :: 105 :: 110 :: 116 :: 40 :: (s1 ++ [41])) (by simp; omega) (by omega)
    simp (disch := first | omega | (simp only [List.length_append, List.length_cons, List.length_nil]; omega) | rfl) [-Int.natCast_add, -strOp, add_short, fold_k, fold_0, fieldAddr_of fa45_5, load_of ld3, fieldAddr_of fa45_3, bin_str u9 .add (Or.inl rfl), fieldAddr_of fa45_8, load_of ld4, fieldAddr_of fa45_4, build_arr u71 sz9 zo71, index_arr u71 sz9, part_one ld9, fieldAddr_of fa45_7, lsz, lnm, hz, c1, c2]
    exact ⟨_, q2.mono (by omega)⟩
  by_cases hz2 : 24 < σ.names
  · have hz2' : (24 : Int) < σ.names := by omega
    obtain ⟨s1, m1, υ1, c1, hs1, q1, _⟩ := q0.leaf hN 0 0 rfl (by omega)
    obtain ⟨v2, m2, υ2, c2, q2, _⟩ := q1.line hN n n rfl (by omega) (112 :: 114 :: 105 :: 110 :: 116 :: 40 :: (s1 ++ [41])) (by simp; omega) (by omega)
    simp (disch := first | omega | (simp only [List.length_append, List.length_cons, List.length_nil]; omega) | rfl) [-Int.natCast_add, -strOp, add_short, fold_k, fold_0, fieldAddr_of fa45_5, load_of ld3, fieldAddr_of fa45_3, bin_str u9 .add (Or.inl rfl), fieldAddr_of fa45_8, load_of ld4, fieldAddr_of fa45_4, build_arr u71 sz9 zo71, index_arr u71 sz9, part_one ld9, fieldAddr_of fa45_7, lsz, lnm, hz, hz2, hz2', c1, c2]
    exact ⟨_, q2.mono (by omega)⟩
  have hz2' : ¬ (24 : Int) < σ.names := by omega
  obtain ⟨y, m1, υ1, c1, hy1, q1, n1⟩ := q0.next hN 15 15 rfl (by omega) (by omega)
  rcases (by omega : y = 0 ∨ y = 1 ∨ y = 2 ∨ y = 3 ∨ y = 4 ∨ y = 5 ∨ y = 6 ∨ y = 7 ∨ y = 8 ∨ y = 9 ∨ y = 10 ∨ y = 11 ∨ y = 12 ∨ y = 13 ∨ y = 14) with rfl | rfl | rfl | rfl | rfl | rfl | rfl | rfl | rfl | rfl | rfl | rfl | rfl | rfl | rfl
  ·
    obtain ⟨x2, m2, υ2, c2, h2, q2, n2⟩ := q1.next hN 7 7 rfl (by omega) (by omega)
    obtain ⟨s, m3, υ3, c3, h3, q3, n3⟩ := q2.expr hN x2 2 x2 2 rfl rfl (by omega) (by omega)
    obtain ⟨v4, m4, υ4, c4, q4⟩ := q3.declare hN x2 x2 rfl (by omega) n (by omega) (by omega) s (by omega) (by omega)
    simp (disch := first | omega | (simp only [List.length_append, List.length_cons, List.length_nil]; omega) | rfl) [-Int.natCast_add, -strOp, add_short, fold_k, fold_0, fieldAddr_of fa45_5, load_of ld3, fieldAddr_of fa45_3, bin_str u9 .add (Or.inl rfl), fieldAddr_of fa45_8, load_of ld4, fieldAddr_of fa45_4, build_arr u71 sz9 zo71, index_arr u71 sz9, part_one ld9, fieldAddr_of fa45_7, lsz, lnm, hz, hz2, hz2', c1, c2, c3, c4]
    exact ⟨_, q4.mono (by omega)⟩
  ·
    obtain ⟨x2, m2, υ2, c2, h2, q2, n2⟩ := q1.next hN 7 7 rfl (by omega) (by omega)
    obtain ⟨s, m3, υ3, c3, h3, q3, n3⟩ := q2.expr hN x2 2 x2 2 rfl rfl (by omega) (by omega)
    obtain ⟨v4, m4, υ4, c4, q4⟩ := q3.declare hN x2 x2 rfl (by omega) n (by omega) (by omega) s (by omega) (by omega)
    simp (disch := first | omega | (simp only [List.length_append, List.length_cons, List.length_nil]; omega) | rfl) [-Int.natCast_add, -strOp, add_short, fold_k, fold_0, fieldAddr_of fa45_5, load_of ld3, fieldAddr_of fa45_3, bin_str u9 .add (Or.inl rfl), fieldAddr_of fa45_8, load_of ld4, fieldAddr_of fa45_4, build_arr u71 sz9 zo71, index_arr u71 sz9, part_one ld9, fieldAddr_of fa45_7, lsz, lnm, hz, hz2, hz2', c1, c2, c3, c4]
    exact ⟨_, q4.mono (by omega)⟩
  ·
    obtain ⟨u, m2, υ2, c2, h2, q2, n2⟩ := q1.var hN 0 0 rfl (by omega)
    rcases Classical.em (u = []) with z2 | z2
    ·
      simp (disch := first | omega | (simp only [List.length_append, List.length_cons, List.length_nil]; omega) | rfl) [-Int.natCast_add, -strOp, add_short, fold_k, fold_0, fieldAddr_of fa45_5, load_of ld3, fieldAddr_of fa45_3, bin_str u9 .add (Or.inl rfl), fieldAddr_of fa45_8, load_of ld4, fieldAddr_of fa45_4, build_arr u71 sz9 zo71, index_arr u71 sz9, part_one ld9, fieldAddr_of fa45_7, lsz, lnm, hz, hz2, hz2', c1, c2, z2]
      exact ⟨_, q2.mono (by omega)⟩
    ·
      have e2 : u.isEmpty = false := by simpa using z2
      obtain ⟨s, m3, υ3, c3, h3, q3, n3⟩ := q2.expr hN 0 3 0 3 rfl rfl (by omega) (by omega)
      obtain ⟨v4, m4, υ4, c4, q4, n4⟩ := q3.line hN n n rfl (by omega) ((u ++ (32 :: 61 :: 32 :: s))) (by first | omega | (simp only [List.length_append, List.length_cons, List.length_nil]; omega)) (by omega)
      replace n4 := n4.1
      simp (disch := first | omega | (simp only [List.length_append, List.length_cons, List.length_nil]; omega) | rfl) [-Int.natCast_add, -strOp, add_short, fold_k, fold_0, fieldAddr_of fa45_5, load_of ld3, fieldAddr_of fa45_3, bin_str u9 .add (Or.inl rfl), fieldAddr_of fa45_8, load_of ld4, fieldAddr_of fa45_4, build_arr u71 sz9 zo71, index_arr u71 sz9, part_one ld9, fieldAddr_of fa45_7, lsz, lnm, hz, hz2, hz2', c1, c2, z2, e2, c3, c4]
      exact ⟨_, q4.mono (by omega)⟩
  ·
    obtain ⟨u, m2, υ2, c2, h2, q2, n2⟩ := q1.var hN 0 0 rfl (by omega)
    rcases Classical.em (u = []) with z2 | z2
    ·
      simp (disch := first | omega | (simp only [List.length_append, List.length_cons, List.length_nil]; omega) | rfl) [-Int.natCast_add, -strOp, add_short, fold_k, fold_0, fieldAddr_of fa45_5, load_of ld3, fieldAddr_of fa45_3, bin_str u9 .add (Or.inl rfl), fieldAddr_of fa45_8, load_of ld4, fieldAddr_of fa45_4, build_arr u71 sz9 zo71, index_arr u71 sz9, part_one ld9, fieldAddr_of fa45_7, lsz, lnm, hz, hz2, hz2', c1, c2, z2]
      exact ⟨_, q2.mono (by omega)⟩
    ·
      have e2 : u.isEmpty = false := by simpa using z2
      obtain ⟨s, m3, υ3, c3, h3, q3, n3⟩ := q2.expr hN 0 3 0 3 rfl rfl (by omega) (by omega)
      obtain ⟨v4, m4, υ4, c4, q4, n4⟩ := q3.line hN n n rfl (by omega) ((u ++ (32 :: 61 :: 32 :: s))) (by first | omega | (simp only [List.length_append, List.length_cons, List.length_nil]; omega)) (by omega)
      replace n4 := n4.1
      simp (disch := first | omega | (simp only [List.length_append, List.length_cons, List.length_nil]; omega) | rfl) [-Int.natCast_add, -strOp, add_short, fold_k, fold_0, fieldAddr_of fa45_5, load_of ld3, fieldAddr_of fa45_3, bin_str u9 .add (Or.inl rfl), fieldAddr_of fa45_8, load_of ld4, fieldAddr_of fa45_4, build_arr u71 sz9 zo71, index_arr u71 sz9, part_one ld9, fieldAddr_of fa45_7, lsz, lnm, hz, hz2, hz2', c1, c2, z2, e2, c3, c4]
      exact ⟨_, q4.mono (by omega)⟩
  ·
    obtain ⟨u, m2, υ2, c2, h2, q2, n2⟩ := q1.var hN 0 0 rfl (by omega)
    rcases Classical.em (u = []) with z2 | z2
    ·
      simp (disch := first | omega | (simp only [List.length_append, List.length_cons, List.length_nil]; omega) | rfl) [-Int.natCast_add, -strOp, add_short, fold_k, fold_0, fieldAddr_of fa45_5, load_of ld3, fieldAddr_of fa45_3, bin_str u9 .add (Or.inl rfl), fieldAddr_of fa45_8, load_of ld4, fieldAddr_of fa45_4, build_arr u71 sz9 zo71, index_arr u71 sz9, part_one ld9, fieldAddr_of fa45_7, lsz, lnm, hz, hz2, hz2', c1, c2, z2]
      exact ⟨_, q2.mono (by omega)⟩
    ·
      have e2 : u.isEmpty = false := by simpa using z2
      obtain ⟨s, m3, υ3, c3, h3, q3, n3⟩ := q2.expr hN 0 3 0 3 rfl rfl (by omega) (by omega)
      obtain ⟨v4, m4, υ4, c4, q4, n4⟩ := q3.line hN n n rfl (by omega) ((u ++ (32 :: 61 :: 32 :: s))) (by first | omega | (simp only [List.length_append, List.length_cons, List.length_nil]; omega)) (by omega)
      replace n4 := n4.1
      simp (disch := first | omega | (simp only [List.length_append, List.length_cons, List.length_nil]; omega) | rfl) [-Int.natCast_add, -strOp, add_short, fold_k, fold_0, fieldAddr_of fa45_5, load_of ld3, fieldAddr_of fa45_3, bin_str u9 .add (Or.inl rfl), fieldAddr_of fa45_8, load_of ld4, fieldAddr_of fa45_4, build_arr u71 sz9 zo71, index_arr u71 sz9, part_one ld9, fieldAddr_of fa45_7, lsz, lnm, hz, hz2, hz2', c1, c2, z2, e2, c3, c4]
      exact ⟨_, q4.mono (by omega)⟩
  ·
    obtain ⟨u, m2, υ2, c2, h2, q2, n2⟩ := q1.var hN 1 1 rfl (by omega)
    rcases Classical.em (u = []) with z2 | z2
    ·
      simp (disch := first | omega | (simp only [List.length_append, List.length_cons, List.length_nil]; omega) | rfl) [-Int.natCast_add, -strOp, add_short, fold_k, fold_0, fieldAddr_of fa45_5, load_of ld3, fieldAddr_of fa45_3, bin_str u9 .add (Or.inl rfl), fieldAddr_of fa45_8, load_of ld4, fieldAddr_of fa45_4, build_arr u71 sz9 zo71, index_arr u71 sz9, part_one ld9, fieldAddr_of fa45_7, lsz, lnm, hz, hz2, hz2', c1, c2, z2]
      exact ⟨_, q2.mono (by omega)⟩
    ·
      have e2 : u.isEmpty = false := by simpa using z2
      obtain ⟨s, m3, υ3, c3, h3, q3, n3⟩ := q2.expr hN 1 2 1 2 rfl rfl (by omega) (by omega)
      obtain ⟨v4, m4, υ4, c4, q4, n4⟩ := q3.line hN n n rfl (by omega) ((u ++ (32 :: 61 :: 32 :: s))) (by first | omega | (simp only [List.length_append, List.length_cons, List.length_nil]; omega)) (by omega)
      replace n4 := n4.1
      simp (disch := first | omega | (simp only [List.length_append, List.length_cons, List.length_nil]; omega) | rfl) [-Int.natCast_add, -strOp, add_short, fold_k, fold_0, fieldAddr_of fa45_5, load_of ld3, fieldAddr_of fa45_3, bin_str u9 .add (Or.inl rfl), fieldAddr_of fa45_8, load_of ld4, fieldAddr_of fa45_4, build_arr u71 sz9 zo71, index_arr u71 sz9, part_one ld9, fieldAddr_of fa45_7, lsz, lnm, hz, hz2, hz2', c1, c2, z2, e2, c3, c4]
      exact ⟨_, q4.mono (by omega)⟩
  ·
    obtain ⟨x2, m2, υ2, c2, h2, q2, n2⟩ := q1.next hN 3 3 rfl (by omega) (by omega)
    obtain ⟨s, m3, υ3, c3, h3, q3, n3⟩ := q2.expr hN x2 2 x2 2 rfl rfl (by omega) (by omega)
    obtain ⟨v4, m4, υ4, c4, q4, n4⟩ := q3.line hN n n rfl (by omega) (112 :: 114 :: 105 :: 110 :: 116 :: 40 :: (s ++ [41])) (by first | omega | (simp only [List.length_append, List.length_cons, List.length_nil]; omega)) (by omega)
    replace n4 := n4.1
    simp (disch := first | omega | (simp only [List.length_append, List.length_cons, List.length_nil]; omega) | rfl) [-Int.natCast_add, -strOp, add_short, fold_k, fold_0, fieldAddr_of fa45_5, load_of ld3, fieldAddr_of fa45_3, bin_str u9 .add (Or.inl rfl), fieldAddr_of fa45_8, load_of ld4, fieldAddr_of fa45_4, build_arr u71 sz9 zo71, index_arr u71 sz9, part_one ld9, fieldAddr_of fa45_7, lsz, lnm, hz, hz2, hz2', c1, c2, c3, c4]
    exact ⟨_, q4.mono (by omega)⟩
  ·
    cases d with
    | zero =>
      simp (disch := first | omega | (simp only [List.length_append, List.length_cons, List.length_nil]; omega) | rfl) [-Int.natCast_add, -strOp, add_short, fold_k, fold_0, fieldAddr_of fa45_5, load_of ld3, fieldAddr_of fa45_3, bin_str u9 .add (Or.inl rfl), fieldAddr_of fa45_8, load_of ld4, fieldAddr_of fa45_4, build_arr u71 sz9 zo71, index_arr u71 sz9, part_one ld9, fieldAddr_of fa45_7, lsz, lnm, hz, hz2, hz2', c1]
      exact ⟨_, q1.mono (by omega)⟩
    | succ d =>
      have hGd : Gt (d + 1) = 8 * Gt d + 100000 := rfl
      have d0 : ¬ ((d + 1 : Nat) : Int) ≤ 0 := by omega
      have wd : IntKind.i64.wrap (((d + 1 : Nat) : Int) - 1) = (d : Int) := by rw [wrap_i64 (by omega) (by omega)]; omega
      obtain ⟨s, m2, υ2, c2, h2, q2, n2⟩ := q1.expr hN 1 2 1 2 rfl rfl (by omega) (by omega)
      obtain ⟨v3, m3, υ3, c3, q3, n3⟩ := q2.line hN n n rfl (by omega) (105 :: 102 :: 32 :: (s ++ [32, 123])) (by first | omega | (simp only [List.length_append, List.length_cons, List.length_nil]; omega)) (by omega)
      replace n3 := n3.1
      obtain ⟨v4, m4, υ4, c4, q4⟩ := q3.stmts (st d rfl) (n := n) ⟨hy.loops, hy.n, hy.res, by omega⟩
      obtain ⟨x5, m5, υ5, c5, h5, q5, n5⟩ := q4.next hN 2 2 rfl (by omega) (by omega)
      rcases (by omega : x5 = 0 ∨ x5 = 1) with rfl | rfl
      ·
        obtain ⟨v6, m6, υ6, c6, q6, n6⟩ := q5.line hN n n rfl (by omega) ([125, 32, 101, 108, 115, 101, 32, 123]) (by first | omega | (simp only [List.length_append, List.length_cons, List.length_nil]; omega)) (by omega)
        replace n6 := n6.1
        obtain ⟨v7, m7, υ7, c7, q7⟩ := q6.stmts (st d rfl) (n := n) ⟨hy.loops, hy.n, hy.res, by omega⟩
        obtain ⟨v8, m8, υ8, c8, q8, n8⟩ := q7.line hN n n rfl (by omega) ([125]) (by first | omega | (simp only [List.length_append, List.length_cons, List.length_nil]; omega)) (by omega)
        replace n8 := n8.1
        simp (disch := first | omega | (simp only [List.length_append, List.length_cons, List.length_nil]; omega) | rfl) [-Int.natCast_add, -strOp, add_short, fold_k, fold_0, fieldAddr_of fa45_5, load_of ld3, fieldAddr_of fa45_3, bin_str u9 .add (Or.inl rfl), fieldAddr_of fa45_8, load_of ld4, fieldAddr_of fa45_4, build_arr u71 sz9 zo71, index_arr u71 sz9, part_one ld9, fieldAddr_of fa45_7, lsz, lnm, hz, hz2, hz2', c1, d0, wd, wn, c2, c3, c4, c5, c6, c7, c8]
        exact ⟨_, q8.mono (by omega)⟩
      ·
        obtain ⟨v6, m6, υ6, c6, q6, n6⟩ := q5.line hN n n rfl (by omega) ([125]) (by first | omega | (simp only [List.length_append, List.length_cons, List.length_nil]; omega)) (by omega)
        replace n6 := n6.1
        simp (disch := first | omega | (simp only [List.length_append, List.length_cons, List.length_nil]; omega) | rfl) [-Int.natCast_add, -strOp, add_short, fold_k, fold_0, fieldAddr_of fa45_5, load_of ld3, fieldAddr_of fa45_3, bin_str u9 .add (Or.inl rfl), fieldAddr_of fa45_8, load_of ld4, fieldAddr_of fa45_4, build_arr u71 sz9 zo71, index_arr u71 sz9, part_one ld9, fieldAddr_of fa45_7, lsz, lnm, hz, hz2, hz2', c1, d0, wd, wn, c2, c3, c4, c5, c6]
        exact ⟨_, q6.mono (by omega)⟩
  ·
    cases d with
    | zero =>
      simp (disch := first | omega | (simp only [List.length_append, List.length_cons, List.length_nil]; omega) | rfl) [-Int.natCast_add, -strOp, add_short, fold_k, fold_0, fieldAddr_of fa45_5, load_of ld3, fieldAddr_of fa45_3, bin_str u9 .add (Or.inl rfl), fieldAddr_of fa45_8, load_of ld4, fieldAddr_of fa45_4, build_arr u71 sz9 zo71, index_arr u71 sz9, part_one ld9, fieldAddr_of fa45_7, lsz, lnm, hz, hz2, hz2', c1]
      exact ⟨_, q1.mono (by omega)⟩
    | succ d =>
      have hGd : Gt (d + 1) = 8 * Gt d + 100000 := rfl
      have d0 : ¬ ((d + 1 : Nat) : Int) ≤ 0 := by omega
      have wd : IntKind.i64.wrap (((d + 1 : Nat) : Int) - 1) = (d : Int) := by rw [wrap_i64 (by omega) (by omega)]; omega
      obtain ⟨s, m2, υ2, c2, h2, q2, n2⟩ := q1.expr hN 1 2 1 2 rfl rfl (by omega) (by omega)
      obtain ⟨v3, m3, υ3, c3, q3, n3⟩ := q2.line hN n n rfl (by omega) (105 :: 102 :: 32 :: (s ++ [32, 123])) (by first | omega | (simp only [List.length_append, List.length_cons, List.length_nil]; omega)) (by omega)
      replace n3 := n3.1
      obtain ⟨v4, m4, υ4, c4, q4⟩ := q3.stmts (st d rfl) (n := n) ⟨hy.loops, hy.n, hy.res, by omega⟩
      obtain ⟨x5, m5, υ5, c5, h5, q5, n5⟩ := q4.next hN 2 2 rfl (by omega) (by omega)
      rcases (by omega : x5 = 0 ∨ x5 = 1) with rfl | rfl
      ·
        obtain ⟨v6, m6, υ6, c6, q6, n6⟩ := q5.line hN n n rfl (by omega) ([125, 32, 101, 108, 115, 101, 32, 123]) (by first | omega | (simp only [List.length_append, List.length_cons, List.length_nil]; omega)) (by omega)
        replace n6 := n6.1
        obtain ⟨v7, m7, υ7, c7, q7⟩ := q6.stmts (st d rfl) (n := n) ⟨hy.loops, hy.n, hy.res, by omega⟩
        obtain ⟨v8, m8, υ8, c8, q8, n8⟩ := q7.line hN n n rfl (by omega) ([125]) (by first | omega | (simp only [List.length_append, List.length_cons, List.length_nil]; omega)) (by omega)
        replace n8 := n8.1
        simp (disch := first | omega | (simp only [List.length_append, List.length_cons, List.length_nil]; omega) | rfl) [-Int.natCast_add, -strOp, add_short, fold_k, fold_0, fieldAddr_of fa45_5, load_of ld3, fieldAddr_of fa45_3, bin_str u9 .add (Or.inl rfl), fieldAddr_of fa45_8, load_of ld4, fieldAddr_of fa45_4, build_arr u71 sz9 zo71, index_arr u71 sz9, part_one ld9, fieldAddr_of fa45_7, lsz, lnm, hz, hz2, hz2', c1, d0, wd, wn, c2, c3, c4, c5, c6, c7, c8]
        exact ⟨_, q8.mono (by omega)⟩
      ·
        obtain ⟨v6, m6, υ6, c6, q6, n6⟩ := q5.line hN n n rfl (by omega) ([125]) (by first | omega | (simp only [List.length_append, List.length_cons, List.length_nil]; omega)) (by omega)
        replace n6 := n6.1
        simp (disch := first | omega | (simp only [List.length_append, List.length_cons, List.length_nil]; omega) | rfl) [-Int.natCast_add, -strOp, add_short, fold_k, fold_0, fieldAddr_of fa45_5, load_of ld3, fieldAddr_of fa45_3, bin_str u9 .add (Or.inl rfl), fieldAddr_of fa45_8, load_of ld4, fieldAddr_of fa45_4, build_arr u71 sz9 zo71, index_arr u71 sz9, part_one ld9, fieldAddr_of fa45_7, lsz, lnm, hz, hz2, hz2', c1, d0, wd, wn, c2, c3, c4, c5, c6]
        exact ⟨_, q6.mono (by omega)⟩
  ·
    obtain ⟨v2, m2, υ2, c2, q2⟩ := q1.loop_ lo rfl hy (by omega)
    simp (disch := first | omega | (simp only [List.length_append, List.length_cons, List.length_nil]; omega) | rfl) [-Int.natCast_add, -strOp, add_short, fold_k, fold_0, fieldAddr_of fa45_5, load_of ld3, fieldAddr_of fa45_3, bin_str u9 .add (Or.inl rfl), fieldAddr_of fa45_8, load_of ld4, fieldAddr_of fa45_4, build_arr u71 sz9 zo71, index_arr u71 sz9, part_one ld9, fieldAddr_of fa45_7, lsz, lnm, hz, hz2, hz2', c1, c2]
    exact ⟨_, q2.mono (by omega)⟩
  ·
    obtain ⟨v2, m2, υ2, c2, q2⟩ := q1.loop_ lo rfl hy (by omega)
    simp (disch := first | omega | (simp only [List.length_append, List.length_cons, List.length_nil]; omega) | rfl) [-Int.natCast_add, -strOp, add_short, fold_k, fold_0, fieldAddr_of fa45_5, load_of ld3, fieldAddr_of fa45_3, bin_str u9 .add (Or.inl rfl), fieldAddr_of fa45_8, load_of ld4, fieldAddr_of fa45_4, build_arr u71 sz9 zo71, index_arr u71 sz9, part_one ld9, fieldAddr_of fa45_7, lsz, lnm, hz, hz2, hz2', c1, c2]
    exact ⟨_, q2.mono (by omega)⟩
  ·
    obtain ⟨s, m2, υ2, c2, h2, q2, n2⟩ := q1.expr hN 3 1 3 1 rfl rfl (by omega) (by omega)
    obtain ⟨t, m3, υ3, c3, h3, q3, n3⟩ := q2.expr hN 0 2 0 2 rfl rfl (by omega) (by omega)
    obtain ⟨u, m4, υ4, c4, h4, q4, n4⟩ := q3.expr hN 0 2 0 2 rfl rfl (by omega) (by omega)
    obtain ⟨v5, m5, υ5, c5, q5, n5⟩ := q4.line hN n n rfl (by omega) ((s ++ (91 :: (t ++ (93 :: 32 :: 61 :: 32 :: u))))) (by first | omega | (simp only [List.length_append, List.length_cons, List.length_nil]; omega)) (by omega)
    replace n5 := n5.1
    simp (disch := first | omega | (simp only [List.length_append, List.length_cons, List.length_nil]; omega) | rfl) [-Int.natCast_add, -strOp, add_short, fold_k, fold_0, fieldAddr_of fa45_5, load_of ld3, fieldAddr_of fa45_3, bin_str u9 .add (Or.inl rfl), fieldAddr_of fa45_8, load_of ld4, fieldAddr_of fa45_4, build_arr u71 sz9 zo71, index_arr u71 sz9, part_one ld9, fieldAddr_of fa45_7, lsz, lnm, hz, hz2, hz2', c1, c2, c3, c4, c5]
    exact ⟨_, q5.mono (by omega)⟩
  ·
    obtain ⟨x2, m2, υ2, c2, h2, q2, n2⟩ := q1.next hN 5 5 rfl (by omega) (by omega)
    rcases (by omega : x2 = 0 ∨ x2 = 1 ∨ x2 = 2 ∨ x2 = 3 ∨ x2 = 4) with rfl | rfl | rfl | rfl | rfl
    ·
      obtain ⟨s, m3, υ3, c3, h3, q3, n3⟩ := q2.expr hN 4 1 4 1 rfl rfl (by omega) (by omega)
      obtain ⟨t, m4, υ4, c4, h4, q4, n4⟩ := q3.expr hN 0 2 0 2 rfl rfl (by omega) (by omega)
      obtain ⟨v5, m5, υ5, c5, q5, n5⟩ := q4.line hN n n rfl (by omega) ((s ++ (46 :: 97 :: 32 :: 61 :: 32 :: t))) (by first | omega | (simp only [List.length_append, List.length_cons, List.length_nil]; omega)) (by omega)
      replace n5 := n5.1
      simp (disch := first | omega | (simp only [List.length_append, List.length_cons, List.length_nil]; omega) | rfl) [-Int.natCast_add, -strOp, add_short, fold_k, fold_0, fieldAddr_of fa45_5, load_of ld3, fieldAddr_of fa45_3, bin_str u9 .add (Or.inl rfl), fieldAddr_of fa45_8, load_of ld4, fieldAddr_of fa45_4, build_arr u71 sz9 zo71, index_arr u71 sz9, part_one ld9, fieldAddr_of fa45_7, lsz, lnm, hz, hz2, hz2', c1, c2, c3, c4, c5]
      exact ⟨_, q5.mono (by omega)⟩
    ·
      obtain ⟨s, m3, υ3, c3, h3, q3, n3⟩ := q2.expr hN 4 1 4 1 rfl rfl (by omega) (by omega)
      obtain ⟨t, m4, υ4, c4, h4, q4, n4⟩ := q3.expr hN 4 1 4 1 rfl rfl (by omega) (by omega)
      obtain ⟨v5, m5, υ5, c5, q5, n5⟩ := q4.line hN n n rfl (by omega) ((s ++ (46 :: 110 :: 32 :: 61 :: 32 :: t))) (by first | omega | (simp only [List.length_append, List.length_cons, List.length_nil]; omega)) (by omega)
      replace n5 := n5.1
      simp (disch := first | omega | (simp only [List.length_append, List.length_cons, List.length_nil]; omega) | rfl) [-Int.natCast_add, -strOp, add_short, fold_k, fold_0, fieldAddr_of fa45_5, load_of ld3, fieldAddr_of fa45_3, bin_str u9 .add (Or.inl rfl), fieldAddr_of fa45_8, load_of ld4, fieldAddr_of fa45_4, build_arr u71 sz9 zo71, index_arr u71 sz9, part_one ld9, fieldAddr_of fa45_7, lsz, lnm, hz, hz2, hz2', c1, c2, c3, c4, c5]
      exact ⟨_, q5.mono (by omega)⟩
    ·
      obtain ⟨s, m3, υ3, c3, h3, q3, n3⟩ := q2.expr hN 4 1 4 1 rfl rfl (by omega) (by omega)
      obtain ⟨t, m4, υ4, c4, h4, q4, n4⟩ := q3.expr hN 6 1 6 1 rfl rfl (by omega) (by omega)
      obtain ⟨v5, m5, υ5, c5, q5, n5⟩ := q4.line hN n n rfl (by omega) ((s ++ (46 :: 105 :: 32 :: 61 :: 32 :: t))) (by first | omega | (simp only [List.length_append, List.length_cons, List.length_nil]; omega)) (by omega)
      replace n5 := n5.1
      simp (disch := first | omega | (simp only [List.length_append, List.length_cons, List.length_nil]; omega) | rfl) [-Int.natCast_add, -strOp, add_short, fold_k, fold_0, fieldAddr_of fa45_5, load_of ld3, fieldAddr_of fa45_3, bin_str u9 .add (Or.inl rfl), fieldAddr_of fa45_8, load_of ld4, fieldAddr_of fa45_4, build_arr u71 sz9 zo71, index_arr u71 sz9, part_one ld9, fieldAddr_of fa45_7, lsz, lnm, hz, hz2, hz2', c1, c2, c3, c4, c5]
      exact ⟨_, q5.mono (by omega)⟩
    ·
      obtain ⟨s, m3, υ3, c3, h3, q3, n3⟩ := q2.expr hN 5 1 5 1 rfl rfl (by omega) (by omega)
      obtain ⟨t, m4, υ4, c4, h4, q4, n4⟩ := q3.expr hN 3 1 3 1 rfl rfl (by omega) (by omega)
      obtain ⟨v5, m5, υ5, c5, q5, n5⟩ := q4.line hN n n rfl (by omega) ((s ++ (46 :: 115 :: 32 :: 61 :: 32 :: t))) (by first | omega | (simp only [List.length_append, List.length_cons, List.length_nil]; omega)) (by omega)
      replace n5 := n5.1
      simp (disch := first | omega | (simp only [List.length_append, List.length_cons, List.length_nil]; omega) | rfl) [-Int.natCast_add, -strOp, add_short, fold_k, fold_0, fieldAddr_of fa45_5, load_of ld3, fieldAddr_of fa45_3, bin_str u9 .add (Or.inl rfl), fieldAddr_of fa45_8, load_of ld4, fieldAddr_of fa45_4, build_arr u71 sz9 zo71, index_arr u71 sz9, part_one ld9, fieldAddr_of fa45_7, lsz, lnm, hz, hz2, hz2', c1, c2, c3, c4, c5]
      exact ⟨_, q5.mono (by omega)⟩
    ·
      obtain ⟨s, m3, υ3, c3, h3, q3, n3⟩ := q2.expr hN 5 1 5 1 rfl rfl (by omega) (by omega)
      obtain ⟨t, m4, υ4, c4, h4, q4, n4⟩ := q3.expr hN 0 2 0 2 rfl rfl (by omega) (by omega)
      obtain ⟨v5, m5, υ5, c5, q5, n5⟩ := q4.line hN n n rfl (by omega) ((s ++ (46 :: 120 :: 32 :: 61 :: 32 :: t))) (by first | omega | (simp only [List.length_append, List.length_cons, List.length_nil]; omega)) (by omega)
      replace n5 := n5.1
      simp (disch := first | omega | (simp only [List.length_append, List.length_cons, List.length_nil]; omega) | rfl) [-Int.natCast_add, -strOp, add_short, fold_k, fold_0, fieldAddr_of fa45_5, load_of ld3, fieldAddr_of fa45_3, bin_str u9 .add (Or.inl rfl), fieldAddr_of fa45_8, load_of ld4, fieldAddr_of fa45_4, build_arr u71 sz9 zo71, index_arr u71 sz9, part_one ld9, fieldAddr_of fa45_7, lsz, lnm, hz, hz2, hz2', c1, c2, c3, c4, c5]
      exact ⟨_, q5.mono (by omega)⟩
  ·
    have lc := q1.m_.l.2.2.2.2.2.2.2.2
    cases hca : υ1.calls with
    | false =>
      rw [hca] at lc
      simp (disch := first | omega | (simp only [List.length_append, List.length_cons, List.length_nil]; omega) | rfl) [-Int.natCast_add, -strOp, add_short, fold_k, fold_0, fieldAddr_of fa45_5, load_of ld3, fieldAddr_of fa45_3, bin_str u9 .add (Or.inl rfl), fieldAddr_of fa45_8, load_of ld4, fieldAddr_of fa45_4, build_arr u71 sz9 zo71, index_arr u71 sz9, part_one ld9, fieldAddr_of fa45_7, lsz, lnm, hz, hz2, hz2', c1, lc]
      exact ⟨_, q1.mono (by omega)⟩
    | true =>
      rw [hca] at lc
      obtain ⟨s, m2, υ2, c2, h2, q2, n2⟩ := q1.expr hN 6 1 6 1 rfl rfl (by omega) (by omega)
      obtain ⟨t, m3, υ3, c3, h3, q3, n3⟩ := q2.expr hN 0 1 0 1 rfl rfl (by omega) (by omega)
      obtain ⟨v4, m4, υ4, c4, q4, n4⟩ := q3.line hN n n rfl (by omega) ((s ++ (46 :: 115 :: 101 :: 116 :: 40 :: (t ++ [41])))) (by first | omega | (simp only [List.length_append, List.length_cons, List.length_nil]; omega)) (by omega)
      replace n4 := n4.1
      simp (disch := first | omega | (simp only [List.length_append, List.length_cons, List.length_nil]; omega) | rfl) [-Int.natCast_add, -strOp, add_short, fold_k, fold_0, fieldAddr_of fa45_5, load_of ld3, fieldAddr_of fa45_3, bin_str u9 .add (Or.inl rfl), fieldAddr_of fa45_8, load_of ld4, fieldAddr_of fa45_4, build_arr u71 sz9 zo71, index_arr u71 sz9, part_one ld9, fieldAddr_of fa45_7, lsz, lnm, hz, hz2, hz2', c1, lc, c2, c3, c4]
      exact ⟨_, q4.mono (by omega)⟩
  ·
    have ll := q1.m_.l.2.2.2.2.1
    by_cases hl0 : 0 < υ1.loops
    ·
      have hl0' : (0 : Int) < υ1.loops := by omega
      obtain ⟨x2, m2, υ2, c2, h2, q2, n2⟩ := q1.next hN 3 3 rfl (by omega) (by omega)
      by_cases x02 : x2 = 0
      ·
        obtain ⟨s, m3, υ3, c3, h3, q3, n3⟩ := q2.expr hN 1 1 1 1 rfl rfl (by omega) (by omega)
        obtain ⟨v4, m4, υ4, c4, q4, n4⟩ := q3.line hN n n rfl (by omega) (105 :: 102 :: 32 :: (s ++ [32, 123])) (by first | omega | (simp only [List.length_append, List.length_cons, List.length_nil]; omega)) (by omega)
        replace n4 := n4.1
        obtain ⟨x5, m5, υ5, c5, h5, q5, n5⟩ := q4.next hN 2 2 rfl (by omega) (by omega)
        rcases (by omega : x5 = 0 ∨ x5 = 1) with rfl | rfl
        ·
          obtain ⟨v6, m6, υ6, c6, q6, n6⟩ := q5.line hN (n + 1) (n + 1 : Nat) rfl (by omega) ([98, 114, 101, 97, 107]) (by first | omega | (simp only [List.length_append, List.length_cons, List.length_nil]; omega)) (by omega)
          replace n6 := n6.1
          obtain ⟨v7, m7, υ7, c7, q7, n7⟩ := q6.line hN n n rfl (by omega) ([125]) (by first | omega | (simp only [List.length_append, List.length_cons, List.length_nil]; omega)) (by omega)
          replace n7 := n7.1
          simp (disch := first | omega | (simp only [List.length_append, List.length_cons, List.length_nil]; omega) | rfl) [-Int.natCast_add, -strOp, add_short, fold_k, fold_0, fieldAddr_of fa45_5, load_of ld3, fieldAddr_of fa45_3, bin_str u9 .add (Or.inl rfl), fieldAddr_of fa45_8, load_of ld4, fieldAddr_of fa45_4, build_arr u71 sz9 zo71, index_arr u71 sz9, part_one ld9, fieldAddr_of fa45_7, lsz, lnm, hz, hz2, hz2', c1, ll, hl0, hl0', c2, x02, wn, c3, c4, c5, c6, c7]
          exact ⟨_, q7.mono (by omega)⟩
        ·
          obtain ⟨v6, m6, υ6, c6, q6, n6⟩ := q5.line hN (n + 1) (n + 1 : Nat) rfl (by omega) ([99, 111, 110, 116, 105, 110, 117, 101]) (by first | omega | (simp only [List.length_append, List.length_cons, List.length_nil]; omega)) (by omega)
          replace n6 := n6.1
          obtain ⟨v7, m7, υ7, c7, q7, n7⟩ := q6.line hN n n rfl (by omega) ([125]) (by first | omega | (simp only [List.length_append, List.length_cons, List.length_nil]; omega)) (by omega)
          replace n7 := n7.1
          simp (disch := first | omega | (simp only [List.length_append, List.length_cons, List.length_nil]; omega) | rfl) [-Int.natCast_add, -strOp, add_short, fold_k, fold_0, fieldAddr_of fa45_5, load_of ld3, fieldAddr_of fa45_3, bin_str u9 .add (Or.inl rfl), fieldAddr_of fa45_8, load_of ld4, fieldAddr_of fa45_4, build_arr u71 sz9 zo71, index_arr u71 sz9, part_one ld9, fieldAddr_of fa45_7, lsz, lnm, hz, hz2, hz2', c1, ll, hl0, hl0', c2, x02, wn, c3, c4, c5, c6, c7]
          exact ⟨_, q7.mono (by omega)⟩
      ·
        have x12 : ¬ (x2 : Int) = 0 := by omega
        obtain ⟨x3, m3, υ3, c3, h3, q3, n3⟩ := q2.next hN 6 6 rfl (by omega) (by omega)
        by_cases x03 : x3 = 0
        ·
          have lr := q3.m_.l.2.2.2.2.2.2.2.1
          rw [q3.res] at lr
          by_cases hr0 : 0 ≤ σ.res
          ·
            obtain ⟨rs, hrs⟩ : ∃ rs : Nat, σ.res = rs := ⟨σ.res.toNat, by omega⟩
            have hr7 := hy.res
            rw [hrs] at lr
            have hr0a : (0 : Int) ≤ rs := by omega
            obtain ⟨s, m4, υ4, c4, h4, q4, n4⟩ := q3.expr hN 1 1 1 1 rfl rfl (by omega) (by omega)
            obtain ⟨v5, m5, υ5, c5, q5, n5⟩ := q4.line hN n n rfl (by omega) (105 :: 102 :: 32 :: (s ++ [32, 123])) (by first | omega | (simp only [List.length_append, List.length_cons, List.length_nil]; omega)) (by omega)
            replace n5 := n5.1
            have lr6 := q5.m_.l.2.2.2.2.2.2.2.1
            rw [q5.res, hrs] at lr6
            obtain ⟨t, m7, υ7, c7, h7, q7, n7⟩ := q5.expr hN rs 2 rs 2 rfl rfl (by omega) (by omega)
            obtain ⟨v8, m8, υ8, c8, q8, n8⟩ := q7.line hN (n + 1) (n + 1 : Nat) rfl (by omega) (114 :: 101 :: 116 :: 117 :: 114 :: 110 :: 32 :: t) (by first | omega | (simp only [List.length_append, List.length_cons, List.length_nil]; omega)) (by omega)
            replace n8 := n8.1
            obtain ⟨v9, m9, υ9, c9, q9, n9⟩ := q8.line hN n n rfl (by omega) ([125]) (by first | omega | (simp only [List.length_append, List.length_cons, List.length_nil]; omega)) (by omega)
            replace n9 := n9.1
            simp (disch := first | omega | (simp only [List.length_append, List.length_cons, List.length_nil]; omega) | rfl) [-Int.natCast_add, -strOp, add_short, fold_k, fold_0, fieldAddr_of fa45_5, load_of ld3, fieldAddr_of fa45_3, bin_str u9 .add (Or.inl rfl), fieldAddr_of fa45_8, load_of ld4, fieldAddr_of fa45_4, build_arr u71 sz9 zo71, index_arr u71 sz9, part_one ld9, fieldAddr_of fa45_7, lsz, lnm, hz, hz2, hz2', c1, ll, hl0, hl0', c2, x02, x12, c3, x03, lr, hr0a, wn, c4, c5, lr6, c7, c8, c9]
            exact ⟨_, q9.mono (by omega)⟩
          ·
            obtain ⟨v4, m4, υ4, c4, q4, n4⟩ := q3.line hN n n rfl (by omega) ([112, 114, 105, 110, 116, 40, 105, 110, 112, 117, 116, 40, 41, 41]) (by first | omega | (simp only [List.length_append, List.length_cons, List.length_nil]; omega)) (by omega)
            replace n4 := n4.1
            simp (disch := first | omega | (simp only [List.length_append, List.length_cons, List.length_nil]; omega) | rfl) [-Int.natCast_add, -strOp, add_short, fold_k, fold_0, fieldAddr_of fa45_5, load_of ld3, fieldAddr_of fa45_3, bin_str u9 .add (Or.inl rfl), fieldAddr_of fa45_8, load_of ld4, fieldAddr_of fa45_4, build_arr u71 sz9 zo71, index_arr u71 sz9, part_one ld9, fieldAddr_of fa45_7, lsz, lnm, hz, hz2, hz2', c1, ll, hl0, hl0', c2, x02, x12, c3, x03, lr, hr0, c4]
            exact ⟨_, q4.mono (by omega)⟩
        ·
          have x13 : ¬ (x3 : Int) = 0 := by omega
          obtain ⟨v4, m4, υ4, c4, q4, n4⟩ := q3.line hN n n rfl (by omega) ([112, 114, 105, 110, 116, 40, 105, 110, 112, 117, 116, 40, 41, 41]) (by first | omega | (simp only [List.length_append, List.length_cons, List.length_nil]; omega)) (by omega)
          replace n4 := n4.1
          simp (disch := first | omega | (simp only [List.length_append, List.length_cons, List.length_nil]; omega) | rfl) [-Int.natCast_add, -strOp, add_short, fold_k, fold_0, fieldAddr_of fa45_5, load_of ld3, fieldAddr_of fa45_3, bin_str u9 .add (Or.inl rfl), fieldAddr_of fa45_8, load_of ld4, fieldAddr_of fa45_4, build_arr u71 sz9 zo71, index_arr u71 sz9, part_one ld9, fieldAddr_of fa45_7, lsz, lnm, hz, hz2, hz2', c1, ll, hl0, hl0', c2, x02, x12, c3, x03, x13, c4]
          exact ⟨_, q4.mono (by omega)⟩
    ·
      have hl0' : ¬ (0 : Int) < υ1.loops := by omega
      have hl00 : υ1.loops = 0 := by omega
      obtain ⟨x2, m2, υ2, c2, h2, q2, n2⟩ := q1.next hN 6 6 rfl (by omega) (by omega)
      by_cases x02 : x2 = 0
      ·
        have lr := q2.m_.l.2.2.2.2.2.2.2.1
        rw [q2.res] at lr
        by_cases hr0 : 0 ≤ σ.res
        ·
          obtain ⟨rs, hrs⟩ : ∃ rs : Nat, σ.res = rs := ⟨σ.res.toNat, by omega⟩
          have hr7 := hy.res
          rw [hrs] at lr
          have hr0a : (0 : Int) ≤ rs := by omega
          obtain ⟨s, m3, υ3, c3, h3, q3, n3⟩ := q2.expr hN 1 1 1 1 rfl rfl (by omega) (by omega)
          obtain ⟨v4, m4, υ4, c4, q4, n4⟩ := q3.line hN n n rfl (by omega) (105 :: 102 :: 32 :: (s ++ [32, 123])) (by first | omega | (simp only [List.length_append, List.length_cons, List.length_nil]; omega)) (by omega)
          replace n4 := n4.1
          have lr5 := q4.m_.l.2.2.2.2.2.2.2.1
          rw [q4.res, hrs] at lr5
          obtain ⟨t, m6, υ6, c6, h6, q6, n6⟩ := q4.expr hN rs 2 rs 2 rfl rfl (by omega) (by omega)
          obtain ⟨v7, m7, υ7, c7, q7, n7⟩ := q6.line hN (n + 1) (n + 1 : Nat) rfl (by omega) (114 :: 101 :: 116 :: 117 :: 114 :: 110 :: 32 :: t) (by first | omega | (simp only [List.length_append, List.length_cons, List.length_nil]; omega)) (by omega)
          replace n7 := n7.1
          obtain ⟨v8, m8, υ8, c8, q8, n8⟩ := q7.line hN n n rfl (by omega) ([125]) (by first | omega | (simp only [List.length_append, List.length_cons, List.length_nil]; omega)) (by omega)
          replace n8 := n8.1
          simp (disch := first | omega | (simp only [List.length_append, List.length_cons, List.length_nil]; omega) | rfl) [-Int.natCast_add, -strOp, add_short, fold_k, fold_0, fieldAddr_of fa45_5, load_of ld3, fieldAddr_of fa45_3, bin_str u9 .add (Or.inl rfl), fieldAddr_of fa45_8, load_of ld4, fieldAddr_of fa45_4, build_arr u71 sz9 zo71, index_arr u71 sz9, part_one ld9, fieldAddr_of fa45_7, lsz, lnm, hz, hz2, hz2', c1, ll, hl0, hl0', hl00, c2, x02, lr, hr0a, wn, c3, c4, lr5, c6, c7, c8]
          exact ⟨_, q8.mono (by omega)⟩
        ·
          obtain ⟨v3, m3, υ3, c3, q3, n3⟩ := q2.line hN n n rfl (by omega) ([112, 114, 105, 110, 116, 40, 105, 110, 112, 117, 116, 40, 41, 41]) (by first | omega | (simp only [List.length_append, List.length_cons, List.length_nil]; omega)) (by omega)
          replace n3 := n3.1
          simp (disch := first | omega | (simp only [List.length_append, List.length_cons, List.length_nil]; omega) | rfl) [-Int.natCast_add, -strOp, add_short, fold_k, fold_0, fieldAddr_of fa45_5, load_of ld3, fieldAddr_of fa45_3, bin_str u9 .add (Or.inl rfl), fieldAddr_of fa45_8, load_of ld4, fieldAddr_of fa45_4, build_arr u71 sz9 zo71, index_arr u71 sz9, part_one ld9, fieldAddr_of fa45_7, lsz, lnm, hz, hz2, hz2', c1, ll, hl0, hl0', hl00, c2, x02, lr, hr0, c3]
          exact ⟨_, q3.mono (by omega)⟩
      ·
        have x12 : ¬ (x2 : Int) = 0 := by omega
        obtain ⟨v3, m3, υ3, c3, q3, n3⟩ := q2.line hN n n rfl (by omega) ([112, 114, 105, 110, 116, 40, 105, 110, 112, 117, 116, 40, 41, 41]) (by first | omega | (simp only [List.length_append, List.length_cons, List.length_nil]; omega)) (by omega)
        replace n3 := n3.1
        simp (disch := first | omega | (simp only [List.length_append, List.length_cons, List.length_nil]; omega) | rfl) [-Int.natCast_add, -strOp, add_short, fold_k, fold_0, fieldAddr_of fa45_5, load_of ld3, fieldAddr_of fa45_3, bin_str u9 .add (Or.inl rfl), fieldAddr_of fa45_8, load_of ld4, fieldAddr_of fa45_4, build_arr u71 sz9 zo71, index_arr u71 sz9, part_one ld9, fieldAddr_of fa45_7, lsz, lnm, hz, hz2, hz2', c1, ll, hl0, hl0', hl00, c2, x02, x12, c3]
        exact ⟨_, q3.mono (by omega)⟩
end Go.Proofs.YtgomgdbapgibjaaDoor.base

