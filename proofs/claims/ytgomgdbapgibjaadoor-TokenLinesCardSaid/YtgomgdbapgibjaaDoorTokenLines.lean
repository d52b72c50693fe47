/-
  This text proves 'Rows.TokenLinesCardSaid': the law 'TokenLines' returns true at any numbers, in whatever memory and on every tape, and its input reads as it did.
  The condition is the card's own: the listed package-level variable holds what the program's text lays.
-/
import Derived.Test.YtgomgdbapgibjaaDoorCards
import Derived.Test.YtgomgdbapgibjaaDoorTie
import Derived.Deep.DeepHandedRow
import Derived.Lib.LaidTab
import Derived.Test.YtgomgdbapgibjaaDoorTokQ
set_option maxRecDepth 100000
set_option linter.unusedSimpArgs false
set_option linter.unusedVariables false
namespace Go.Proofs.YtgomgdbapgibjaaDoor.tokenLines
open Go.Sh gen base
variable {S : Sums} {m : Mem}
theorem law_run (hK : S 10 = [([], .bool true)]) (hS : S 5 = []) (hU : Nu S) (hA : S 13 = []) (hWs : S 8 = []) (hP : S 7 = [])
    {ls ms : List Int} {a0 a1 : Option Addr} {f0 f1 : Nat}
    (h0 : Rs m a0 ls.length (ls.flatMap fun n : Int => [Value.int .i64 n]) 3 1 f0) (hf0 : f0 < m.next) (hl0 : ls.length ≤ 9223372036854775807) (hw0 : ∀ n ∈ ls, (Lit.int .i64 n).wf = true) (hsp0 : ∀ a, a0 = some a → a.spot = none)
    (h1 : Rs m a1 ms.length (ms.flatMap fun n : Int => [Value.int .i64 n]) 3 1 f1) (hf1 : f1 < m.next) (hl1 : ms.length ≤ 9223372036854775807) (hw1 : ∀ n ∈ ms, (Lit.int .i64 n).wf = true) (hsp1 : ∀ a, a1 = some a → a.spot = none)
    {e : TypeId} (hg : Rdo m 0 handC e 0) :
    ∃ v m', callw Tryd.prog TT S 5 [.slice a0 ls.length ls.length, .slice a1 ms.length ms.length] m = some (v, m') ∧ v = .bool true := by
  have hkn := fun m' => sum_ok (P := Tryd.prog) (T := TT) (m := m') hK
  refine fn_w 20 [78, 91, 102, 106, 127] k5 hS rfl ?_
  obtain ⟨ka, hka⟩ : ∃ ka, ka = min 60 ls.length := ⟨_, rfl⟩
  obtain ⟨kb, hkb⟩ : ∃ kb, kb = min 60 ms.length := ⟨_, rfl⟩
  obtain ⟨v1, m1, c1, rfl, hm1⟩ := words_run (m := m) hWs hP hg (c := ka) h0 hl0 (k := ka) (by omega)
  rw [hm1] at c1
  obtain ⟨v2, m2, c2, rfl, hm2⟩ := words_run (m := m) hWs hP hg (c := kb) h1 hl1 (k := kb) (by omega)
  rw [hm2] at c2
  have hta : (ls.take ka).take 200 = ls.take ka := List.take_of_length_le (by simp; omega)
  have htb : (ms.take kb).take 200 = ms.take kb := List.take_of_length_le (by simp; omega)
  rw [hta] at c1
  rw [htb] at c2
  have la := wordsT_len (ls.take ka)
  have lb := wordsT_len (ms.take kb)
  have hla : (ls.take ka).length ≤ 60 := by simp; omega
  have hlb : (ms.take kb).length ≤ 60 := by simp; omega
  have hr := allR_lines (ls.take ka) (ms.take kb) hla hlb
  generalize wordsT (ls.take ka) = s at *
  generalize wordsT (ms.take kb) = t at *
  have hn : ∀ {xs : List Int} {ax : Option Addr} {fx : Nat}, Rs m ax xs.length (xs.flatMap fun n : Int => [Value.int .i64 n]) 3 1 fx → ax = none → xs.length = 0 := by
    intro xs ax fx hx he
    by_cases h0 : xs.length = 0
    · exact h0
    · obtain ⟨b, hb, _⟩ := hx.rdo h0
      rw [he] at hb
      cases hb
  have i0 : (if (60 : Int) < (ls.length : Int) then (60 : Int) else (ls.length : Int)) = (ka : Int) := by split <;> omega
  have i1 : (if (60 : Int) < (ms.length : Int) then (60 : Int) else (ms.length : Int)) = (kb : Int) := by split <;> omega
  have j0 : ka ≤ ls.length ∧ (ka : Int) ≤ 9223372036854775807 := by omega
  have j1 : kb ≤ ms.length ∧ (kb : Int) ≤ 9223372036854775807 := by omega
  have q0 := hn h0
  have q1 := hn h1
  clear hn
  apply cut_
  case main =>
    cases a0 with
    | none =>
      have z0 := q0 rfl
      have zk : ka = 0 := by omega
      subst zk
      cases a1 with
      | none =>
        have z1 := q1 rfl
        have zk : kb = 0 := by omega
        subst zk
        have hst : s = t := by
          rw [c1] at c2
          simpa using c2
        intro meth
        simp [-Int.natCast_add, -w5_3, -BitVec.toNat_or, -BitVec.toNat_ofInt, -BitVec.toNat_and, len_slice u22, slice_sl u22 sz3, bin_str u9 .add (Or.inl rfl), alloc_of zo31, store_of sz31, len_slice u29, index_slice u29 sz31, fieldAddr_of fa31_3, load_of ld3, load_agg ld31, bin_agg ag31 .neq (Or.inr rfl), scal_int u3, scal_str u9, scal_int u2, store_of sz3, z0, z1, c1]
        exact w_sub (E := [(4, .bool false), (5, .string ⟨s.toArray⟩), (6, .string ⟨t.toArray⟩)]) meth ⟨by rfl, by rfl, by rw [← hst]; rfl, trivial⟩
      | some a =>
        have ha := hsp1 a rfl
        obtain ⟨ab, ao, asp⟩ := a
        simp only at ha
        subst ha
        intro meth
        simp [-Int.natCast_add, -w5_3, -BitVec.toNat_or, -BitVec.toNat_ofInt, -BitVec.toNat_and, len_slice u22, slice_sl u22 sz3, bin_str u9 .add (Or.inl rfl), alloc_of zo31, store_of sz31, len_slice u29, index_slice u29 sz31, fieldAddr_of fa31_3, load_of ld3, load_agg ld31, bin_agg ag31 .neq (Or.inr rfl), scal_int u3, scal_str u9, scal_int u2, store_of sz3, z0, i1, j1, c1, c2]
        exact w_sub (E := [(4, .bool false), (5, .string ⟨s.toArray⟩), (6, .string ⟨t.toArray⟩)]) meth ⟨by rfl, by rfl, by rfl, trivial⟩
    | some a =>
      have ha := hsp0 a rfl
      obtain ⟨ab, ao, asp⟩ := a
      simp only at ha
      subst ha
      cases a1 with
      | none =>
        have z1 := q1 rfl
        have zk : kb = 0 := by omega
        subst zk
        intro meth
        simp [-Int.natCast_add, -w5_3, -BitVec.toNat_or, -BitVec.toNat_ofInt, -BitVec.toNat_and, len_slice u22, slice_sl u22 sz3, bin_str u9 .add (Or.inl rfl), alloc_of zo31, store_of sz31, len_slice u29, index_slice u29 sz31, fieldAddr_of fa31_3, load_of ld3, load_agg ld31, bin_agg ag31 .neq (Or.inr rfl), scal_int u3, scal_str u9, scal_int u2, store_of sz3, i0, j0, z1, c1, c2]
        exact w_sub (E := [(4, .bool false), (5, .string ⟨s.toArray⟩), (6, .string ⟨t.toArray⟩)]) meth ⟨by rfl, by rfl, by rfl, trivial⟩
      | some a =>
        have ha := hsp1 a rfl
        obtain ⟨ab, ao, asp⟩ := a
        simp only at ha
        subst ha
        intro meth
        simp [-Int.natCast_add, -w5_3, -BitVec.toNat_or, -BitVec.toNat_ofInt, -BitVec.toNat_and, len_slice u22, slice_sl u22 sz3, bin_str u9 .add (Or.inl rfl), alloc_of zo31, store_of sz31, len_slice u29, index_slice u29 sz31, fieldAddr_of fa31_3, load_of ld3, load_agg ld31, bin_agg ag31 .neq (Or.inr rfl), scal_int u3, scal_str u9, scal_int u2, store_of sz3, i0, j0, i1, j1, c1, c2]
        exact w_sub (E := [(4, .bool false), (5, .string ⟨s.toArray⟩), (6, .string ⟨t.toArray⟩)]) meth ⟨by rfl, by rfl, by rfl, trivial⟩
  obtain ⟨pre, y, en, d, r1, r2, r3, r4, p1, p2, p3, p4⟩ := hr
  have e10 : (#[10] : Array UInt8) = ([10] : List UInt8).toArray := rfl
  obtain ⟨v3, m3, c3, ax, fx, rfl, s3, _, k3⟩ := allP_run (m := m) hU hA (s ++ [10]) (by simp; omega)
  rw [r1] at c3 s3
  have y1 : ((s.length + 1 : Nat) : Int) ≤ 9223372036854775807 ∧ s.length + 1 ≤ 9223372036854775807 := by omega
  have y2 : ((s.length + 1 + t.length : Nat) : Int) ≤ 9223372036854775807 ∧ s.length + 1 + t.length ≤ 9223372036854775807 := by omega
  have y3 : ((s.length + (1 + t.length) : Nat) : Int) ≤ 9223372036854775807 ∧ s.length + (1 + t.length) ≤ 9223372036854775807 := by omega
  simp [-Int.natCast_add, -BitVec.toNat_or, -BitVec.toNat_ofInt, -BitVec.toNat_and, len_slice u22, slice_sl u22 sz3, bin_str u9 .add (Or.inl rfl), alloc_of zo31, store_of sz31, len_slice u29, index_slice u29 sz31, fieldAddr_of fa31_3, load_of ld3, load_agg ld31, bin_agg ag31 .neq (Or.inr rfl), scal_int u3, scal_str u9, scal_int u2, store_of sz3, y1, Tok.cells, zTok] at c3 ⊢
  simp [-Int.natCast_add, -BitVec.toNat_or, -BitVec.toNat_ofInt, -BitVec.toNat_and, len_slice u22, slice_sl u22 sz3, bin_str u9 .add (Or.inl rfl), alloc_of zo31, store_of sz31, len_slice u29, index_slice u29 sz31, fieldAddr_of fa31_3, load_of ld3, load_agg ld31, bin_agg ag31 .neq (Or.inr rfl), scal_int u3, scal_str u9, scal_int u2, store_of sz3, c3]
  obtain ⟨oz, kz, nz⟩ := new_own (m := m3) (cs := [Value.int .i64 0, .string ⟨#[]⟩, .int .i64 0, .int .i64 0, .int .i64 0]) (e := 31) rfl
  generalize hrr : storeRow _ _ _ = rr
  obtain ⟨m4, rfl, o4, k4⟩ := store_own hrr oz (by simp) (by simp [one_int, one_str])
  have kk4 : Keeps m3 m4 [] := kz.mono2 k4 (Nat.le_refl _)
  have s4 := s3.keep kk4 (by simp)
  clear hrr o4 k4 oz kz nz s3 k3
  obtain ⟨v5, m5, c5, ay, fy, rfl, s5, _, k5⟩ := allP_run (m := m4) hU hA t (by omega)
  rw [r3] at c5 s5
  have s45 := s4.keep k5 (by simp)
  simp [-Int.natCast_add, -BitVec.toNat_or, -BitVec.toNat_ofInt, -BitVec.toNat_and, len_slice u22, slice_sl u22 sz3, bin_str u9 .add (Or.inl rfl), alloc_of zo31, store_of sz31, len_slice u29, index_slice u29 sz31, fieldAddr_of fa31_3, load_of ld3, load_agg ld31, bin_agg ag31 .neq (Or.inr rfl), scal_int u3, scal_str u9, scal_int u2, store_of sz3, Tok.cells, zTok] at c5
  simp [-Int.natCast_add, -BitVec.toNat_or, -BitVec.toNat_ofInt, -BitVec.toNat_and, len_slice u22, slice_sl u22 sz3, bin_str u9 .add (Or.inl rfl), alloc_of zo31, store_of sz31, len_slice u29, index_slice u29 sz31, fieldAddr_of fa31_3, load_of ld3, load_agg ld31, bin_agg ag31 .neq (Or.inr rfl), scal_int u3, scal_str u9, scal_int u2, store_of sz3, c5]
  obtain ⟨oz, kz, nz⟩ := new_own (m := m5) (cs := [Value.int .i64 0, .string ⟨#[]⟩, .int .i64 0, .int .i64 0, .int .i64 0]) (e := 31) rfl
  generalize hrr : storeRow _ _ _ = rr
  obtain ⟨m6, rfl, o6, k6⟩ := store_own hrr oz (by simp) (by simp [one_int, one_str])
  have kk6 : Keeps m5 m6 [] := kz.mono2 k6 (Nat.le_refl _)
  have s56 := s5.keep kk6 (by simp)
  have s46 := s45.keep kk6 (by simp)
  clear hrr o6 k6 oz kz nz s5 k5 s4 s45 kk4
  obtain ⟨v7, m7, c7, az, fz, rfl, s7, _, k7⟩ := allP_run (m := m6) hU hA (s ++ [10] ++ t) (by simp; omega)
  rw [r4] at c7 s7
  have s57 := s56.keep k7 (by simp)
  have s47 := s46.keep k7 (by simp)
  simp [-Int.natCast_add, -BitVec.toNat_or, -BitVec.toNat_ofInt, -BitVec.toNat_and, len_slice u22, slice_sl u22 sz3, bin_str u9 .add (Or.inl rfl), alloc_of zo31, store_of sz31, len_slice u29, index_slice u29 sz31, fieldAddr_of fa31_3, load_of ld3, load_agg ld31, bin_agg ag31 .neq (Or.inr rfl), scal_int u3, scal_str u9, scal_int u2, store_of sz3, Tok.cells, zTok] at c7
  simp [-Int.natCast_add, -BitVec.toNat_or, -BitVec.toNat_ofInt, -BitVec.toNat_and, len_slice u22, slice_sl u22 sz3, bin_str u9 .add (Or.inl rfl), alloc_of zo31, store_of sz31, len_slice u29, index_slice u29 sz31, fieldAddr_of fa31_3, load_of ld3, load_agg ld31, bin_agg ag31 .neq (Or.inr rfl), scal_int u3, scal_str u9, scal_int u2, store_of sz3, c7, y1, y2, y3]
  obtain ⟨oz, kz, nz⟩ := new_own (m := m7) (cs := [Value.int .i64 0, .string ⟨#[]⟩, .int .i64 0, .int .i64 0, .int .i64 0]) (e := 31) rfl
  generalize hrr : storeRow _ _ _ = rr
  obtain ⟨m8, rfl, o8, k8⟩ := store_own hrr oz (by simp) (by simp [one_int, one_str])
  have kk8 : Keeps m7 m8 [] := kz.mono2 k8 (Nat.le_refl _)
  have s58 := s57.keep kk8 (by simp)
  have s48 := s47.keep kk8 (by simp)
  have s78 := s7.keep kk8 (by simp)
  clear hrr o8 k8 oz kz nz s57 s47 s7 kk6 s56 s46 k7 kk8
  have n1 : IntKind.i64.wrap (((pre.length + 1 : Nat) : Int) - 1) = (pre.length : Int) := by rw [wrap_i64 (by omega) (by omega)]; omega
  have n2 : IntKind.i64.wrap ((pre.length : Int) + (y.length : Int)) = ((pre.length + y.length : Nat) : Int) := by rw [wrap_i64 (by omega) (by omega)]; omega
  have n3 : (pre.length : Int) ≤ 9223372036854775807 := by omega
  obtain ⟨bx, rfl, ox⟩ := s48.own (by simp)
  have fl := fun {l : List base.Tok} {b fm : Nat} (o : Own m8 b (outCells l) 31 fm) {i : Nat} (hi : i < l.length) (f : Nat) (hf : f < 5) => (o.load (off := i * 5 + f) 1 (by rw [← outCells_len]; omega)).trans (congrArg some (atq_field hi f hf))
  have rl := fun {l : List base.Tok} {b fm : Nat} (o : Own m8 b (outCells l) 31 fm) {i : Nat} (hi : i < l.length) => (o.load (off := i * 5) 5 (by rw [← outCells_len]; omega)).trans (congrArg some (atq_cells hi))
  have lx := fl ox (i := pre.length) (by simp) 3 (by omega)
  simp only [Tok.cells, List.getElem_concat_length, List.drop_succ_cons, List.drop_zero, List.take_succ_cons, List.take_zero, r2] at lx
  have n4 : IntKind.i64.wrap ((d : Int) + 1 - 1) = (d : Int) := by rw [wrap_i64 (by omega) (by omega)]; omega
  have n5 : IntKind.i64.wrap (d : Int) = (d : Int) := wrap_i64 (by omega) (by omega)
  simp [-Int.natCast_add, -BitVec.toNat_or, -BitVec.toNat_ofInt, -BitVec.toNat_and, len_slice u22, slice_sl u22 sz3, bin_str u9 .add (Or.inl rfl), alloc_of zo31, store_of sz31, len_slice u29, index_slice u29 sz31, fieldAddr_of fa31_3, load_of ld3, load_agg ld31, bin_agg ag31 .neq (Or.inr rfl), scal_int u3, scal_str u9, scal_int u2, store_of sz3, hkn, n1, n2, n3, lx, n4, n5]
  refine wsem_loop 20 [78, 91, 102, 106, 127] (fun d1 E m9 => ∃ q : Nat, pre.length - q = d1 ∧ q ≤ pre.length ∧ E = [(4, .bool false), (7, .slice (some ⟨bx, 0, none⟩) (pre.length + 1) (pre.length + 1)), (10, .slice ay y.length y.length), (13, .slice az (pre.length + y.length) (pre.length + y.length)), (16, .int .i64 d), (17, .int .i64 q)] ∧ m9 = m8) _ ⟨_, ⟨0, rfl, by omega, rfl, rfl⟩, ⟨by rfl, by rfl, by rfl, by rfl, by rfl, by rfl, trivial⟩⟩ ?_
  rintro d1 E m9 ihq ⟨q, hq, hqx, rfl, hm9⟩
  subst hm9
  by_cases hlt : q < pre.length
  · have e1 : (q : Int) < pre.length := by omega
    have em : (q : Int) ≤ 9223372036854775807 := by omega
    have w1 : IntKind.i64.wrap ((q : Int) + 1) = ((q + 1 : Nat) : Int) := by rw [wrap_i64 (by omega) (by omega)]; omega
    obtain ⟨bz, hbz, oz⟩ := s78.own (by simp only [List.length_append, List.length_map]; omega)
    have l1 := rl ox (i := q) (by simp; omega)
    have l2 := rl oz (i := q) (by simp; omega)
    rw [List.getElem_append_left hlt] at l1 l2
    simp only [Tok.cells] at l1 l2
    have k1 : q < pre.length + 1 := by omega
    have k2 : q < pre.length + y.length := by omega
    simp [-Int.natCast_add, -BitVec.toNat_or, -BitVec.toNat_ofInt, -BitVec.toNat_and, len_slice u22, slice_sl u22 sz3, bin_str u9 .add (Or.inl rfl), alloc_of zo31, store_of sz31, len_slice u29, index_slice u29 sz31, fieldAddr_of fa31_3, load_of ld3, load_agg ld31, bin_agg ag31 .neq (Or.inr rfl), scal_int u3, scal_str u9, scal_int u2, store_of sz3, n1, e1, em, hlt, k1, k2, hbz, l1, l2, w1]
    rw [← hbz]
    exact ihq _ _ _ _ ⟨q + 1, rfl, by omega, rfl, rfl⟩ (by omega) ⟨by rfl, by rfl, by rfl, by rfl, by rfl, by simp [lget], trivial⟩
  · have e1 : ¬ (q : Int) < pre.length := by omega
    simp [-Int.natCast_add, -BitVec.toNat_or, -BitVec.toNat_ofInt, -BitVec.toNat_and, len_slice u22, slice_sl u22 sz3, bin_str u9 .add (Or.inl rfl), alloc_of zo31, store_of sz31, len_slice u29, index_slice u29 sz31, fieldAddr_of fa31_3, load_of ld3, load_agg ld31, bin_agg ag31 .neq (Or.inr rfl), scal_int u3, scal_str u9, scal_int u2, store_of sz3, n1, e1, hlt]
    refine wsem_loop 20 [78, 91, 102, 106, 127] (fun d1 E m10 => ∃ q : Nat, y.length - q = d1 ∧ q ≤ y.length ∧ E = [(4, .bool false), (7, .slice (some ⟨bx, 0, none⟩) (pre.length + 1) (pre.length + 1)), (10, .slice ay y.length y.length), (13, .slice az (pre.length + y.length) (pre.length + y.length)), (16, .int .i64 d), (18, .int .i64 q)] ∧ Sl m10 ay y.length (outCells y) 31 5 fy ∧ Sl m10 az (pre ++ y.map (dn d)).length (outCells (pre ++ y.map (dn d))) 31 5 fz) _ ⟨_, ⟨0, rfl, by omega, rfl, s58, s78⟩, ⟨by rfl, by rfl, by rfl, by rfl, by rfl, by rfl, trivial⟩⟩ ?_
    clear hlt e1 hqx hq ihq q d1
    rintro d1 E m10 ihq ⟨q, hq, hqx, rfl, sy, sz⟩
    by_cases hlt : q < y.length
    · have e1 : (q : Int) < y.length := by omega
      have em : (q : Int) ≤ 9223372036854775807 := by omega
      have w1 : IntKind.i64.wrap ((q : Int) + 1) = ((q + 1 : Nat) : Int) := by rw [wrap_i64 (by omega) (by omega)]; omega
      have w2 : IntKind.i64.wrap ((pre.length : Int) + q) = ((pre.length + q : Nat) : Int) := by rw [wrap_i64 (by omega) (by omega)]; omega
      have em2 : ((pre.length + q : Nat) : Int) ≤ 9223372036854775807 := by omega
      obtain ⟨bY, hbY, oY⟩ := sy.own (by omega)
      have l1 := (oY.load (off := q * 5) 5 (by rw [← outCells_len]; omega)).trans (congrArg some (atq_cells hlt))
      have hb := p4 _ (List.getElem_mem hlt)
      have w3 : IntKind.i64.wrap ((y[q]).l + d) = (y[q]).l + d := wrap_i64 (by omega) (by omega)
      generalize hyq : y[q] = c at l1 hb w3
      simp only [Tok.cells] at l1
      simp [-Int.natCast_add, -BitVec.toNat_or, -BitVec.toNat_ofInt, -BitVec.toNat_and, len_slice u22, slice_sl u22 sz3, bin_str u9 .add (Or.inl rfl), alloc_of zo31, store_of sz31, len_slice u29, index_slice u29 sz31, fieldAddr_of fa31_3, load_of ld3, load_agg ld31, bin_agg ag31 .neq (Or.inr rfl), scal_int u3, scal_str u9, scal_int u2, store_of sz3, e1, em, hlt, hbY, l1]
      obtain ⟨ow, kw, nw⟩ := new_own (m := m10) (cs := [Value.int .i64 0, .string ⟨#[]⟩, .int .i64 0, .int .i64 0, .int .i64 0]) (e := 31) rfl
      generalize hrr : storeRow _ _ _ = rr
      obtain ⟨m11, rfl, o11, k11⟩ := store_own hrr ow (by simp) (by simp [one_int, one_str])
      simp [over] at o11
      have l3 := o11.load1 (off := 3) rfl
      simp [-Int.natCast_add, -BitVec.toNat_or, -BitVec.toNat_ofInt, -BitVec.toNat_and, len_slice u22, slice_sl u22 sz3, bin_str u9 .add (Or.inl rfl), alloc_of zo31, store_of sz31, len_slice u29, index_slice u29 sz31, fieldAddr_of fa31_3, load_of ld3, load_agg ld31, bin_agg ag31 .neq (Or.inr rfl), scal_int u3, scal_str u9, scal_int u2, store_of sz3, l3, w3]
      generalize hrr : storeRow _ _ _ = rr
      obtain ⟨m12, rfl, o12, k12⟩ := store_own hrr o11 (by simp) (by simp [one_int, one_str])
      simp [over] at o12
      have kk : Keeps m10 m12 [] := kw.mono2 (k11.trans k12) (Nat.le_refl _)
      have sz2 := sz.keep kk (by simp)
      obtain ⟨bz, hbz, oz⟩ := sz2.own (by simp only [List.length_append, List.length_map]; omega)
      have hi : pre.length + q < (pre ++ y.map (dn d)).length := by simp; omega
      have l2 := (oz.load (off := (pre.length + q) * 5) 5 (by rw [← outCells_len]; omega)).trans (congrArg some (atq_cells hi))
      have hg2 : (pre ++ y.map (dn d))[pre.length + q] = dn d c := by
        rw [List.getElem_append_right (by omega)]
        simp [hyq]
      rw [hg2] at l2
      simp only [Tok.cells, dn] at l2
      have l4 := o12.load (off := 0) 5 (by simp)
      simp [window] at l4
      have k2 : pre.length + q < pre.length + y.length := by omega
      simp [-Int.natCast_add, -BitVec.toNat_or, -BitVec.toNat_ofInt, -BitVec.toNat_and, len_slice u22, slice_sl u22 sz3, bin_str u9 .add (Or.inl rfl), alloc_of zo31, store_of sz31, len_slice u29, index_slice u29 sz31, fieldAddr_of fa31_3, load_of ld3, load_agg ld31, bin_agg ag31 .neq (Or.inr rfl), scal_int u3, scal_str u9, scal_int u2, store_of sz3, n1, w2, em2, k2, hbz, l2, l4, w1]
      rw [← hbz, ← hbY]
      exact ihq _ _ _ _ ⟨q + 1, rfl, by omega, rfl, sy.keep kk (by simp), sz2⟩ (by omega) ⟨by rfl, by rfl, by rfl, by rfl, by rfl, by simp [lget], trivial⟩
    · have e1 : ¬ (q : Int) < y.length := by omega
      simp [-Int.natCast_add, -BitVec.toNat_or, -BitVec.toNat_ofInt, -BitVec.toNat_and, len_slice u22, slice_sl u22 sz3, bin_str u9 .add (Or.inl rfl), alloc_of zo31, store_of sz31, len_slice u29, index_slice u29 sz31, fieldAddr_of fa31_3, load_of ld3, load_agg ld31, bin_agg ag31 .neq (Or.inr rfl), scal_int u3, scal_str u9, scal_int u2, store_of sz3, e1, hlt]

/- the row -/
open Go.ChangeShapes Go.WideShapes Go.ChangeAt Go.RowKit
theorem own : ownKnob Tryd.prog.godebug = none := by kernel_rfl
theorem mixed : Tryd.prog.follows .mixedOrders = true := by kernel_rfl
theorem tab : Sh.tabCheck Tryd.prog fns = true := by kernel_rfl
theorem known : Sh.isVal (.bool true) (Sh.call Tryd.prog (Sh.tabOf Tryd.prog fns) Sh.noSums 100000 10 [] (Sh.memG Tryd.prog [])) = true := by kernel_rfl
def sums : Sums := fun f => if f = 10 then [([], .bool true)] else []
theorem sumsOk : SumsOk Tryd.prog sums := by
  intro f p hp
  unfold sums at hp
  split at hp
  · rename_i hf
    subst hf
    simp only [List.mem_cons, List.not_mem_nil, or_false] at hp
    subst hp
    exact ⟨rfl, rfl, ⟨Tryd.f10, Tryd.func10, by kernel_rfl, by kernel_rfl⟩, fun w => Sh.closed_val mixed (Sh.tab_ok tab) (Sh.noSums_ok _) 100000 10 Tryd.func10 (by kernel_rfl) (gs := []) (by kernel_rfl) (by kernel_rfl) known w (fun p hp => by simp at hp)⟩
  · simp at hp

theorem tab0 {w : World} (h : laidMetH Tryd.prog Rows.tokenLinesRow.laid w) : 0 < w.heap.size ∧ ∀ (i : Nat) v, ((Sh.tabLits (Rows.laid_turnstone_turnstonehand_words : DataW Unit)).map Lit.value)[i]? = some v → w.cell? ⟨0, i, none⟩ = some v :=
  Sh.laid_lits (name := "turnstone/turnstonehand.words") (t := 38) (e := 9) (n := 44) (by kernel_rfl) h (by
    have e : (("turnstone/turnstonehand.words", (.agg ((Sh.tabLits (Rows.laid_turnstone_turnstonehand_words : DataW Unit)).map .lit) : DataW Unit)) : String × DataW Unit) = ("turnstone/turnstonehand.words", Rows.laid_turnstone_turnstonehand_words) := by kernel_rfl
    rw [e]
    simp [Rows.tokenLinesRow]) (by kernel_rfl) (by kernel_rfl) Tryd.underlying38 (by first | exact Or.inr (Or.inl Tryd.underlying9) | exact Or.inl ⟨_, Tryd.underlying9⟩ | exact Or.inr (Or.inr Tryd.underlying9)) (by kernel_rfl) (by kernel_rfl) (of_decide_eq_true (by kernel_rfl))
def tables : List (Nat × List Value) := [(0, (Sh.tabLits (Rows.laid_turnstone_turnstonehand_words : DataW Unit)).map Lit.value)]
theorem rd0 : Rdo (memG Tryd.prog tables) 0 base.handC (gtype Tryd.prog 0) 0 := ⟨by kernel_rfl, ⟨⟨none, 0⟩, by kernel_rfl, Nat.zero_le _⟩, of_decide_eq_true (by kernel_rfl), of_decide_eq_true (by kernel_rfl)⟩
theorem startT (w : World) (h : laidMetH Tryd.prog Rows.tokenLinesRow.laid w) : MRel Tryd.prog (inj0 Tryd.prog) (memG Tryd.prog tables) (allF w) w w := by
  refine memG_rel Tryd.prog w tables fun p hp => ?_
  simp only [tables, List.mem_cons, List.not_mem_nil, or_false] at hp
  rcases hp with rfl
  · exact ⟨of_decide_eq_true (by kernel_rfl), (tab0 h).1, by kernel_rfl, by kernel_rfl, (tab0 h).2⟩

theorem walk (w : World) (hL : laidMetH Tryd.prog Rows.tokenLinesRow.laid w) {v0 : Value} (h0 : RowArg Tryd.prog w (fun n : Int => [Value.int .i64 n]) (fun n => (Lit.int .i64 n).wf = true) 3 1 v0) {v1 : Value} (h1 : RowArg Tryd.prog w (fun n : Int => [Value.int .i64 n]) (fun n => (Lit.int .i64 n).wf = true) 3 1 v1) :
    Calls Tryd.prog 5 #[v0, v1] w fun e w' => e = .returned (.bool true) ∧ Below w.heap.size w w' := by
  have hM := startT w hL
  obtain ⟨rs0, J0, m0, ao0, fr0, le0, hM0, vr0, hr0, hg0, hl0, hk0, hz0, hw0⟩ := row_in hM sz3 (by omega) (fun _ => rfl) h0
  obtain ⟨rs1, J1, m1, ao1, fr1, le1, hM1, vr1, hr1, hg1, hl1, hk1, hz1, hw1⟩ := row_in hM0 sz3 (by omega) (fun _ => rfl) h1
  obtain ⟨v', m', h, rfl⟩ := law_run (S := sums) (m := m1) rfl rfl ⟨rfl, rfl, rfl, rfl, rfl, rfl, rfl, rfl, rfl, rfl, rfl, rfl, rfl, rfl, rfl, rfl⟩ rfl rfl rfl (hr0.keep hk1 (by simp)) (by have := hk1.1; omega) hz0 hw0 (spot_of vr0) hr1 hl1 hz1 hw1 (spot_of vr1) ((rd0.keep hk0 (by simp)).keep hk1 (by simp))
  exact calls_of mixed (Sh.tab_ok tab) sumsOk Tryd.func5 (by kernel_rfl) h rfl hM1 (.cons (vr0.mono le1) (.cons vr1 LRel.nil))

theorem laidOut : laidOutB Tryd.prog = true := by kernel_rfl

theorem contract (H : Type) (enc : TypeId × Value → H) (W : World) (base : Nat) (args : Array Value) (ds gs : List (DataW H)) (before : List MemPlace)
    (hval : ∀ (j : Nat) t v, Tryd.f5.params[j]? = some t → args[j]? = some v → Value.okWide Tryd.prog W .any base t v)
    (hW : DataW.Whole enc Tryd.prog Tryd.f5.params.toList Rows.tokenLinesSpec.vars false W args.toList ds gs before) (hL : laidMetH Tryd.prog Rows.tokenLinesRow.laid W) :
    Calls Tryd.prog 5 args W fun e W' => ∃ v, e = .returned v ∧ Rows.tokenLinesSpec.post enc Tryd.prog Tryd.f5 false true false false W args v W' := by
  have hW' := hW
  obtain ⟨p, q, hA0, hV, rfl, hfz, hnd⟩ := hW
  have hA : DataW.TrodAll enc Tryd.prog W 0 (fun _ => true) true Tryd.f5.params.toList args.toList ds p := hA0
  rw [Tryd.params5] at hA hval
  obtain ⟨v0, v1, d0, d1, p0, p1, rfl, rfl, rfl, t0, t1⟩ := trodAll_two hA
  obtain ⟨rfl, rfl⟩ := trodVars_none hV
  have hv0 := ints_row u22 u3 sz3 (hval 0 _ _ rfl rfl) t0
  have hv1 := ints_row u22 u3 sz3 (hval 1 _ _ rfl rfl) t1
  clear hA0
  simp only [List.append_nil, List.nil_append] at hW'
  refine (walk W hL hv0 hv1).mono fun e W' ⟨he, hg⟩ => ?_
  subst he
  have hlt0 : ∀ z ∈ p0, z.block < W.heap.size := fun z hz => hW'.lt z (by simp [hz])
  have hlt1 : ∀ z ∈ p1, z.block < W.heap.size := fun z hz => hW'.lt z (by simp [hz])
  exact ⟨_, rfl, Sh.law_post (pa := (p0 ++ p1)) (pv := []) hW' hg (by simp) (fun sp hsp => trodAll_mk2 (WideElems.Trod_stays laidOut (by kernel_rfl) (of_decide_eq_true (by kernel_rfl)) t0 (fun z hz => hg.same (hlt0 z hz)) (fun z hz => hsp z (by simp [hz]))) (WideElems.Trod_stays laidOut (by kernel_rfl) (of_decide_eq_true (by kernel_rfl)) t1 (fun z hz => hg.same (hlt1 z hz)) (fun z hz => hsp z (by simp [hz])))) (fun _ _ => rfl) (fun _ _ _ => (trodAll_cons_mk (shut_bool u4 _) trodAll_mk0))
    (ok_one (by kernel_rfl) rfl (okWide_bool_mk u4 _))⟩
/-- A world for the witness: the settled one, the listed variables holding what is laid. -/
noncomputable def laidWorld (os : Os) : World :=
  { World.holding Tryd.prog os ⟨#[], #[], []⟩ with heap := ((World.holding Tryd.prog os ⟨#[], #[], []⟩).heap).modify 0 (Sh.laidBlock (Rows.laid_turnstone_turnstonehand_words : DataW Unit)) }
theorem laid_met (os : Os) : laidMet Tryd.prog Rows.tokenLinesRow.laid ((laidWorld os).forCall (fun _ _ => 0) ⟨#[], #[.slice none 0 0, .slice none 0 0], []⟩).memory :=
  laidMet_of_run' 8 (by kernel_rfl) (by kernel_rfl)
theorem reads (os : Os) {H : Type} (enc : TypeId × Value → H) : ∃ places, DataW.whole enc Tryd.prog ((laidWorld os).forCall (fun _ _ => 0) ⟨#[], #[.slice none 0 0, .slice none 0 0], []⟩).memory Tryd.f5.params.toList Rows.tokenLinesSpec.vars false (#[.slice none 0 0, .slice none 0 0] : Array Value).toList 8 = some ([.nil, .nil], [], places) :=
  ⟨[], by kernel_rfl⟩

theorem lifted (os : Os) (started : os.Started) (H : Type) (enc : TypeId × Value → H) (F : Stop.Interp) :
    ReturnsInHanded {} Tryd.checked os 5 .any ((OpenSpec.ofChange Rows.tokenLinesSpec).preRow enc Tryd.prog Tryd.f5 Rows.tokenLinesRow.domain false Rows.tokenLinesRow.laid) (((OpenSpec.ofChange Rows.tokenLinesSpec).at F).post enc Tryd.prog Tryd.f5 false true false false) := by
  obtain ⟨places, hx⟩ := reads os enc
  refine returnsInHanded_of_row (C := Tryd.checked) (s := OpenSpec.ofChange Rows.tokenLinesSpec) own started (by kernel_rfl) Tryd.func5
    (witness_row_at (enc := enc) (C := Tryd.checked) false (laidWorld os) #[.slice none 0 0, .slice none 0 0] rfl (by kernel_rfl) (by kernel_rfl) (by kernel_rfl)
      (OpenSpec.preRow_of_cond 8 hx (by kernel_rfl) (fun k hk => by cases hk) (by kernel_rfl) (laid_met os))) ?_
  intro W base args ds gs before hval hW _ _ hwt hL _ _
  exact contract H enc W base args ds gs before hval hW hL

theorem said : Rows.TokenLinesSaid :=
  OpenClaim.holds_of_cond 5 Tryd.f5 rfl rfl rfl rfl rfl rfl rfl ⟨rfl, rfl, rfl, rfl, rfl⟩ rfl rfl rfl rfl rfl (by kernel_rfl) Tryd.func5 (by kernel_rfl)
    (of_decide_eq_true (by kernel_rfl)) (by unfold Func.isWrapper; first | (rw [if_pos (by decide +kernel)]; kernel_rfl) | (rw [if_neg (by decide +kernel)]; exact ⟨rfl, rfl⟩))
    (fun os started H enc _ F => by rw [OpenClaim.pre_eq_preRow]; exact lifted os started H enc F)

theorem plain (f : FuncId) (fn : Func) (hf : Tryd.pinned.checked.prog.funcNamed "turnstone/turnstonelaw3.TokenLines" = some f) (hfn : Tryd.pinned.checked.prog.funcs[f]? = some fn) :
    false = Tryd.pinned.checked.prog.looks [] ∧ ∀ (j : Nat) t, fn.params[j]? = some t → Tryd.pinned.checked.prog.wantsStandIn t = false := by
  obtain rfl : f = 5 := Option.some.inj ((show Tryd.prog.funcNamed "turnstone/turnstonelaw3.TokenLines" = some 5 by kernel_rfl).symm.trans hf) |>.symm
  obtain rfl : fn = Tryd.f5 := (Option.some.inj (Tryd.func5.symm.trans hfn)).symm
  refine ⟨by kernel_rfl, fun j t ht => ?_⟩
  rw [Tryd.params5] at ht
  rcases j with _ | _ | _
  all_goals first
    | (simp at ht; done)
    | (obtain rfl := Option.some.inj ht; kernel_rfl)
    | (simp at ht; subst ht; kernel_rfl)

theorem proved : Rows.TokenLinesCardSaid :=
  Claim7.holds_tied_plain_at .later [] _ _ _ _ said (fun _ h => by cases h) (by kernel_rfl) (fun _ h => by cases h) tokenLines_row_tie rfl ⟨rfl, rfl⟩ (by kernel_rfl) rfl plain (by kernel_rfl)
#print axioms proved
end Go.Proofs.YtgomgdbapgibjaaDoor.tokenLines

