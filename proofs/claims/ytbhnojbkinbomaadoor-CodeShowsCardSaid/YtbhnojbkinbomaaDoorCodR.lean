/-
  This text proves what the document's Show writes, over the abstract run.
  Condition: nothing is known of the calls ahead ('S f = []'); the table of names is laid.
-/
import Derived.Test.YtbhnojbkinbomaaDoorCodS
set_option maxRecDepth 100000
set_option linter.unusedSimpArgs false
set_option linter.unusedVariables false
namespace Go.Proofs.YtbhnojbkinbomaaDoor.base
open Go.Sh gen
variable {S : Sums} {m : Mem}
structure Nr (S : Sums) : Prop where
  sh : S 18 = []
  nm : S 14 = []
  dg : S 25 = []
  bl : S 29 = []
set_option maxHeartbeats 16000000 in
theorem rshow_run (hN : Nr S) {e : TypeId} (hg : Rdo m 0 opsC e 0) {ao : Option Addr} {l : List Ix} {fam : Nat} (hl : Rs m ao l.length (ixv l) 26 3 fam) (hok : ∀ x ∈ l, ixOk x) (hn : l.length ≤ 1000) :
    ∃ v m1, callw Tryd.prog TT S 18 [.agg #[.string ⟨#[]⟩, .slice none 0 0, .int .i64 0, .slice none 0 0, .slice ao l.length l.length]] m = some (v, m1) ∧ v = .string ⟨(showT l l.length).toArray⟩ ∧ Keeps m m1 [] := by
  obtain ⟨oP, kP, nP⟩ := new_own (m := m) (cs := [.string ⟨#[]⟩, .slice none 0 0, .int .i64 0, .slice none 0 0, .slice ao l.length l.length]) (e := 36) rfl
  obtain ⟨pb, hpb⟩ : ∃ pb, m.next = pb := ⟨_, rfl⟩
  obtain ⟨m1, hm1⟩ : ∃ m1, m.new [.string ⟨#[]⟩, .slice none 0 0, .int .i64 0, .slice none 0 0, .slice ao l.length l.length] 36 = m1 := ⟨_, rfl⟩
  rw [hm1] at oP kP nP
  refine fn_w 37 [37, 37, 37, 37, 37, 37, 37, 37, 37, 37, 37, 37, 37, 37, 37, 59, 59] k18 hN.sh rfl ?_
  simp [-Int.natCast_add, -BitVec.toNat_or, -BitVec.toNat_ofInt, -BitVec.toNat_and, box_of b36, fieldAddr_of fa36_4, load_of ld33, len_slice u33, index_slice u33 sz26, load_agg ld26, alloc_of zo26, store_of sz26, fieldAddr_of fa26_0, load_of ld3, bin_str u9 .add (Or.inl rfl), fieldAddr_of fa26_1, fieldAddr_of fa26_2, hm1]
  rw [hpb] at oP nP ⊢
  refine wsem_loop 37 [37, 37, 37, 37, 37, 37, 37, 37, 37, 37, 37, 37, 37, 37, 37, 59, 59] (fun d E mE => ∃ (i : Nat) (T : List UInt8), l.length - i = d ∧ i ≤ l.length ∧ T = showT l i ∧ Keeps m1 mE [] ∧
    E = [(1, .pointer (some ⟨pb, 0, none⟩)), (3, .string ⟨T.toArray⟩), (4, .int .i64 i)]) _ ⟨_, ⟨0, [], rfl, by omega, by simp [showT], .refl _ _, rfl⟩, ⟨by rfl, by rfl, by rfl, trivial⟩⟩ ?_
  rintro d E mE ih ⟨i, T, hd, hi, hT, kE, rfl⟩
  have i4 : (i : Int) ≤ 9223372036854775807 := by omega
  have l4 := (oP.keep kE (by simp)).load1 (off := 4) rfl
  by_cases h1 : i < l.length
  · have i1 : (i : Int) < l.length := by omega
    have wi : IntKind.i64.wrap ((i : Int) + 1) = ((i + 1 : Nat) : Int) := by rw [wrap_i64 (by omega) (by omega)]; omega
    have hlE := (hl.keep kP (by simp)).keep kE (by simp)
    obtain ⟨lb, hlo, ol⟩ := hlE.rdo (by omega)
    have hst := showT_succ h1
    obtain ⟨x, hx⟩ : ∃ x, l[i] = x := ⟨_, rfl⟩
    have hxo := hok x (by rw [← hx]; exact List.getElem_mem h1)
    have ld : loadRow mE ⟨lb, i * 3, none⟩ 3 = some (ixl x) := by rw [ol.load 3 (by rw [ixv_len]; omega), ixv_win h1, hx]
    rw [hx] at hst
    obtain ⟨op, A, C⟩ := x
    obtain ⟨hop, hA, hC⟩ := hxo
    dsimp only at hop hA hC
    have hsl := show_len l i
    rw [← hT] at hst hsl
    obtain ⟨oZ, kZ, nZ⟩ := new_own (m := mE) (cs := [.int .i64 0, .int .i64 0, .int .i64 0]) (e := 26) rfl
    obtain ⟨bx, hbx⟩ : ∃ bx, mE.next = bx := ⟨_, rfl⟩
    obtain ⟨m3, e3, oX, kX⟩ := store_own (r := _) rfl oZ (off := 0) (vs := ixl (op, A, C)) (by simp) (by simp [one_int])
    simp [over] at oX
    have k3 := kZ.fresh kX (by simp)
    rw [hbx] at oX nZ e3
    have q0 := oX.load1 (off := 0) rfl
    have hg3 := ((hg.keep kP (by simp)).keep kE (by simp)).keep k3 (by simp)
    have nm := rname_run hN.nm hg3 op
    have fN := fmt_len (x := op)
    have fI := fmt_len (x := (i : Int))
    have fA := fmt_len (x := A)
    have fC := fmt_len (x := C)
    have nN := nm_len op
    obtain ⟨_, m4, c4, rfl, k4⟩ := digs_run (m := m3) hN.dg hN.bl hop.1 hop.2
    obtain ⟨F, hF⟩ : ∃ F, fmt op = F := ⟨_, rfl⟩
    rw [hF] at c4 fN
    have oX4 := oX.keep k4 (by simp)
    apply cut1_ (fun (mJ : Mem) => Keeps m3 mJ [] ∧ Own mJ bx (ixl (op, A, C)) 26 bx)
    case main =>
      by_cases hne : nameF op = []
      · have en : nmF op = 111 :: 112 :: F := by unfold nmF; rw [if_pos hne, hF]
        obtain ⟨mX, hX⟩ : ∃ mX, m4 = mX := ⟨_, rfl⟩
        intro meth
        simp (disch := first | omega | (simp only [List.length_append, List.length_cons, List.length_nil]; omega) | rfl) [-Int.natCast_add, -strOp, add_short, fold_k, fold_0, -w18_8, -BitVec.toNat_or, -BitVec.toNat_ofInt, -BitVec.toNat_and, box_of b36, fieldAddr_of fa36_4, load_of ld33, len_slice u33, index_slice u33 sz26, load_agg ld26, alloc_of zo26, store_of sz26, fieldAddr_of fa26_0, load_of ld3, bin_str u9 .add (Or.inl rfl), fieldAddr_of fa26_1, fieldAddr_of fa26_2, l4, h1, i1, i4, hlo, ld, hbx, e3, q0, nm, hne, c4]
        rw [hX]
        exact w_sub (E := [(1, .pointer (some ⟨pb, 0, none⟩)), (3, .string ⟨T.toArray⟩), (4, .int .i64 i), (5, .pointer (some ⟨bx, 0, none⟩)), (6, .string ⟨(nmF op).toArray⟩)]) (meth mX ⟨hX ▸ k4, hX ▸ oX4⟩) ⟨by rfl, by rfl, by rfl, by rfl, by rw [en]; rfl, trivial⟩
      · have en : nmF op = nameF op := by unfold nmF; rw [if_neg hne]
        have hie : (nameF op).isEmpty = false := by simpa using hne
        intro meth
        simp (disch := first | omega | (simp only [List.length_append, List.length_cons, List.length_nil]; omega) | rfl) [-Int.natCast_add, -strOp, add_short, fold_k, fold_0, -w18_8, -BitVec.toNat_or, -BitVec.toNat_ofInt, -BitVec.toNat_and, box_of b36, fieldAddr_of fa36_4, load_of ld33, len_slice u33, index_slice u33 sz26, load_agg ld26, alloc_of zo26, store_of sz26, fieldAddr_of fa26_0, load_of ld3, bin_str u9 .add (Or.inl rfl), fieldAddr_of fa26_1, fieldAddr_of fa26_2, l4, h1, i1, i4, hlo, ld, hbx, e3, q0, nm, hne, hie]
        obtain ⟨mX, hX⟩ : ∃ mX, m3 = mX := ⟨_, rfl⟩
        rw [hX]
        exact w_sub (E := [(1, .pointer (some ⟨pb, 0, none⟩)), (3, .string ⟨T.toArray⟩), (4, .int .i64 i), (5, .pointer (some ⟨bx, 0, none⟩)), (6, .string ⟨(nmF op).toArray⟩)]) (meth mX ⟨hX ▸ .refl _ _, hX ▸ oX⟩) ⟨by rfl, by rfl, by rfl, by rfl, by rw [en]; rfl, trivial⟩
    clear oX oZ kZ kX q0 e3 oX4 c4 k4 hF
    rintro mJ ⟨kJ, oJ⟩
    have kj : Keeps m1 mJ [] := (kE.trans k3).trans kJ
    obtain ⟨_, m4, c4, rfl, k4'⟩ := digs_run (m := mJ) hN.dg hN.bl (x := (i : Int)) (by omega) (by omega)
    have k4 := kj.trans k4'
    have o4 := oJ.keep k4' (by simp)
    have r0 := o4.load1 (off := 0) rfl
    have r1 := o4.load1 (off := 1) rfl
    have r2 := o4.load1 (off := 2) rfl
    obtain ⟨_, m5, c5, rfl, k5'⟩ := digs_run (m := m4) hN.dg hN.bl hA.1 hA.2
    have k5 := k4.trans k5'
    have o5 := o4.keep k5' (by simp)
    have t2 := o5.load1 (off := 2) rfl
    have t1 := o5.load1 (off := 1) rfl
    obtain ⟨_, m6, c6, rfl, k6'⟩ := digs_run (m := m5) hN.dg hN.bl hC.1 hC.2
    have k6 := k5.trans k6'
    have o6 := o5.keep k6' (by simp)
    have u2 := o6.load1 (off := 2) rfl
    have u1 := o6.load1 (off := 1) rfl
    have hh : headF i op = fmt (i : Int) ++ 32 :: nmF op := rfl
    have htl : tailF op A C = if shownF op = 0 then [] else if shownF op = 1 then 32 :: fmt A else 32 :: (fmt A ++ 32 :: fmt C) := rfl
    have hle : lineF i (op, A, C) = headF i op ++ (tailF op A C ++ [10]) := rfl
    have fhl : (headF i op).length ≤ 60 := by rw [hh]; simp; omega
    have flt : (tailF op A C).length ≤ 60 := by
      rw [htl]
      split
      · simp
      · split
        · simp; omega
        · simp; omega
    generalize nmF op = nmx at *
    generalize fmt (i : Int) = fi at *
    generalize hfA : fmt A = FA at *
    generalize hfC : fmt C = FC at *
    rw [hh] at hle
    apply cut2_ (fun (mJ : Mem) (s : List UInt8) => Keeps m1 mJ [] ∧ s = T ++ (fi ++ 32 :: nmx) ++ tailF op A C)
    case main =>
      by_cases n1 : op = 1
      · have es : shownF op = 1 := by rw [n1]; rfl
        intro meth
        simp (disch := first | omega | (simp only [List.length_append, List.length_cons, List.length_nil]; omega) | rfl) [-Int.natCast_add, -strOp, add_short, fold_k, fold_0, -w18_29, -BitVec.toNat_or, -BitVec.toNat_ofInt, -BitVec.toNat_and, box_of b36, fieldAddr_of fa36_4, load_of ld33, len_slice u33, index_slice u33 sz26, load_agg ld26, alloc_of zo26, store_of sz26, fieldAddr_of fa26_0, load_of ld3, bin_str u9 .add (Or.inl rfl), fieldAddr_of fa26_1, fieldAddr_of fa26_2, c4, r0, n1, c5, r1]
        obtain ⟨mX, hX⟩ : ∃ mX, m5 = mX := ⟨_, rfl⟩
        obtain ⟨sX, hsX⟩ : ∃ sX : List UInt8, T ++ (fi ++ 32 :: nmx) ++ 32 :: FA = sX := ⟨_, rfl⟩
        rw [hX]
        exact w_sub (E := [(1, .pointer (some ⟨pb, 0, none⟩)), (3, .string ⟨sX.toArray⟩), (4, .int .i64 i)]) (meth mX sX ⟨by rw [← hX]; exact k5, by rw [← hsX, htl, es]; simp⟩) ⟨by rfl, by rw [← hsX]; simp [lget], by rfl, trivial⟩
      by_cases n2 : op = 2
      · have es : shownF op = 1 := by rw [n2]; rfl
        intro meth
        simp (disch := first | omega | (simp only [List.length_append, List.length_cons, List.length_nil]; omega) | rfl) [-Int.natCast_add, -strOp, add_short, fold_k, fold_0, -w18_29, -BitVec.toNat_or, -BitVec.toNat_ofInt, -BitVec.toNat_and, box_of b36, fieldAddr_of fa36_4, load_of ld33, len_slice u33, index_slice u33 sz26, load_agg ld26, alloc_of zo26, store_of sz26, fieldAddr_of fa26_0, load_of ld3, bin_str u9 .add (Or.inl rfl), fieldAddr_of fa26_1, fieldAddr_of fa26_2, c4, r0, n2, c5, r1]
        obtain ⟨mX, hX⟩ : ∃ mX, m5 = mX := ⟨_, rfl⟩
        obtain ⟨sX, hsX⟩ : ∃ sX : List UInt8, T ++ (fi ++ 32 :: nmx) ++ 32 :: FA = sX := ⟨_, rfl⟩
        rw [hX]
        exact w_sub (E := [(1, .pointer (some ⟨pb, 0, none⟩)), (3, .string ⟨sX.toArray⟩), (4, .int .i64 i)]) (meth mX sX ⟨by rw [← hX]; exact k5, by rw [← hsX, htl, es]; simp⟩) ⟨by rfl, by rw [← hsX]; simp [lget], by rfl, trivial⟩
      by_cases n3 : op = 3
      · have es : shownF op = 1 := by rw [n3]; rfl
        intro meth
        simp (disch := first | omega | (simp only [List.length_append, List.length_cons, List.length_nil]; omega) | rfl) [-Int.natCast_add, -strOp, add_short, fold_k, fold_0, -w18_29, -BitVec.toNat_or, -BitVec.toNat_ofInt, -BitVec.toNat_and, box_of b36, fieldAddr_of fa36_4, load_of ld33, len_slice u33, index_slice u33 sz26, load_agg ld26, alloc_of zo26, store_of sz26, fieldAddr_of fa26_0, load_of ld3, bin_str u9 .add (Or.inl rfl), fieldAddr_of fa26_1, fieldAddr_of fa26_2, c4, r0, n3, c5, r1]
        obtain ⟨mX, hX⟩ : ∃ mX, m5 = mX := ⟨_, rfl⟩
        obtain ⟨sX, hsX⟩ : ∃ sX : List UInt8, T ++ (fi ++ 32 :: nmx) ++ 32 :: FA = sX := ⟨_, rfl⟩
        rw [hX]
        exact w_sub (E := [(1, .pointer (some ⟨pb, 0, none⟩)), (3, .string ⟨sX.toArray⟩), (4, .int .i64 i)]) (meth mX sX ⟨by rw [← hX]; exact k5, by rw [← hsX, htl, es]; simp⟩) ⟨by rfl, by rw [← hsX]; simp [lget], by rfl, trivial⟩
      by_cases n4 : op = 4
      · have es : shownF op = 1 := by rw [n4]; rfl
        intro meth
        simp (disch := first | omega | (simp only [List.length_append, List.length_cons, List.length_nil]; omega) | rfl) [-Int.natCast_add, -strOp, add_short, fold_k, fold_0, -w18_29, -BitVec.toNat_or, -BitVec.toNat_ofInt, -BitVec.toNat_and, box_of b36, fieldAddr_of fa36_4, load_of ld33, len_slice u33, index_slice u33 sz26, load_agg ld26, alloc_of zo26, store_of sz26, fieldAddr_of fa26_0, load_of ld3, bin_str u9 .add (Or.inl rfl), fieldAddr_of fa26_1, fieldAddr_of fa26_2, c4, r0, n4, c5, r1]
        obtain ⟨mX, hX⟩ : ∃ mX, m5 = mX := ⟨_, rfl⟩
        obtain ⟨sX, hsX⟩ : ∃ sX : List UInt8, T ++ (fi ++ 32 :: nmx) ++ 32 :: FA = sX := ⟨_, rfl⟩
        rw [hX]
        exact w_sub (E := [(1, .pointer (some ⟨pb, 0, none⟩)), (3, .string ⟨sX.toArray⟩), (4, .int .i64 i)]) (meth mX sX ⟨by rw [← hX]; exact k5, by rw [← hsX, htl, es]; simp⟩) ⟨by rfl, by rw [← hsX]; simp [lget], by rfl, trivial⟩
      by_cases n5 : op = 5
      · have es : shownF op = 1 := by rw [n5]; rfl
        intro meth
        simp (disch := first | omega | (simp only [List.length_append, List.length_cons, List.length_nil]; omega) | rfl) [-Int.natCast_add, -strOp, add_short, fold_k, fold_0, -w18_29, -BitVec.toNat_or, -BitVec.toNat_ofInt, -BitVec.toNat_and, box_of b36, fieldAddr_of fa36_4, load_of ld33, len_slice u33, index_slice u33 sz26, load_agg ld26, alloc_of zo26, store_of sz26, fieldAddr_of fa26_0, load_of ld3, bin_str u9 .add (Or.inl rfl), fieldAddr_of fa26_1, fieldAddr_of fa26_2, c4, r0, n5, c5, r1]
        obtain ⟨mX, hX⟩ : ∃ mX, m5 = mX := ⟨_, rfl⟩
        obtain ⟨sX, hsX⟩ : ∃ sX : List UInt8, T ++ (fi ++ 32 :: nmx) ++ 32 :: FA = sX := ⟨_, rfl⟩
        rw [hX]
        exact w_sub (E := [(1, .pointer (some ⟨pb, 0, none⟩)), (3, .string ⟨sX.toArray⟩), (4, .int .i64 i)]) (meth mX sX ⟨by rw [← hX]; exact k5, by rw [← hsX, htl, es]; simp⟩) ⟨by rfl, by rw [← hsX]; simp [lget], by rfl, trivial⟩
      by_cases n6 : op = 6
      · have es : shownF op = 1 := by rw [n6]; rfl
        intro meth
        simp (disch := first | omega | (simp only [List.length_append, List.length_cons, List.length_nil]; omega) | rfl) [-Int.natCast_add, -strOp, add_short, fold_k, fold_0, -w18_29, -BitVec.toNat_or, -BitVec.toNat_ofInt, -BitVec.toNat_and, box_of b36, fieldAddr_of fa36_4, load_of ld33, len_slice u33, index_slice u33 sz26, load_agg ld26, alloc_of zo26, store_of sz26, fieldAddr_of fa26_0, load_of ld3, bin_str u9 .add (Or.inl rfl), fieldAddr_of fa26_1, fieldAddr_of fa26_2, c4, r0, n6, c5, r1]
        obtain ⟨mX, hX⟩ : ∃ mX, m5 = mX := ⟨_, rfl⟩
        obtain ⟨sX, hsX⟩ : ∃ sX : List UInt8, T ++ (fi ++ 32 :: nmx) ++ 32 :: FA = sX := ⟨_, rfl⟩
        rw [hX]
        exact w_sub (E := [(1, .pointer (some ⟨pb, 0, none⟩)), (3, .string ⟨sX.toArray⟩), (4, .int .i64 i)]) (meth mX sX ⟨by rw [← hX]; exact k5, by rw [← hsX, htl, es]; simp⟩) ⟨by rfl, by rw [← hsX]; simp [lget], by rfl, trivial⟩
      by_cases n26 : op = 26
      · have es : shownF op = 1 := by rw [n26]; rfl
        intro meth
        simp (disch := first | omega | (simp only [List.length_append, List.length_cons, List.length_nil]; omega) | rfl) [-Int.natCast_add, -strOp, add_short, fold_k, fold_0, -w18_29, -BitVec.toNat_or, -BitVec.toNat_ofInt, -BitVec.toNat_and, box_of b36, fieldAddr_of fa36_4, load_of ld33, len_slice u33, index_slice u33 sz26, load_agg ld26, alloc_of zo26, store_of sz26, fieldAddr_of fa26_0, load_of ld3, bin_str u9 .add (Or.inl rfl), fieldAddr_of fa26_1, fieldAddr_of fa26_2, c4, r0, n26, c5, r1]
        obtain ⟨mX, hX⟩ : ∃ mX, m5 = mX := ⟨_, rfl⟩
        obtain ⟨sX, hsX⟩ : ∃ sX : List UInt8, T ++ (fi ++ 32 :: nmx) ++ 32 :: FA = sX := ⟨_, rfl⟩
        rw [hX]
        exact w_sub (E := [(1, .pointer (some ⟨pb, 0, none⟩)), (3, .string ⟨sX.toArray⟩), (4, .int .i64 i)]) (meth mX sX ⟨by rw [← hX]; exact k5, by rw [← hsX, htl, es]; simp⟩) ⟨by rfl, by rw [← hsX]; simp [lget], by rfl, trivial⟩
      by_cases n27 : op = 27
      · have es : shownF op = 1 := by rw [n27]; rfl
        intro meth
        simp (disch := first | omega | (simp only [List.length_append, List.length_cons, List.length_nil]; omega) | rfl) [-Int.natCast_add, -strOp, add_short, fold_k, fold_0, -w18_29, -BitVec.toNat_or, -BitVec.toNat_ofInt, -BitVec.toNat_and, box_of b36, fieldAddr_of fa36_4, load_of ld33, len_slice u33, index_slice u33 sz26, load_agg ld26, alloc_of zo26, store_of sz26, fieldAddr_of fa26_0, load_of ld3, bin_str u9 .add (Or.inl rfl), fieldAddr_of fa26_1, fieldAddr_of fa26_2, c4, r0, n27, c5, r1]
        obtain ⟨mX, hX⟩ : ∃ mX, m5 = mX := ⟨_, rfl⟩
        obtain ⟨sX, hsX⟩ : ∃ sX : List UInt8, T ++ (fi ++ 32 :: nmx) ++ 32 :: FA = sX := ⟨_, rfl⟩
        rw [hX]
        exact w_sub (E := [(1, .pointer (some ⟨pb, 0, none⟩)), (3, .string ⟨sX.toArray⟩), (4, .int .i64 i)]) (meth mX sX ⟨by rw [← hX]; exact k5, by rw [← hsX, htl, es]; simp⟩) ⟨by rfl, by rw [← hsX]; simp [lget], by rfl, trivial⟩
      by_cases n28 : op = 28
      · have es : shownF op = 1 := by rw [n28]; rfl
        intro meth
        simp (disch := first | omega | (simp only [List.length_append, List.length_cons, List.length_nil]; omega) | rfl) [-Int.natCast_add, -strOp, add_short, fold_k, fold_0, -w18_29, -BitVec.toNat_or, -BitVec.toNat_ofInt, -BitVec.toNat_and, box_of b36, fieldAddr_of fa36_4, load_of ld33, len_slice u33, index_slice u33 sz26, load_agg ld26, alloc_of zo26, store_of sz26, fieldAddr_of fa26_0, load_of ld3, bin_str u9 .add (Or.inl rfl), fieldAddr_of fa26_1, fieldAddr_of fa26_2, c4, r0, n28, c5, r1]
        obtain ⟨mX, hX⟩ : ∃ mX, m5 = mX := ⟨_, rfl⟩
        obtain ⟨sX, hsX⟩ : ∃ sX : List UInt8, T ++ (fi ++ 32 :: nmx) ++ 32 :: FA = sX := ⟨_, rfl⟩
        rw [hX]
        exact w_sub (E := [(1, .pointer (some ⟨pb, 0, none⟩)), (3, .string ⟨sX.toArray⟩), (4, .int .i64 i)]) (meth mX sX ⟨by rw [← hX]; exact k5, by rw [← hsX, htl, es]; simp⟩) ⟨by rfl, by rw [← hsX]; simp [lget], by rfl, trivial⟩
      by_cases n29 : op = 29
      · have es : shownF op = 1 := by rw [n29]; rfl
        intro meth
        simp (disch := first | omega | (simp only [List.length_append, List.length_cons, List.length_nil]; omega) | rfl) [-Int.natCast_add, -strOp, add_short, fold_k, fold_0, -w18_29, -BitVec.toNat_or, -BitVec.toNat_ofInt, -BitVec.toNat_and, box_of b36, fieldAddr_of fa36_4, load_of ld33, len_slice u33, index_slice u33 sz26, load_agg ld26, alloc_of zo26, store_of sz26, fieldAddr_of fa26_0, load_of ld3, bin_str u9 .add (Or.inl rfl), fieldAddr_of fa26_1, fieldAddr_of fa26_2, c4, r0, n29, c5, r1]
        obtain ⟨mX, hX⟩ : ∃ mX, m5 = mX := ⟨_, rfl⟩
        obtain ⟨sX, hsX⟩ : ∃ sX : List UInt8, T ++ (fi ++ 32 :: nmx) ++ 32 :: FA = sX := ⟨_, rfl⟩
        rw [hX]
        exact w_sub (E := [(1, .pointer (some ⟨pb, 0, none⟩)), (3, .string ⟨sX.toArray⟩), (4, .int .i64 i)]) (meth mX sX ⟨by rw [← hX]; exact k5, by rw [← hsX, htl, es]; simp⟩) ⟨by rfl, by rw [← hsX]; simp [lget], by rfl, trivial⟩
      by_cases n34 : op = 34
      · have es : shownF op = 1 := by rw [n34]; rfl
        intro meth
        simp (disch := first | omega | (simp only [List.length_append, List.length_cons, List.length_nil]; omega) | rfl) [-Int.natCast_add, -strOp, add_short, fold_k, fold_0, -w18_29, -BitVec.toNat_or, -BitVec.toNat_ofInt, -BitVec.toNat_and, box_of b36, fieldAddr_of fa36_4, load_of ld33, len_slice u33, index_slice u33 sz26, load_agg ld26, alloc_of zo26, store_of sz26, fieldAddr_of fa26_0, load_of ld3, bin_str u9 .add (Or.inl rfl), fieldAddr_of fa26_1, fieldAddr_of fa26_2, c4, r0, n34, c5, r1]
        obtain ⟨mX, hX⟩ : ∃ mX, m5 = mX := ⟨_, rfl⟩
        obtain ⟨sX, hsX⟩ : ∃ sX : List UInt8, T ++ (fi ++ 32 :: nmx) ++ 32 :: FA = sX := ⟨_, rfl⟩
        rw [hX]
        exact w_sub (E := [(1, .pointer (some ⟨pb, 0, none⟩)), (3, .string ⟨sX.toArray⟩), (4, .int .i64 i)]) (meth mX sX ⟨by rw [← hX]; exact k5, by rw [← hsX, htl, es]; simp⟩) ⟨by rfl, by rw [← hsX]; simp [lget], by rfl, trivial⟩
      by_cases n35 : op = 35
      · have es : shownF op = 1 := by rw [n35]; rfl
        intro meth
        simp (disch := first | omega | (simp only [List.length_append, List.length_cons, List.length_nil]; omega) | rfl) [-Int.natCast_add, -strOp, add_short, fold_k, fold_0, -w18_29, -BitVec.toNat_or, -BitVec.toNat_ofInt, -BitVec.toNat_and, box_of b36, fieldAddr_of fa36_4, load_of ld33, len_slice u33, index_slice u33 sz26, load_agg ld26, alloc_of zo26, store_of sz26, fieldAddr_of fa26_0, load_of ld3, bin_str u9 .add (Or.inl rfl), fieldAddr_of fa26_1, fieldAddr_of fa26_2, c4, r0, n35, c5, r1]
        obtain ⟨mX, hX⟩ : ∃ mX, m5 = mX := ⟨_, rfl⟩
        obtain ⟨sX, hsX⟩ : ∃ sX : List UInt8, T ++ (fi ++ 32 :: nmx) ++ 32 :: FA = sX := ⟨_, rfl⟩
        rw [hX]
        exact w_sub (E := [(1, .pointer (some ⟨pb, 0, none⟩)), (3, .string ⟨sX.toArray⟩), (4, .int .i64 i)]) (meth mX sX ⟨by rw [← hX]; exact k5, by rw [← hsX, htl, es]; simp⟩) ⟨by rfl, by rw [← hsX]; simp [lget], by rfl, trivial⟩
      by_cases n38 : op = 38
      · have es : shownF op = 1 := by rw [n38]; rfl
        intro meth
        simp (disch := first | omega | (simp only [List.length_append, List.length_cons, List.length_nil]; omega) | rfl) [-Int.natCast_add, -strOp, add_short, fold_k, fold_0, -w18_29, -BitVec.toNat_or, -BitVec.toNat_ofInt, -BitVec.toNat_and, box_of b36, fieldAddr_of fa36_4, load_of ld33, len_slice u33, index_slice u33 sz26, load_agg ld26, alloc_of zo26, store_of sz26, fieldAddr_of fa26_0, load_of ld3, bin_str u9 .add (Or.inl rfl), fieldAddr_of fa26_1, fieldAddr_of fa26_2, c4, r0, n38, c5, r1]
        obtain ⟨mX, hX⟩ : ∃ mX, m5 = mX := ⟨_, rfl⟩
        obtain ⟨sX, hsX⟩ : ∃ sX : List UInt8, T ++ (fi ++ 32 :: nmx) ++ 32 :: FA = sX := ⟨_, rfl⟩
        rw [hX]
        exact w_sub (E := [(1, .pointer (some ⟨pb, 0, none⟩)), (3, .string ⟨sX.toArray⟩), (4, .int .i64 i)]) (meth mX sX ⟨by rw [← hX]; exact k5, by rw [← hsX, htl, es]; simp⟩) ⟨by rfl, by rw [← hsX]; simp [lget], by rfl, trivial⟩
      by_cases n39 : op = 39
      · have es : shownF op = 1 := by rw [n39]; rfl
        intro meth
        simp (disch := first | omega | (simp only [List.length_append, List.length_cons, List.length_nil]; omega) | rfl) [-Int.natCast_add, -strOp, add_short, fold_k, fold_0, -w18_29, -BitVec.toNat_or, -BitVec.toNat_ofInt, -BitVec.toNat_and, box_of b36, fieldAddr_of fa36_4, load_of ld33, len_slice u33, index_slice u33 sz26, load_agg ld26, alloc_of zo26, store_of sz26, fieldAddr_of fa26_0, load_of ld3, bin_str u9 .add (Or.inl rfl), fieldAddr_of fa26_1, fieldAddr_of fa26_2, c4, r0, n39, c5, r1]
        obtain ⟨mX, hX⟩ : ∃ mX, m5 = mX := ⟨_, rfl⟩
        obtain ⟨sX, hsX⟩ : ∃ sX : List UInt8, T ++ (fi ++ 32 :: nmx) ++ 32 :: FA = sX := ⟨_, rfl⟩
        rw [hX]
        exact w_sub (E := [(1, .pointer (some ⟨pb, 0, none⟩)), (3, .string ⟨sX.toArray⟩), (4, .int .i64 i)]) (meth mX sX ⟨by rw [← hX]; exact k5, by rw [← hsX, htl, es]; simp⟩) ⟨by rfl, by rw [← hsX]; simp [lget], by rfl, trivial⟩
      by_cases n41 : op = 41
      · have es : shownF op = 1 := by rw [n41]; rfl
        intro meth
        simp (disch := first | omega | (simp only [List.length_append, List.length_cons, List.length_nil]; omega) | rfl) [-Int.natCast_add, -strOp, add_short, fold_k, fold_0, -w18_29, -BitVec.toNat_or, -BitVec.toNat_ofInt, -BitVec.toNat_and, box_of b36, fieldAddr_of fa36_4, load_of ld33, len_slice u33, index_slice u33 sz26, load_agg ld26, alloc_of zo26, store_of sz26, fieldAddr_of fa26_0, load_of ld3, bin_str u9 .add (Or.inl rfl), fieldAddr_of fa26_1, fieldAddr_of fa26_2, c4, r0, n41, c5, r1]
        obtain ⟨mX, hX⟩ : ∃ mX, m5 = mX := ⟨_, rfl⟩
        obtain ⟨sX, hsX⟩ : ∃ sX : List UInt8, T ++ (fi ++ 32 :: nmx) ++ 32 :: FA = sX := ⟨_, rfl⟩
        rw [hX]
        exact w_sub (E := [(1, .pointer (some ⟨pb, 0, none⟩)), (3, .string ⟨sX.toArray⟩), (4, .int .i64 i)]) (meth mX sX ⟨by rw [← hX]; exact k5, by rw [← hsX, htl, es]; simp⟩) ⟨by rfl, by rw [← hsX]; simp [lget], by rfl, trivial⟩
      by_cases n36 : op = 36
      · have es : shownF op = 2 := by rw [n36]; rfl
        intro meth
        simp (disch := first | omega | (simp only [List.length_append, List.length_cons, List.length_nil]; omega) | rfl) [-Int.natCast_add, -strOp, add_short, fold_k, fold_0, -w18_29, -BitVec.toNat_or, -BitVec.toNat_ofInt, -BitVec.toNat_and, box_of b36, fieldAddr_of fa36_4, load_of ld33, len_slice u33, index_slice u33 sz26, load_agg ld26, alloc_of zo26, store_of sz26, fieldAddr_of fa26_0, load_of ld3, bin_str u9 .add (Or.inl rfl), fieldAddr_of fa26_1, fieldAddr_of fa26_2, c4, r0, n36, c5, c6, r1, r2, t1, t2, u1, u2]
        obtain ⟨mX, hX⟩ : ∃ mX, m6 = mX := ⟨_, rfl⟩
        obtain ⟨sX, hsX⟩ : ∃ sX : List UInt8, T ++ (fi ++ 32 :: nmx) ++ 32 :: (FA ++ 32 :: FC) = sX := ⟨_, rfl⟩
        rw [hX]
        exact w_sub (E := [(1, .pointer (some ⟨pb, 0, none⟩)), (3, .string ⟨sX.toArray⟩), (4, .int .i64 i)]) (meth mX sX ⟨by rw [← hX]; exact k6, by rw [← hsX, htl, es]; simp⟩) ⟨by rfl, by rw [← hsX]; simp [lget], by rfl, trivial⟩
      by_cases n37 : op = 37
      · have es : shownF op = 2 := by rw [n37]; rfl
        intro meth
        simp (disch := first | omega | (simp only [List.length_append, List.length_cons, List.length_nil]; omega) | rfl) [-Int.natCast_add, -strOp, add_short, fold_k, fold_0, -w18_29, -BitVec.toNat_or, -BitVec.toNat_ofInt, -BitVec.toNat_and, box_of b36, fieldAddr_of fa36_4, load_of ld33, len_slice u33, index_slice u33 sz26, load_agg ld26, alloc_of zo26, store_of sz26, fieldAddr_of fa26_0, load_of ld3, bin_str u9 .add (Or.inl rfl), fieldAddr_of fa26_1, fieldAddr_of fa26_2, c4, r0, n37, c5, c6, r1, r2, t1, t2, u1, u2]
        obtain ⟨mX, hX⟩ : ∃ mX, m6 = mX := ⟨_, rfl⟩
        obtain ⟨sX, hsX⟩ : ∃ sX : List UInt8, T ++ (fi ++ 32 :: nmx) ++ 32 :: (FA ++ 32 :: FC) = sX := ⟨_, rfl⟩
        rw [hX]
        exact w_sub (E := [(1, .pointer (some ⟨pb, 0, none⟩)), (3, .string ⟨sX.toArray⟩), (4, .int .i64 i)]) (meth mX sX ⟨by rw [← hX]; exact k6, by rw [← hsX, htl, es]; simp⟩) ⟨by rfl, by rw [← hsX]; simp [lget], by rfl, trivial⟩
      have es : shownF op = 0 := by unfold shownF; rw [if_neg (by simp only [not_or]; exact ⟨n36, n37⟩), if_neg (by simp only [not_or]; exact ⟨n1, n2, n3, n4, n5, n6, n26, n27, n28, n29, n34, n35, n38, n39, n41⟩)]
      intro meth
      simp (disch := first | omega | (simp only [List.length_append, List.length_cons, List.length_nil]; omega) | rfl) [-Int.natCast_add, -strOp, add_short, fold_k, fold_0, -w18_29, -BitVec.toNat_or, -BitVec.toNat_ofInt, -BitVec.toNat_and, box_of b36, fieldAddr_of fa36_4, load_of ld33, len_slice u33, index_slice u33 sz26, load_agg ld26, alloc_of zo26, store_of sz26, fieldAddr_of fa26_0, load_of ld3, bin_str u9 .add (Or.inl rfl), fieldAddr_of fa26_1, fieldAddr_of fa26_2, c4, r0, n1, n2, n3, n4, n5, n6, n26, n27, n28, n29, n34, n35, n38, n39, n41, n36, n37]
      obtain ⟨mX, hX⟩ : ∃ mX, m4 = mX := ⟨_, rfl⟩
      obtain ⟨sX, hsX⟩ : ∃ sX : List UInt8, T ++ (fi ++ 32 :: nmx) = sX := ⟨_, rfl⟩
      rw [hX]
      exact w_sub (E := [(1, .pointer (some ⟨pb, 0, none⟩)), (3, .string ⟨sX.toArray⟩), (4, .int .i64 i)]) (meth mX sX ⟨by rw [← hX]; exact k4, by rw [← hsX, htl, es]; simp⟩) ⟨by rfl, by rw [← hsX]; simp [lget], by rfl, trivial⟩
    clear c4 c5 c6 k4 k5 k6
    rintro mK s ⟨kK, hs⟩
    have sl : s.length ≤ 100 * i + 200 := by rw [hs, ← hh]; simp; omega
    simp (disch := first | omega | (simp only [List.length_append, List.length_cons, List.length_nil]; omega) | rfl) [-Int.natCast_add, -strOp, add_short, fold_k, fold_0, -BitVec.toNat_or, -BitVec.toNat_ofInt, -BitVec.toNat_and, box_of b36, fieldAddr_of fa36_4, load_of ld33, len_slice u33, index_slice u33 sz26, load_agg ld26, alloc_of zo26, store_of sz26, fieldAddr_of fa26_0, load_of ld3, bin_str u9 .add (Or.inl rfl), fieldAddr_of fa26_1, fieldAddr_of fa26_2, wi]
    have hsT : s ++ [10] = showT l (i + 1) := by rw [hst, hle, hs]; simp
    exact ih _ _ _ _ ⟨i + 1, s ++ [10], rfl, by omega, hsT, kK, rfl⟩ (by omega) ⟨by rfl, by rfl, by rfl, trivial⟩
  · clear ih
    have ei : i = l.length := by omega
    have i1 : ¬ (i : Int) < l.length := by omega
    simp [-Int.natCast_add, -BitVec.toNat_or, -BitVec.toNat_ofInt, -BitVec.toNat_and, box_of b36, fieldAddr_of fa36_4, load_of ld33, len_slice u33, index_slice u33 sz26, load_agg ld26, alloc_of zo26, store_of sz26, fieldAddr_of fa26_0, load_of ld3, bin_str u9 .add (Or.inl rfl), fieldAddr_of fa26_1, fieldAddr_of fa26_2, l4, h1, i1]
    exact ⟨by rw [hT, ei], kP.trans kE⟩
end Go.Proofs.YtbhnojbkinbomaaDoor.base

