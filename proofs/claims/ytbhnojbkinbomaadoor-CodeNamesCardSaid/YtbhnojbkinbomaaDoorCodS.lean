/-
  This text proves that the program's Show and the document's write the same lines, over the abstract run.
  Condition: what is known of code.Name's calls ahead is its names; the tables are laid.
-/
import Derived.Test.YtbhnojbkinbomaaDoorCodSa
import Derived.Test.YtbhnojbkinbomaaDoorBldA
set_option maxRecDepth 100000
set_option linter.unusedSimpArgs false
set_option linter.unusedVariables false
namespace Go.Proofs.YtbhnojbkinbomaaDoor.base
open Go.Sh gen
variable {S : Sums} {m : Mem}
abbrev Ix := Int × Int × Int
abbrev ixl (x : Ix) : List Value := [.int .i64 x.1, .int .i64 x.2.1, .int .i64 x.2.2]
abbrev ixv (l : List Ix) : List Value := l.flatMap ixl
theorem ixv_len (l : List Ix) : (ixv l).length = l.length * 3 := by
  induction l with
  | nil => rfl
  | cons a l ih => simp only [ixv, List.flatMap_cons, List.length_append, List.length_cons] at ih ⊢; simp only [List.length_nil]; omega
theorem ixv_win {l : List Ix} {i : Nat} (h : i < l.length) : window (ixv l) (i * 3) 3 = ixl l[i] := by
  induction l generalizing i with
  | nil => simp at h
  | cons a l ih =>
    cases i with
    | zero => simp [window, ixv]
    | succ i =>
      have := ih (i := i) (by simpa using h)
      simp only [window, ixv, List.flatMap_cons] at this ⊢
      rw [show (i + 1) * 3 = i * 3 + 3 by omega]
      simpa using this
def ixOk (x : Ix) : Prop := (-9223372036854775808 ≤ x.1 ∧ x.1 ≤ 9223372036854775807) ∧ (-9223372036854775808 ≤ x.2.1 ∧ x.2.1 ≤ 9223372036854775807) ∧ (-9223372036854775808 ≤ x.2.2 ∧ x.2.2 ≤ 9223372036854775807)
def shownF (op : Int) : Nat := if op = 36 ∨ op = 37 then 2 else if op = 1 ∨ op = 2 ∨ op = 3 ∨ op = 4 ∨ op = 5 ∨ op = 6 ∨ op = 26 ∨ op = 27 ∨ op = 28 ∨ op = 29 ∨ op = 34 ∨ op = 35 ∨ op = 38 ∨ op = 39 ∨ op = 41 then 1 else 0
def nmF (op : Int) : List UInt8 := if nameF op = [] then 111 :: 112 :: fmt op else nameF op
def headF (pc : Nat) (op : Int) : List UInt8 := fmt pc ++ 32 :: nmF op
def tailF (op a b : Int) : List UInt8 := if shownF op = 0 then [] else if shownF op = 1 then 32 :: fmt a else 32 :: (fmt a ++ 32 :: fmt b)
def lineF (pc : Nat) (x : Ix) : List UInt8 := headF pc x.1 ++ (tailF x.1 x.2.1 x.2.2 ++ [10])
def showT (l : List Ix) (i : Nat) : List UInt8 := (List.range i).flatMap fun j => lineF j (l.getD j (0, 0, 0))
theorem showT_succ {l : List Ix} {i : Nat} (h : i < l.length) : showT l (i + 1) = showT l i ++ lineF i l[i] := by
  unfold showT
  rw [List.range_succ, List.flatMap_append]
  simp [List.getD_eq_getElem?_getD, h]
theorem fmt_len {x : Int} : 1 ≤ (fmt x).length ∧ (fmt x).length ≤ 21 := by
  unfold fmt
  have := nd_le x.natAbs
  split
  · simp [fw_len]; omega
  · rw [fw_len]; omega
theorem name_len (op : Int) : (nameF op).length ≤ 8 := by
  unfold nameF
  split
  · rename_i h
    have : ∀ k : Fin 42, (opsL.getD k.val []).length ≤ 8 := by decide
    exact this ⟨op.toNat, by omega⟩
  · simp
theorem nm_len (op : Int) : 1 ≤ (nmF op).length ∧ (nmF op).length ≤ 23 := by
  unfold nmF
  have := fmt_len (x := op)
  have := name_len op
  split
  · simp; omega
  · rename_i h
    have := List.length_pos_iff.2 h
    omega
theorem line_len (pc : Nat) (x : Ix) : (lineF pc x).length ≤ 100 := by
  unfold lineF headF tailF
  have h1 := fmt_len (x := (pc : Int))
  have h2 := nm_len x.1
  have h3 := fmt_len (x := x.2.1)
  have h4 := fmt_len (x := x.2.2)
  split
  · simp; omega
  · split
    · simp; omega
    · simp; omega
theorem show_len (l : List Ix) (i : Nat) : (showT l i).length ≤ 100 * i := by
  induction i with
  | zero => simp [showT]
  | succ i ih =>
    unfold showT at ih ⊢
    rw [List.range_succ, List.flatMap_append, List.length_append]
    have := line_len i (l.getD i (0, 0, 0))
    simp only [List.flatMap_cons, List.flatMap_nil, List.append_nil]
    omega
structure Nq (S : Sums) : Prop where
  nf : Nf S
  nb : Nb S
  ita : S 20 = []
  ita2 : S 27 = []
  shown : S 22 = []
  sh : S 17 = []
  name : S 13 = nmL
theorem itoa_run (hN : Nq S) {e : TypeId} (hg : Rdo m 2 powC e 2) {x : Int} (h1 : -9223372036854775808 ≤ x) (h2 : x ≤ 9223372036854775807) :
    ∃ v m1, callw Tryd.prog TT S 20 [.int .i64 x] m = some (v, m1) ∧ v = .string ⟨(fmt x).toArray⟩ ∧ Keeps m m1 [] := by
  obtain ⟨_, m1, hc, rfl, k⟩ := fmt_run hN.nf hg h1 h2
  have hw : IntKind.i64.wrap x = x := wrap_i64 h1 h2
  have h2 : ∃ v m1, callw Tryd.prog TT S 27 [.int .i64 x] m = some (v, m1) ∧ v = .string ⟨(fmt x).toArray⟩ ∧ Keeps m m1 [] := by
    refine fn_w 3 [] k27 hN.ita2 rfl ?_
    simp [-BitVec.toNat_or, -BitVec.toNat_ofInt, -BitVec.toNat_and, id, hc, hw]
    exact k
  obtain ⟨_, m2, hc2, rfl, k2⟩ := h2
  refine fn_w 3 [] k20 hN.ita rfl ?_
  simp [-BitVec.toNat_or, -BitVec.toNat_ofInt, -BitVec.toNat_and, id, hc2]
  exact k2
theorem shown_run (hN : Nq S) (op : Int) : callw Tryd.prog TT S 22 [.int .i64 op] m = some (.int .i64 (shownF op : Nat), m) := by
  refine fn_eq 4 [4, 4, 4, 4, 4, 4, 4, 4, 4, 4, 4, 4, 4, 4, 4, 20, 20] k22 hN.shown rfl ?_
  by_cases h : op = 36 ∨ op = 37
  · rcases h with rfl | rfl <;> simp [-BitVec.toNat_or, -BitVec.toNat_ofInt, -BitVec.toNat_and, id, shownF]
  · by_cases h2 : op = 1 ∨ op = 2 ∨ op = 3 ∨ op = 4 ∨ op = 5 ∨ op = 6 ∨ op = 26 ∨ op = 27 ∨ op = 28 ∨ op = 29 ∨ op = 34 ∨ op = 35 ∨ op = 38 ∨ op = 39 ∨ op = 41
    · rcases h2 with rfl | rfl | rfl | rfl | rfl | rfl | rfl | rfl | rfl | rfl | rfl | rfl | rfl | rfl | rfl <;> simp [-BitVec.toNat_or, -BitVec.toNat_ofInt, -BitVec.toNat_and, id, shownF]
    · have e : shownF op = 0 := by unfold shownF; rw [if_neg h, if_neg h2]
      simp only [not_or] at h h2
      simp [-BitVec.toNat_or, -BitVec.toNat_ofInt, -BitVec.toNat_and, id, e, h, h2]
set_option maxHeartbeats 4000000 in
theorem show_run (hN : Nq S) {e : TypeId} (hg : Rdo m 2 powC e 2) {ao : Option Addr} {l : List Ix} {fam : Nat} (hl : Rs m ao l.length (ixv l) 26 3 fam) (hok : ∀ x ∈ l, ixOk x) (hn : l.length ≤ 1000) :
    ∃ v m1, callw Tryd.prog TT S 17 [.agg #[.string ⟨#[]⟩, .slice none 0 0, .int .i64 0, .slice none 0 0, .slice ao l.length l.length]] m = some (v, m1) ∧ v = .string ⟨(showT l l.length).toArray⟩ ∧ Keeps m m1 [] := by
  obtain ⟨oP, kP, nP⟩ := new_own (m := m) (cs := [.string ⟨#[]⟩, .slice none 0 0, .int .i64 0, .slice none 0 0, .slice ao l.length l.length]) (e := 36) rfl
  obtain ⟨pb, hpb⟩ : ∃ pb, m.next = pb := ⟨_, rfl⟩
  obtain ⟨m1, hm1⟩ : ∃ m1, m.new [.string ⟨#[]⟩, .slice none 0 0, .int .i64 0, .slice none 0 0, .slice ao l.length l.length] 36 = m1 := ⟨_, rfl⟩
  rw [hm1] at oP kP nP
  obtain ⟨oB, kB, nB⟩ := new_own (m := m1) (cs := [.pointer none, .slice none 0 0]) (e := 45) rfl
  obtain ⟨bb, hbb⟩ : ∃ bb, m1.next = bb := ⟨_, rfl⟩
  obtain ⟨m2, hm2⟩ : ∃ m2, m1.new [.pointer none, .slice none 0 0] 45 = m2 := ⟨_, rfl⟩
  rw [hm2] at oB kB nB
  have l4 := (oP.keep kB (by simp)).load1 (off := 4) rfl
  refine fn_w 11 [11, 19, 33, 42] k17 hN.sh rfl ?_
  simp [-Int.natCast_add, -BitVec.toNat_or, -BitVec.toNat_ofInt, -BitVec.toNat_and, box_of b36, alloc_of zo45, fieldAddr_of fa36_4, load_of ld33, len_slice u33, index_slice u33 sz26, load_agg ld26, alloc_of zo26, store_of sz26, fieldAddr_of fa26_0, load_of ld3, bin_str u9 .add (Or.inl rfl), fieldAddr_of fa26_1, fieldAddr_of fa26_2, hm1, hm2, l4]
  rw [hbb] at oB nB ⊢
  have B0 : BAt m1 m2 bb bb (.pointer none) none 0 [] := ⟨by simpa using oB, Sl.nil _ _ _ _, by simp, Or.inl rfl, by omega, by simp, kB, fun _ => rfl⟩
  refine wsem_loop 11 [11, 19, 33, 42] (fun d E mE => ∃ (i : Nat) (p : Value) (bo : Option Addr) (bf : Nat), l.length - i = d ∧ i ≤ l.length ∧ BAt m1 mE bb bb p bo bf (showT l i) ∧
    E = [(3, .pointer (some ⟨bb, 0, none⟩)), (8, .slice ao l.length l.length), (9, .int .i64 l.length), (10, .int .i64 i)]) _ ⟨_, ⟨0, _, none, 0, rfl, by omega, by simpa [showT] using B0, rfl⟩, ⟨by rfl, by rfl, by rfl, by rfl, trivial⟩⟩ ?_
  rintro d E mE ih ⟨i, p, bo, bf, hd, hi, B, rfl⟩
  have i4 : (i : Int) ≤ 9223372036854775807 := by omega
  by_cases h1 : i < l.length
  · have i1 : (i : Int) < l.length := by omega
    have wi : IntKind.i64.wrap ((i : Int) + 1) = ((i + 1 : Nat) : Int) := by rw [wrap_i64 (by omega) (by omega)]; omega
    have hlE := (hl.keep kP (by simp)).keep B.k (by simp)
    obtain ⟨lb, hlo, ol⟩ := hlE.rdo (by omega)
    have hst := showT_succ h1
    obtain ⟨x, hx⟩ : ∃ x, l[i] = x := ⟨_, rfl⟩
    have hxo := hok x (by rw [← hx]; exact List.getElem_mem h1)
    have ld : loadRow mE ⟨lb, i * 3, none⟩ 3 = some (ixl x) := by rw [ol.load 3 (by rw [ixv_len]; omega), ixv_win h1, hx]
    rw [hx] at hst
    obtain ⟨op, A, C⟩ := x
    obtain ⟨hop, hA, hC⟩ := hxo
    dsimp only at hop hA hC
    have hsl := show_len l i
    obtain ⟨T, hT⟩ : ∃ T, showT l i = T := ⟨_, rfl⟩
    rw [hT] at hst B hsl
    obtain ⟨oZ, kZ, nZ⟩ := new_own (m := mE) (cs := [.int .i64 0, .int .i64 0, .int .i64 0]) (e := 26) rfl
    obtain ⟨bx, hbx⟩ : ∃ bx, mE.next = bx := ⟨_, rfl⟩
    obtain ⟨m3, e3, oX, kX⟩ := store_own (r := _) rfl oZ (off := 0) (vs := ixl (op, A, C)) (by simp) (by simp [one_int])
    simp [over] at oX
    have k3 := kZ.fresh kX (by simp)
    rw [hbx] at oX nZ e3
    have B3 := B.keep k3
    have nf0 : bx ≠ bb := by have := B.own.flt; omega
    have nf1 : bo ≠ none → bx ≠ bf := fun hn => by
      rcases B.sl.2 with ⟨h, _⟩ | ⟨q, _, o⟩
      · exact absurd h hn
      · have := o.flt; omega
    have nm := fun m' => name_run (m := m') hN.name op
    have sw := fun m' => shown_run (m := m') hN op
    have q0 := oX.load1 (off := 0) rfl
    have l26 : 26 = 26 := rfl
    have fN := fmt_len (x := op)
    have fI := fmt_len (x := (i : Int))
    have fA := fmt_len (x := A)
    have fC := fmt_len (x := C)
    have nN := nm_len op
    have nb0 : (i : Int) * 1 = i := by omega
    obtain ⟨_, m4, c4, rfl, k4⟩ := itoa_run (m := m3) hN ((hg.keep kP (by simp)).keep B3.k (by simp)) hop.1 hop.2
    have B4 := B3.keep k4
    have oX4 := oX.keep k4 (by simp)
    obtain ⟨F, hF⟩ : ∃ F, fmt op = F := ⟨_, rfl⟩
    rw [hF] at c4 fN
    apply cut1_ (fun (mJ : Mem) => BAt m1 mJ bb bb p bo bf T ∧ Own mJ bx (ixl (op, A, C)) 26 bx)
    case main =>
      by_cases hne : nameF op = []
      · have en : nmF op = 111 :: 112 :: F := by unfold nmF; rw [if_pos hne, hF]
        obtain ⟨mX, hX⟩ : ∃ mX, m4 = mX := ⟨_, rfl⟩
        intro meth
        simp (disch := first | omega | (simp only [List.length_append, List.length_cons, List.length_nil]; omega) | rfl) [-Int.natCast_add, -strOp, add_short, fold_k, fold_0, -w17_8, -BitVec.toNat_or, -BitVec.toNat_ofInt, -BitVec.toNat_and, box_of b36, alloc_of zo45, fieldAddr_of fa36_4, load_of ld33, len_slice u33, index_slice u33 sz26, load_agg ld26, alloc_of zo26, store_of sz26, fieldAddr_of fa26_0, load_of ld3, bin_str u9 .add (Or.inl rfl), fieldAddr_of fa26_1, fieldAddr_of fa26_2, h1, i1, i4, hlo, ld, hbx, e3, q0, nm, hne, c4]
        rw [hX]
        exact w_sub (E := [(3, .pointer (some ⟨bb, 0, none⟩)), (8, .slice ao l.length l.length), (9, .int .i64 l.length), (10, .int .i64 i), (5, .pointer (some ⟨bx, 0, none⟩)), (4, .int .i64 i), (6, .string ⟨(nmF op).toArray⟩)]) (meth mX ⟨hX ▸ B4, hX ▸ oX4⟩) ⟨by rfl, by rw [hlo]; rfl, by rfl, by rfl, by rfl, by rfl, by rw [en]; rfl, trivial⟩
      · have en : nmF op = nameF op := by unfold nmF; rw [if_neg hne]
        have hie : (nameF op).isEmpty = false := by simpa using hne
        intro meth
        simp (disch := first | omega | (simp only [List.length_append, List.length_cons, List.length_nil]; omega) | rfl) [-Int.natCast_add, -strOp, add_short, fold_k, fold_0, -w17_8, -BitVec.toNat_or, -BitVec.toNat_ofInt, -BitVec.toNat_and, box_of b36, alloc_of zo45, fieldAddr_of fa36_4, load_of ld33, len_slice u33, index_slice u33 sz26, load_agg ld26, alloc_of zo26, store_of sz26, fieldAddr_of fa26_0, load_of ld3, bin_str u9 .add (Or.inl rfl), fieldAddr_of fa26_1, fieldAddr_of fa26_2, h1, i1, i4, hlo, ld, hbx, e3, q0, nm, hne, hie]
        obtain ⟨mX, hX⟩ : ∃ mX, m3 = mX := ⟨_, rfl⟩
        rw [hX]
        exact w_sub (E := [(3, .pointer (some ⟨bb, 0, none⟩)), (8, .slice ao l.length l.length), (9, .int .i64 l.length), (10, .int .i64 i), (5, .pointer (some ⟨bx, 0, none⟩)), (4, .int .i64 i), (6, .string ⟨(nmF op).toArray⟩)]) (meth mX ⟨hX ▸ B3, hX ▸ oX⟩) ⟨by rfl, by rw [hlo]; rfl, by rfl, by rfl, by rfl, by rfl, by rw [en]; rfl, trivial⟩
    clear oX oZ kZ kX B3 q0 e3 k3 B B4 oX4 c4 k4 hF
    rintro mJ ⟨BJ, oJ⟩
    obtain ⟨_, m5, c5, rfl, k5⟩ := itoa_run (m := mJ) hN ((hg.keep kP (by simp)).keep BJ.k (by simp)) (x := (i : Int)) (by omega) (by omega)
    have B5 := BJ.keep k5
    have o5 := oJ.keep k5 (by simp)
    have h5 := o5.flt
    have hh : headF i op = fmt (i : Int) ++ 32 :: nmF op := rfl
    obtain ⟨v6, m6, bo6, bf6, c6, B6, fs6, k6, g6⟩ := write_run hN.nb B5 (t := headF i op) (by rw [hh]; simp) (by rw [hh]; simp; omega)
    have g6' := g6 bx h5 nf0 nf1
    have o6 := o5.keep k6 g6'.1
    have r0 := o6.load1 (off := 0) rfl
    have r1 := o6.load1 (off := 1) rfl
    have htl : tailF op A C = if shownF op = 0 then [] else if shownF op = 1 then 32 :: fmt A else 32 :: (fmt A ++ 32 :: fmt C) := rfl
    have hle : lineF i (op, A, C) = headF i op ++ (tailF op A C ++ [10]) := rfl
    have hs2 : shownF op = 0 ∨ shownF op = 1 ∨ shownF op = 2 := by
      unfold shownF
      split
      · exact Or.inr (Or.inr rfl)
      · split
        · exact Or.inr (Or.inl rfl)
        · exact Or.inl rfl
    have fhl : (headF i op).length ≤ 60 := by rw [hh]; simp; omega
    obtain ⟨_, m7, c7, rfl, k7⟩ := itoa_run (m := m6) hN ((hg.keep kP (by simp)).keep B6.k (by simp)) hA.1 hA.2
    have B7 := B6.keep k7
    have o7 := o6.keep k7 (by simp)
    have h7 := o7.flt
    obtain ⟨v8, m8, bo8, bf8, c8, B8, fs8, k8, g8⟩ := write_run hN.nb B7 (t := 32 :: fmt A) (by simp) (by simp; omega)
    have g8' := g8 bx h7 nf0 (fun _ => g6'.2)
    have o8 := o7.keep k8 g8'.1
    have r3 := o8.load1 (off := 0) rfl
    have r4 := o8.load1 (off := 2) rfl
    obtain ⟨_, m9, c9, rfl, k9⟩ := itoa_run (m := m8) hN ((hg.keep kP (by simp)).keep B8.k (by simp)) hC.1 hC.2
    have B9 := B8.keep k9
    obtain ⟨v10, m10, bo10, bf10, c10, B10, fs10, k10, g10⟩ := write_run hN.nb B9 (t := 32 :: fmt C) (by simp) (by simp; omega)
    rw [hh] at c6
    generalize nmF op = nmx at *
    generalize fmt (i : Int) = fi at *
    generalize hfA : fmt A = FA at *
    generalize hfC : fmt C = FC at *
    apply cut3_ (fun (mJ : Mem) (bo7 : Option Addr) (bf7 : Nat) => BAt m1 mJ bb bb (.pointer (some ⟨bb, 0, none⟩)) bo7 bf7 (T ++ headF i op ++ tailF op A C))
    case main =>
      by_cases hs : shownF op = 0
      · intro meth
        simp (disch := first | omega | (simp only [List.length_append, List.length_cons, List.length_nil]; omega) | rfl) [-Int.natCast_add, -strOp, add_short, fold_k, fold_0, -w17_13, -BitVec.toNat_or, -BitVec.toNat_ofInt, -BitVec.toNat_and, box_of b36, alloc_of zo45, fieldAddr_of fa36_4, load_of ld33, len_slice u33, index_slice u33 sz26, load_agg ld26, alloc_of zo26, store_of sz26, fieldAddr_of fa26_0, load_of ld3, bin_str u9 .add (Or.inl rfl), fieldAddr_of fa26_1, fieldAddr_of fa26_2, c5, c6, r0, sw, hs]
        obtain ⟨mX, hX⟩ : ∃ mX, m6 = mX := ⟨_, rfl⟩
        obtain ⟨bo, hbo⟩ : ∃ bo, bo6 = bo := ⟨_, rfl⟩
        obtain ⟨bf, hbf⟩ : ∃ bf, bf6 = bf := ⟨_, rfl⟩
        rw [hX]
        exact w_sub (E := [(3, .pointer (some ⟨bb, 0, none⟩)), (8, .slice ao l.length l.length), (9, .int .i64 l.length), (10, .int .i64 i)]) (meth mX bo bf (by rw [htl, if_pos hs, ← hX, ← hbo, ← hbf]; simpa using B6)) ⟨by rfl, by rfl, by rfl, by rfl, trivial⟩
      by_cases hs1 : shownF op = 1
      · intro meth
        simp (disch := first | omega | (simp only [List.length_append, List.length_cons, List.length_nil]; omega) | rfl) [-Int.natCast_add, -strOp, add_short, fold_k, fold_0, -w17_13, -BitVec.toNat_or, -BitVec.toNat_ofInt, -BitVec.toNat_and, box_of b36, alloc_of zo45, fieldAddr_of fa36_4, load_of ld33, len_slice u33, index_slice u33 sz26, load_agg ld26, alloc_of zo26, store_of sz26, fieldAddr_of fa26_0, load_of ld3, bin_str u9 .add (Or.inl rfl), fieldAddr_of fa26_1, fieldAddr_of fa26_2, c5, c6, r0, r1, r3, sw, hs1, c7, c8]
        obtain ⟨mX, hX⟩ : ∃ mX, m8 = mX := ⟨_, rfl⟩
        obtain ⟨bo, hbo⟩ : ∃ bo, bo8 = bo := ⟨_, rfl⟩
        obtain ⟨bf, hbf⟩ : ∃ bf, bf8 = bf := ⟨_, rfl⟩
        rw [hX]
        exact w_sub (E := [(3, .pointer (some ⟨bb, 0, none⟩)), (8, .slice ao l.length l.length), (9, .int .i64 l.length), (10, .int .i64 i)]) (meth mX bo bf (by rw [htl, if_neg hs, if_pos hs1, ← hX, ← hbo, ← hbf]; exact B8)) ⟨by rfl, by rfl, by rfl, by rfl, trivial⟩
      · have hs3 : shownF op = 2 := by omega
        intro meth
        simp (disch := first | omega | (simp only [List.length_append, List.length_cons, List.length_nil]; omega) | rfl) [-Int.natCast_add, -strOp, add_short, fold_k, fold_0, -w17_13, -BitVec.toNat_or, -BitVec.toNat_ofInt, -BitVec.toNat_and, box_of b36, alloc_of zo45, fieldAddr_of fa36_4, load_of ld33, len_slice u33, index_slice u33 sz26, load_agg ld26, alloc_of zo26, store_of sz26, fieldAddr_of fa26_0, load_of ld3, bin_str u9 .add (Or.inl rfl), fieldAddr_of fa26_1, fieldAddr_of fa26_2, c5, c6, r0, r1, r3, r4, sw, hs3, c7, c8, c9, c10]
        obtain ⟨mX, hX⟩ : ∃ mX, m10 = mX := ⟨_, rfl⟩
        obtain ⟨bo, hbo⟩ : ∃ bo, bo10 = bo := ⟨_, rfl⟩
        obtain ⟨bf, hbf⟩ : ∃ bf, bf10 = bf := ⟨_, rfl⟩
        rw [hX]
        exact w_sub (E := [(3, .pointer (some ⟨bb, 0, none⟩)), (8, .slice ao l.length l.length), (9, .int .i64 l.length), (10, .int .i64 i)]) (meth mX bo bf (by rw [htl, if_neg hs, if_neg hs1, ← hX, ← hbo, ← hbf]; simpa using B10)) ⟨by rfl, by rfl, by rfl, by rfl, trivial⟩
    clear B6 B7 B8 B9 B10 c5 c6 c7 c8 c9 c10
    rintro mK bo7 bf7 BK
    have flt : (tailF op A C).length ≤ 60 := by
      rw [htl]
      split
      · simp
      · split
        · simp; omega
        · simp; omega
    obtain ⟨v11, m11, bo11, bf11, c11, B11, _⟩ := byte_run hN.nb BK (c := 10) (by simp; omega)
    have c11' : callw Tryd.prog TT S 23 [.pointer (some ⟨bb, 0, none⟩), .int .u8 10] mK = some (v11, m11) := c11
    simp [-Int.natCast_add, -BitVec.toNat_or, -BitVec.toNat_ofInt, -BitVec.toNat_and, box_of b36, alloc_of zo45, fieldAddr_of fa36_4, load_of ld33, len_slice u33, index_slice u33 sz26, load_agg ld26, alloc_of zo26, store_of sz26, fieldAddr_of fa26_0, load_of ld3, bin_str u9 .add (Or.inl rfl), fieldAddr_of fa26_1, fieldAddr_of fa26_2, c11', wi]
    have BF : BAt m1 m11 bb bb (.pointer (some ⟨bb, 0, none⟩)) bo11 bf11 (showT l (i + 1)) := by rw [hst, hle]; simpa using B11
    exact ih _ _ _ _ ⟨i + 1, .pointer (some ⟨bb, 0, none⟩), bo11, bf11, rfl, by omega, BF, rfl⟩ (by omega) ⟨by rfl, by rfl, by rfl, by rfl, trivial⟩
  · clear ih
    have ei : i = l.length := by omega
    subst ei
    obtain ⟨_, m9, c9, rfl, k9⟩ := bstr_run hN.nb B (by have := show_len l l.length; omega)
    have i1 : ¬ (l.length : Int) < l.length := by omega
    simp [-Int.natCast_add, -BitVec.toNat_or, -BitVec.toNat_ofInt, -BitVec.toNat_and, box_of b36, alloc_of zo45, fieldAddr_of fa36_4, load_of ld33, len_slice u33, index_slice u33 sz26, load_agg ld26, alloc_of zo26, store_of sz26, fieldAddr_of fa26_0, load_of ld3, bin_str u9 .add (Or.inl rfl), fieldAddr_of fa26_1, fieldAddr_of fa26_2, i1, c9]
    exact kP.trans k9
end Go.Proofs.YtbhnojbkinbomaaDoor.base

