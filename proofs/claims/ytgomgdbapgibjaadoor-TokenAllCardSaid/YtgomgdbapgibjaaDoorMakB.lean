/-
  This text proves what the maker's expr does over the abstract run: it gives some text, not too long.
  Condition: nothing is known of its calls ahead ('S f = []').
-/
import Derived.Test.YtgomgdbapgibjaaDoorMakA
set_option maxRecDepth 100000
set_option linter.unusedSimpArgs false
set_option linter.unusedVariables false
namespace Go.Proofs.YtgomgdbapgibjaaDoor.base
open Go.Sh gen
variable {S : Sums} {m : Mem}
def Lx : Nat → Nat
  | 0 => 24
  | d + 1 => 2 * Lx d + 24
structure Ix (m0 : Mem) (b kb db d : Nat) (σ : Ms) (m : Mem) : Prop where
  mm : ∃ (a : Nat) (z : Int), Mk m b { σ with at_ := a, size := z }
  k : Own m kb [.pointer (some ⟨b, 0, none⟩)] 42 kb
  d : Own m db [.int .i64 d] 3 db
  kk : Keeps m0 m [b]
  nk : kb ≠ b
  nd : db ≠ b
theorem Ix.step {m0 m m' : Mem} {b kb db d a : Nat} {z : Int} {σ : Ms} (h : Ix m0 b kb db d σ m) (k : Keeps m m' [b]) (hm : Mk m' b { σ with at_ := a, size := z }) : Ix m0 b kb db d σ m' :=
  ⟨⟨a, z, hm⟩, h.k.keep k (by simpa using h.nk), h.d.keep k (by simpa using h.nd), h.kk.trans k, h.nk, h.nd⟩
theorem Ix.next {m0 m : Mem} {b kb db d : Nat} {σ : Ms} (hN : Nm S) (h : Ix m0 b kb db d σ m) (k : Nat) (K : Int) (hK : K = k) (hk : 0 < k) (hk2 : k < 1000000) :
    ∃ (y : Nat) (m1 : Mem), callw Tryd.prog TT S 22 [.pointer (some ⟨b, 0, none⟩), .int .i64 K] m = some (.int .i64 y, m1) ∧ y < k ∧ Ix m0 b kb db d σ m1 := by
  obtain ⟨a, z, hm⟩ := h.mm
  obtain ⟨v1, m1, c1, y, a2, rfl, hy, h1, k1⟩ := mnext_run hN hm k K hK hk hk2
  exact ⟨y, m1, c1, hy, h.step k1 (a := a2) (z := z) h1⟩
theorem Ix.leaf {m0 m : Mem} {b kb db d : Nat} {σ : Ms} (hN : Nm S) (h : Ix m0 b kb db d σ m) (t : Nat) (T : Int) (hT : T = t) (ht : t < 7) :
    ∃ (s : List UInt8) (m1 : Mem), callw Tryd.prog TT S 46 [.pointer (some ⟨b, 0, none⟩), .int .i64 T] m = some (.string ⟨s.toArray⟩, m1) ∧ s.length ≤ 24 ∧ Ix m0 b kb db d σ m1 := by
  subst hT
  obtain ⟨a, z, hm⟩ := h.mm
  obtain ⟨v1, m1, c1, s, a2, z2, rfl, hy, h1, k1⟩ := mleaf_run hN hm t ht
  exact ⟨s, m1, c1, hy, h.step k1 (a := a2) (z := z2) h1⟩
theorem Ix.fin {m0 m : Mem} {b kb db d n : Nat} {σ : Ms} (h : Ix m0 b kb db d σ m) (s : List UInt8) (hs : s.length ≤ n) : PStr m0 b σ n (.string ⟨s.toArray⟩) m := by
  obtain ⟨a, z, hm⟩ := h.mm
  exact ⟨s, a, z, rfl, hs, hm, h.kk⟩
theorem Ix.l {m0 m : Mem} {b kb db d : Nat} {σ : Ms} (h : Ix m0 b kb db d σ m) : loadRow m ⟨kb, 0, none⟩ 1 = some [.pointer (some ⟨b, 0, none⟩)] ∧ loadRow m ⟨db, 0, none⟩ 1 = some [.int .i64 d] ∧ loadRow m ⟨b, 8, none⟩ 1 = some [.bool σ.calls] := by
  obtain ⟨a, z, hm⟩ := h.mm
  exact ⟨h.k.load1 (off := 0) rfl, h.d.load1 (off := 0) rfl, hm.l.2.2.2.2.2.2.2.2⟩
def Ex (S : Sums) (d : Nat) : Prop := ∀ {m : Mem} {b : Nat} {σ : Ms} (h : Mk m b σ) (t : Nat) (ht : t < 7),
    ∃ v m1, callw Tryd.prog TT S 35 [.pointer (some ⟨b, 0, none⟩), .int .i64 t, .int .i64 d] m = some (v, m1) ∧ PStr m b σ (Lx d) v m1
theorem Ix.e {m0 m : Mem} {b kb db d : Nat} {σ : Ms} (hN : Nm S) (he : Ex S d) (hd : d ≤ 1000) (h : Ix m0 b kb db (d + 1) σ m) (t : Nat) (T : Int) (hT : T = t) (ht : t < 7) :
    ∃ (s : List UInt8) (m1 : Mem), callw Tryd.prog TT S 47 [.int .i64 T, .pointer (some ⟨kb, 0, none⟩), .pointer (some ⟨db, 0, none⟩)] m = some (.string ⟨s.toArray⟩, m1) ∧ s.length ≤ Lx d ∧ Ix m0 b kb db (d + 1) σ m1 := by
  subst hT
  obtain ⟨a, z, hm⟩ := h.mm
  obtain ⟨v1, m1, c1, s, a2, z2, rfl, hy, h1, k1⟩ := he hm t ht
  obtain ⟨l1, l2, _⟩ := h.l
  have w1 : IntKind.i64.wrap (((d + 1 : Nat) : Int) - 1) = (d : Int) := by rw [wrap_i64 (by omega) (by omega)]; omega
  have hi := h.step k1 (a := a2) (z := z2) h1
  refine ⟨s, m1, ?_, hy, hi⟩
  refine fn_eq 5 [] k47 hN.expr1 rfl ?_
  simp [-Int.natCast_add, -BitVec.toNat_or, -BitVec.toNat_ofInt, -BitVec.toNat_and, load_of ld42, load_of ld3, l1, l2, w1, c1]
set_option maxHeartbeats 8000000 in
theorem mexpr_run (hN : Nm S) (d : Nat) : d ≤ 3 → Ex S d := by
  induction d using Nat.strongRecOn with
  | _ d ih =>
    intro hd
    intro m b σ h t ht
    refine fn_w 324 [324] k35 hN.expr rfl ?_
    simp [-Int.natCast_add, -BitVec.toNat_or, -BitVec.toNat_ofInt, -BitVec.toNat_and, box_of b42, box_of b3, load_of ld42, fieldAddr_of fa45_5, load_of ld3, store_of sz3, fieldAddr_of fa45_1, fieldAddr_of fa45_0, load_of ld22, len_slice u22, bin_str u9 .add (Or.inl rfl), fieldAddr_of fa45_8, load_of ld4, build_arr u70 sz9 zo70, index_arr u70 sz9, part_one ld9, build_arr u71 sz9 zo71, index_arr u71 sz9, build_arr u72 sz3 zo72, index_arr u72 sz3, part_one ld3, build_arr u73 sz9 zo73, index_arr u73 sz9]
    obtain ⟨oa, ka, na⟩ := new_own (m := m) (cs := [.pointer (some ⟨b, 0, none⟩)]) (e := 42) rfl
    generalize m.new [.pointer (some ⟨b, 0, none⟩)] 42 = mA at *
    obtain ⟨od, kd, nd⟩ := new_own (m := mA) (cs := [.int .i64 d]) (e := 3) rfl
    generalize mA.new [.int .i64 d] 3 = mB at *
    have oB := oa.keep kd (by simp)
    have hB := (h.keep ka).keep kd
    have hbl := h.own.lt
    have lk1 := oB.load1 (off := 0) rfl
    obtain ⟨l0, l1, l2, l3, l4, l5, l6, l7, l8⟩ := hB.l
    simp [-Int.natCast_add, -BitVec.toNat_or, -BitVec.toNat_ofInt, -BitVec.toNat_and, box_of b42, box_of b3, load_of ld42, fieldAddr_of fa45_5, load_of ld3, store_of sz3, fieldAddr_of fa45_1, fieldAddr_of fa45_0, load_of ld22, len_slice u22, bin_str u9 .add (Or.inl rfl), fieldAddr_of fa45_8, load_of ld4, build_arr u70 sz9 zo70, index_arr u70 sz9, part_one ld9, build_arr u71 sz9 zo71, index_arr u71 sz9, build_arr u72 sz3 zo72, index_arr u72 sz3, part_one ld3, build_arr u73 sz9 zo73, index_arr u73 sz9, lk1, l5]
    generalize hrr : storeRow _ _ _ = rr
    obtain ⟨mC, rfl, oC, kC⟩ := store_own hrr hB.own (by simp [Ms.cells]) (by simp [one_int])
    generalize hz : IntKind.i64.wrap (σ.size + 1) = z at *
    have hC : Mk mC b { σ with size := z } := hB.set kC (by simpa [Ms.cells, over] using oC) rfl rfl rfl rfl rfl rfl h.at_ h.names h.loops (Nat.le_refl _)
    have i0 : Ix m b m.next mA.next d σ mC := ⟨⟨σ.at_, z, hC⟩, oB.keep kC (by simp; omega), od.keep kC (by have := ka.1; simp; omega), ((ka.trans kd).nil).trans kC, by omega, by have := ka.1; omega⟩
    obtain ⟨l0, l1, l2, l3, l4, l5, l6, l7, l8⟩ := hC.l
    obtain ⟨lkb, ldb, lc⟩ := i0.l
    clear oa ka na od kd nd oB hB lk1 hrr oC kC
    have lf := fun (t : Nat) (ht : t < 7) => i0.leaf hN t t rfl ht
    have h24 : 24 ≤ Lx d := by
      have : ∀ e, 24 ≤ Lx e := fun e => by cases e <;> simp [Lx]
      exact this d
    by_cases d0 : d = 0
    · obtain ⟨s, m2, c2, hs, i2⟩ := lf t ht
      have h24b := h24
      rw [d0] at h24b
      simp [-Int.natCast_add, -BitVec.toNat_or, -BitVec.toNat_ofInt, -BitVec.toNat_and, box_of b42, box_of b3, load_of ld42, fieldAddr_of fa45_5, load_of ld3, store_of sz3, fieldAddr_of fa45_1, fieldAddr_of fa45_0, load_of ld22, len_slice u22, bin_str u9 .add (Or.inl rfl), fieldAddr_of fa45_8, load_of ld4, build_arr u70 sz9 zo70, index_arr u70 sz9, part_one ld9, build_arr u71 sz9 zo71, index_arr u71 sz9, build_arr u72 sz3 zo72, index_arr u72 sz3, part_one ld3, build_arr u73 sz9 zo73, index_arr u73 sz9, lkb, ldb, d0, c2]
      exact i2.fin s (by omega)
    have d1 : ¬ (d : Int) ≤ 0 := by omega
    have d2 : ¬ (d : Int) = 0 := by omega
    by_cases z7 : 70 < z
    · obtain ⟨s, m2, c2, hs, i2⟩ := lf t ht
      simp [-Int.natCast_add, -BitVec.toNat_or, -BitVec.toNat_ofInt, -BitVec.toNat_and, box_of b42, box_of b3, load_of ld42, fieldAddr_of fa45_5, load_of ld3, store_of sz3, fieldAddr_of fa45_1, fieldAddr_of fa45_0, load_of ld22, len_slice u22, bin_str u9 .add (Or.inl rfl), fieldAddr_of fa45_8, load_of ld4, build_arr u70 sz9 zo70, index_arr u70 sz9, part_one ld9, build_arr u71 sz9 zo71, index_arr u71 sz9, build_arr u72 sz3 zo72, index_arr u72 sz3, part_one ld3, build_arr u73 sz9 zo73, index_arr u73 sz9, lkb, ldb, d0, d1, d2, l5, z7, c2]
      exact i2.fin s (by omega)
    by_cases za : σ.raw.length ≤ σ.at_
    · have za' : (σ.raw.length : Int) ≤ σ.at_ := by omega
      obtain ⟨s, m2, c2, hs, i2⟩ := lf t ht
      simp [-Int.natCast_add, -BitVec.toNat_or, -BitVec.toNat_ofInt, -BitVec.toNat_and, box_of b42, box_of b3, load_of ld42, fieldAddr_of fa45_5, load_of ld3, store_of sz3, fieldAddr_of fa45_1, fieldAddr_of fa45_0, load_of ld22, len_slice u22, bin_str u9 .add (Or.inl rfl), fieldAddr_of fa45_8, load_of ld4, build_arr u70 sz9 zo70, index_arr u70 sz9, part_one ld9, build_arr u71 sz9 zo71, index_arr u71 sz9, build_arr u72 sz3 zo72, index_arr u72 sz3, part_one ld3, build_arr u73 sz9 zo73, index_arr u73 sz9, lkb, ldb, d0, d1, d2, l5, z7, l1, l0, za, za', c2]
      exact i2.fin s (by omega)
    have za' : ¬ (σ.raw.length : Int) ≤ σ.at_ := by omega
    simp [-Int.natCast_add, -w35_4, -BitVec.toNat_or, -BitVec.toNat_ofInt, -BitVec.toNat_and, box_of b42, box_of b3, load_of ld42, fieldAddr_of fa45_5, load_of ld3, store_of sz3, fieldAddr_of fa45_1, fieldAddr_of fa45_0, load_of ld22, len_slice u22, bin_str u9 .add (Or.inl rfl), fieldAddr_of fa45_8, load_of ld4, build_arr u70 sz9 zo70, index_arr u70 sz9, part_one ld9, build_arr u71 sz9 zo71, index_arr u71 sz9, build_arr u72 sz3 zo72, index_arr u72 sz3, part_one ld3, build_arr u73 sz9 zo73, index_arr u73 sz9, lkb, ldb, d0, d1, d2, l5, z7, l1, l0, za, za']
    obtain ⟨d, rfl⟩ : ∃ e, d = e + 1 := ⟨d - 1, by omega⟩
    have he : Ex S d := ih d (by omega) (by omega)
    have hlx : Lx (d + 1) = 2 * Lx d + 24 := rfl
    rw [hlx]
    have hub : Lx d ≤ 1000 := by
      rcases (by omega : d = 0 ∨ d = 1 ∨ d = 2) with h | h | h <;> rw [h] <;> decide
    clear lf
    rcases (by omega : t = 0 ∨ t = 1 ∨ t = 2 ∨ t = 3 ∨ t = 4 ∨ t = 5 ∨ t = 6) with rfl | rfl | rfl | rfl | rfl | rfl | rfl
    ·
      apply cut1_ (fun m2 : Mem => Ix m b m.next mA.next (d + 1) σ m2)
      case main =>
        obtain ⟨y, m1, c1, hy, i1⟩ := i0.next hN 16 16 rfl (by omega) (by omega)
        rcases (by omega : y = 0 ∨ y = 1 ∨ y = 2 ∨ y = 3 ∨ y = 4 ∨ y = 5 ∨ y = 6 ∨ y = 7 ∨ y = 8 ∨ y = 9 ∨ y = 10 ∨ y = 11 ∨ y = 12 ∨ y = 13 ∨ y = 14 ∨ y = 15) with rfl | rfl | rfl | rfl | rfl | rfl | rfl | rfl | rfl | rfl | rfl | rfl | rfl | rfl | rfl | rfl
        ·
          obtain ⟨s2, m2, c2, hs2, i2⟩ := i1.e hN he (by omega) 0 0 rfl (by omega)
          obtain ⟨s3, m3, c3, hs3, i3⟩ := i2.e hN he (by omega) 0 0 rfl (by omega)
          intro meth
          simp (disch := first | omega | (simp only [List.length_append, List.length_cons, List.length_nil]; omega) | rfl) [-Int.natCast_add, -strOp, add_short, fold_k, fold_0, -BitVec.toNat_or, -BitVec.toNat_ofInt, -BitVec.toNat_and, box_of b42, box_of b3, load_of ld42, fieldAddr_of fa45_5, load_of ld3, store_of sz3, fieldAddr_of fa45_1, fieldAddr_of fa45_0, load_of ld22, len_slice u22, bin_str u9 .add (Or.inl rfl), fieldAddr_of fa45_8, load_of ld4, build_arr u70 sz9 zo70, index_arr u70 sz9, part_one ld9, build_arr u71 sz9 zo71, index_arr u71 sz9, build_arr u72 sz3 zo72, index_arr u72 sz3, part_one ld3, build_arr u73 sz9 zo73, index_arr u73 sz9, lkb, i1.l.1, c1, c2, i2.l.1, c3, i3.l.1]
          refine i3.fin _ ?_
          first | omega | (simp only [List.length_append, List.length_cons, List.length_nil]; omega)
        ·
          obtain ⟨s2, m2, c2, hs2, i2⟩ := i1.e hN he (by omega) 0 0 rfl (by omega)
          obtain ⟨s3, m3, c3, hs3, i3⟩ := i2.e hN he (by omega) 0 0 rfl (by omega)
          intro meth
          simp (disch := first | omega | (simp only [List.length_append, List.length_cons, List.length_nil]; omega) | rfl) [-Int.natCast_add, -strOp, add_short, fold_k, fold_0, -BitVec.toNat_or, -BitVec.toNat_ofInt, -BitVec.toNat_and, box_of b42, box_of b3, load_of ld42, fieldAddr_of fa45_5, load_of ld3, store_of sz3, fieldAddr_of fa45_1, fieldAddr_of fa45_0, load_of ld22, len_slice u22, bin_str u9 .add (Or.inl rfl), fieldAddr_of fa45_8, load_of ld4, build_arr u70 sz9 zo70, index_arr u70 sz9, part_one ld9, build_arr u71 sz9 zo71, index_arr u71 sz9, build_arr u72 sz3 zo72, index_arr u72 sz3, part_one ld3, build_arr u73 sz9 zo73, index_arr u73 sz9, lkb, i1.l.1, c1, c2, i2.l.1, c3, i3.l.1]
          refine i3.fin _ ?_
          first | omega | (simp only [List.length_append, List.length_cons, List.length_nil]; omega)
        ·
          obtain ⟨s2, m2, c2, hs2, i2⟩ := i1.e hN he (by omega) 0 0 rfl (by omega)
          obtain ⟨s3, m3, c3, hs3, i3⟩ := i2.e hN he (by omega) 0 0 rfl (by omega)
          intro meth
          simp (disch := first | omega | (simp only [List.length_append, List.length_cons, List.length_nil]; omega) | rfl) [-Int.natCast_add, -strOp, add_short, fold_k, fold_0, -BitVec.toNat_or, -BitVec.toNat_ofInt, -BitVec.toNat_and, box_of b42, box_of b3, load_of ld42, fieldAddr_of fa45_5, load_of ld3, store_of sz3, fieldAddr_of fa45_1, fieldAddr_of fa45_0, load_of ld22, len_slice u22, bin_str u9 .add (Or.inl rfl), fieldAddr_of fa45_8, load_of ld4, build_arr u70 sz9 zo70, index_arr u70 sz9, part_one ld9, build_arr u71 sz9 zo71, index_arr u71 sz9, build_arr u72 sz3 zo72, index_arr u72 sz3, part_one ld3, build_arr u73 sz9 zo73, index_arr u73 sz9, lkb, i1.l.1, c1, c2, i2.l.1, c3, i3.l.1]
          refine i3.fin _ ?_
          first | omega | (simp only [List.length_append, List.length_cons, List.length_nil]; omega)
        ·
          obtain ⟨s2, m2, c2, hs2, i2⟩ := i1.e hN he (by omega) 0 0 rfl (by omega)
          obtain ⟨s3, m3, c3, hs3, i3⟩ := i2.e hN he (by omega) 0 0 rfl (by omega)
          intro meth
          simp (disch := first | omega | (simp only [List.length_append, List.length_cons, List.length_nil]; omega) | rfl) [-Int.natCast_add, -strOp, add_short, fold_k, fold_0, -BitVec.toNat_or, -BitVec.toNat_ofInt, -BitVec.toNat_and, box_of b42, box_of b3, load_of ld42, fieldAddr_of fa45_5, load_of ld3, store_of sz3, fieldAddr_of fa45_1, fieldAddr_of fa45_0, load_of ld22, len_slice u22, bin_str u9 .add (Or.inl rfl), fieldAddr_of fa45_8, load_of ld4, build_arr u70 sz9 zo70, index_arr u70 sz9, part_one ld9, build_arr u71 sz9 zo71, index_arr u71 sz9, build_arr u72 sz3 zo72, index_arr u72 sz3, part_one ld3, build_arr u73 sz9 zo73, index_arr u73 sz9, lkb, i1.l.1, c1, c2, i2.l.1, c3, i3.l.1]
          refine i3.fin _ ?_
          first | omega | (simp only [List.length_append, List.length_cons, List.length_nil]; omega)
        ·
          obtain ⟨s2, m2, c2, hs2, i2⟩ := i1.e hN he (by omega) 0 0 rfl (by omega)
          obtain ⟨s3, m3, c3, hs3, i3⟩ := i2.e hN he (by omega) 0 0 rfl (by omega)
          intro meth
          simp (disch := first | omega | (simp only [List.length_append, List.length_cons, List.length_nil]; omega) | rfl) [-Int.natCast_add, -strOp, add_short, fold_k, fold_0, -BitVec.toNat_or, -BitVec.toNat_ofInt, -BitVec.toNat_and, box_of b42, box_of b3, load_of ld42, fieldAddr_of fa45_5, load_of ld3, store_of sz3, fieldAddr_of fa45_1, fieldAddr_of fa45_0, load_of ld22, len_slice u22, bin_str u9 .add (Or.inl rfl), fieldAddr_of fa45_8, load_of ld4, build_arr u70 sz9 zo70, index_arr u70 sz9, part_one ld9, build_arr u71 sz9 zo71, index_arr u71 sz9, build_arr u72 sz3 zo72, index_arr u72 sz3, part_one ld3, build_arr u73 sz9 zo73, index_arr u73 sz9, lkb, i1.l.1, c1, c2, i2.l.1, c3, i3.l.1]
          refine i3.fin _ ?_
          first | omega | (simp only [List.length_append, List.length_cons, List.length_nil]; omega)
        ·
          obtain ⟨s2, m2, c2, hs2, i2⟩ := i1.e hN he (by omega) 0 0 rfl (by omega)
          obtain ⟨s3, m3, c3, hs3, i3⟩ := i2.e hN he (by omega) 0 0 rfl (by omega)
          intro meth
          simp (disch := first | omega | (simp only [List.length_append, List.length_cons, List.length_nil]; omega) | rfl) [-Int.natCast_add, -strOp, add_short, fold_k, fold_0, -BitVec.toNat_or, -BitVec.toNat_ofInt, -BitVec.toNat_and, box_of b42, box_of b3, load_of ld42, fieldAddr_of fa45_5, load_of ld3, store_of sz3, fieldAddr_of fa45_1, fieldAddr_of fa45_0, load_of ld22, len_slice u22, bin_str u9 .add (Or.inl rfl), fieldAddr_of fa45_8, load_of ld4, build_arr u70 sz9 zo70, index_arr u70 sz9, part_one ld9, build_arr u71 sz9 zo71, index_arr u71 sz9, build_arr u72 sz3 zo72, index_arr u72 sz3, part_one ld3, build_arr u73 sz9 zo73, index_arr u73 sz9, lkb, i1.l.1, c1, c2, i2.l.1, c3, i3.l.1]
          refine i3.fin _ ?_
          first | omega | (simp only [List.length_append, List.length_cons, List.length_nil]; omega)
        ·
          obtain ⟨s2, m2, c2, hs2, i2⟩ := i1.e hN he (by omega) 0 0 rfl (by omega)
          intro meth
          simp (disch := first | omega | (simp only [List.length_append, List.length_cons, List.length_nil]; omega) | rfl) [-Int.natCast_add, -strOp, add_short, fold_k, fold_0, -BitVec.toNat_or, -BitVec.toNat_ofInt, -BitVec.toNat_and, box_of b42, box_of b3, load_of ld42, fieldAddr_of fa45_5, load_of ld3, store_of sz3, fieldAddr_of fa45_1, fieldAddr_of fa45_0, load_of ld22, len_slice u22, bin_str u9 .add (Or.inl rfl), fieldAddr_of fa45_8, load_of ld4, build_arr u70 sz9 zo70, index_arr u70 sz9, part_one ld9, build_arr u71 sz9 zo71, index_arr u71 sz9, build_arr u72 sz3 zo72, index_arr u72 sz3, part_one ld3, build_arr u73 sz9 zo73, index_arr u73 sz9, lkb, i1.l.1, c1, c2, i2.l.1]
          refine i2.fin _ ?_
          first | omega | (simp only [List.length_append, List.length_cons, List.length_nil]; omega)
        ·
          obtain ⟨s2, m2, c2, hs2, i2⟩ := i1.e hN he (by omega) 3 3 rfl (by omega)
          intro meth
          simp (disch := first | omega | (simp only [List.length_append, List.length_cons, List.length_nil]; omega) | rfl) [-Int.natCast_add, -strOp, add_short, fold_k, fold_0, -BitVec.toNat_or, -BitVec.toNat_ofInt, -BitVec.toNat_and, box_of b42, box_of b3, load_of ld42, fieldAddr_of fa45_5, load_of ld3, store_of sz3, fieldAddr_of fa45_1, fieldAddr_of fa45_0, load_of ld22, len_slice u22, bin_str u9 .add (Or.inl rfl), fieldAddr_of fa45_8, load_of ld4, build_arr u70 sz9 zo70, index_arr u70 sz9, part_one ld9, build_arr u71 sz9 zo71, index_arr u71 sz9, build_arr u72 sz3 zo72, index_arr u72 sz3, part_one ld3, build_arr u73 sz9 zo73, index_arr u73 sz9, lkb, i1.l.1, c1, c2, i2.l.1]
          refine i2.fin _ ?_
          first | omega | (simp only [List.length_append, List.length_cons, List.length_nil]; omega)
        ·
          obtain ⟨s2, m2, c2, hs2, i2⟩ := i1.e hN he (by omega) 3 3 rfl (by omega)
          obtain ⟨s3, m3, c3, hs3, i3⟩ := i2.e hN he (by omega) 0 0 rfl (by omega)
          intro meth
          simp (disch := first | omega | (simp only [List.length_append, List.length_cons, List.length_nil]; omega) | rfl) [-Int.natCast_add, -strOp, add_short, fold_k, fold_0, -BitVec.toNat_or, -BitVec.toNat_ofInt, -BitVec.toNat_and, box_of b42, box_of b3, load_of ld42, fieldAddr_of fa45_5, load_of ld3, store_of sz3, fieldAddr_of fa45_1, fieldAddr_of fa45_0, load_of ld22, len_slice u22, bin_str u9 .add (Or.inl rfl), fieldAddr_of fa45_8, load_of ld4, build_arr u70 sz9 zo70, index_arr u70 sz9, part_one ld9, build_arr u71 sz9 zo71, index_arr u71 sz9, build_arr u72 sz3 zo72, index_arr u72 sz3, part_one ld3, build_arr u73 sz9 zo73, index_arr u73 sz9, lkb, i1.l.1, c1, c2, i2.l.1, c3, i3.l.1]
          refine i3.fin _ ?_
          first | omega | (simp only [List.length_append, List.length_cons, List.length_nil]; omega)
        ·
          obtain ⟨s2, m2, c2, hs2, i2⟩ := i1.e hN he (by omega) 4 4 rfl (by omega)
          intro meth
          simp (disch := first | omega | (simp only [List.length_append, List.length_cons, List.length_nil]; omega) | rfl) [-Int.natCast_add, -strOp, add_short, fold_k, fold_0, -BitVec.toNat_or, -BitVec.toNat_ofInt, -BitVec.toNat_and, box_of b42, box_of b3, load_of ld42, fieldAddr_of fa45_5, load_of ld3, store_of sz3, fieldAddr_of fa45_1, fieldAddr_of fa45_0, load_of ld22, len_slice u22, bin_str u9 .add (Or.inl rfl), fieldAddr_of fa45_8, load_of ld4, build_arr u70 sz9 zo70, index_arr u70 sz9, part_one ld9, build_arr u71 sz9 zo71, index_arr u71 sz9, build_arr u72 sz3 zo72, index_arr u72 sz3, part_one ld3, build_arr u73 sz9 zo73, index_arr u73 sz9, lkb, i1.l.1, c1, c2, i2.l.1]
          refine i2.fin _ ?_
          first | omega | (simp only [List.length_append, List.length_cons, List.length_nil]; omega)
        ·
          obtain ⟨s2, m2, c2, hs2, i2⟩ := i1.e hN he (by omega) 5 5 rfl (by omega)
          intro meth
          simp (disch := first | omega | (simp only [List.length_append, List.length_cons, List.length_nil]; omega) | rfl) [-Int.natCast_add, -strOp, add_short, fold_k, fold_0, -BitVec.toNat_or, -BitVec.toNat_ofInt, -BitVec.toNat_and, box_of b42, box_of b3, load_of ld42, fieldAddr_of fa45_5, load_of ld3, store_of sz3, fieldAddr_of fa45_1, fieldAddr_of fa45_0, load_of ld22, len_slice u22, bin_str u9 .add (Or.inl rfl), fieldAddr_of fa45_8, load_of ld4, build_arr u70 sz9 zo70, index_arr u70 sz9, part_one ld9, build_arr u71 sz9 zo71, index_arr u71 sz9, build_arr u72 sz3 zo72, index_arr u72 sz3, part_one ld3, build_arr u73 sz9 zo73, index_arr u73 sz9, lkb, i1.l.1, c1, c2, i2.l.1]
          refine i2.fin _ ?_
          first | omega | (simp only [List.length_append, List.length_cons, List.length_nil]; omega)
        ·
          cases hca : σ.calls with
          | false =>
            rw [hca] at lc
            have lc2 := i1.l.2.2
            rw [hca] at lc2
            intro meth
            simp [-Int.natCast_add, -w35_85, -BitVec.toNat_or, -BitVec.toNat_ofInt, -BitVec.toNat_and, box_of b42, box_of b3, load_of ld42, fieldAddr_of fa45_5, load_of ld3, store_of sz3, fieldAddr_of fa45_1, fieldAddr_of fa45_0, load_of ld22, len_slice u22, bin_str u9 .add (Or.inl rfl), fieldAddr_of fa45_8, load_of ld4, build_arr u70 sz9 zo70, index_arr u70 sz9, part_one ld9, build_arr u71 sz9 zo71, index_arr u71 sz9, build_arr u72 sz3 zo72, index_arr u72 sz3, part_one ld3, build_arr u73 sz9 zo73, index_arr u73 sz9, lkb, i1.l.1, c1, lc2, i1.l.1]
            exact w_sub (E := [(1, .int .i64 0), (3, .pointer (some ⟨m.next, 0, none⟩))]) (meth m1 i1) ⟨by rfl, by rfl, trivial⟩
          | true =>
            have lc2 := i1.l.2.2
            rw [hca] at lc2
            obtain ⟨s3, m3, c3, hs3, i3⟩ := i1.e hN he (by omega) 0 0 rfl (by omega)
            obtain ⟨s4, m4, c4, hs4, i4⟩ := i3.e hN he (by omega) 0 0 rfl (by omega)
            intro meth
            simp (disch := first | omega | (simp only [List.length_append, List.length_cons, List.length_nil]; omega) | rfl) [-Int.natCast_add, -strOp, add_short, fold_k, fold_0, -BitVec.toNat_or, -BitVec.toNat_ofInt, -BitVec.toNat_and, box_of b42, box_of b3, load_of ld42, fieldAddr_of fa45_5, load_of ld3, store_of sz3, fieldAddr_of fa45_1, fieldAddr_of fa45_0, load_of ld22, len_slice u22, bin_str u9 .add (Or.inl rfl), fieldAddr_of fa45_8, load_of ld4, build_arr u70 sz9 zo70, index_arr u70 sz9, part_one ld9, build_arr u71 sz9 zo71, index_arr u71 sz9, build_arr u72 sz3 zo72, index_arr u72 sz3, part_one ld3, build_arr u73 sz9 zo73, index_arr u73 sz9, lkb, i1.l.1, c1, lc2, i1.l.1, c3, i3.l.1, c4, i4.l.1]
            refine i4.fin _ ?_
            first | omega | (simp only [List.length_append, List.length_cons, List.length_nil]; omega)
        ·
          cases hca : σ.calls with
          | false =>
            rw [hca] at lc
            have lc2 := i1.l.2.2
            rw [hca] at lc2
            intro meth
            simp [-Int.natCast_add, -w35_85, -BitVec.toNat_or, -BitVec.toNat_ofInt, -BitVec.toNat_and, box_of b42, box_of b3, load_of ld42, fieldAddr_of fa45_5, load_of ld3, store_of sz3, fieldAddr_of fa45_1, fieldAddr_of fa45_0, load_of ld22, len_slice u22, bin_str u9 .add (Or.inl rfl), fieldAddr_of fa45_8, load_of ld4, build_arr u70 sz9 zo70, index_arr u70 sz9, part_one ld9, build_arr u71 sz9 zo71, index_arr u71 sz9, build_arr u72 sz3 zo72, index_arr u72 sz3, part_one ld3, build_arr u73 sz9 zo73, index_arr u73 sz9, lkb, i1.l.1, c1, lc2, i1.l.1]
            exact w_sub (E := [(1, .int .i64 0), (3, .pointer (some ⟨m.next, 0, none⟩))]) (meth m1 i1) ⟨by rfl, by rfl, trivial⟩
          | true =>
            have lc2 := i1.l.2.2
            rw [hca] at lc2
            obtain ⟨s3, m3, c3, hs3, i3⟩ := i1.e hN he (by omega) 6 6 rfl (by omega)
            obtain ⟨s4, m4, c4, hs4, i4⟩ := i3.e hN he (by omega) 0 0 rfl (by omega)
            intro meth
            simp (disch := first | omega | (simp only [List.length_append, List.length_cons, List.length_nil]; omega) | rfl) [-Int.natCast_add, -strOp, add_short, fold_k, fold_0, -BitVec.toNat_or, -BitVec.toNat_ofInt, -BitVec.toNat_and, box_of b42, box_of b3, load_of ld42, fieldAddr_of fa45_5, load_of ld3, store_of sz3, fieldAddr_of fa45_1, fieldAddr_of fa45_0, load_of ld22, len_slice u22, bin_str u9 .add (Or.inl rfl), fieldAddr_of fa45_8, load_of ld4, build_arr u70 sz9 zo70, index_arr u70 sz9, part_one ld9, build_arr u71 sz9 zo71, index_arr u71 sz9, build_arr u72 sz3 zo72, index_arr u72 sz3, part_one ld3, build_arr u73 sz9 zo73, index_arr u73 sz9, lkb, i1.l.1, c1, lc2, i1.l.1, c3, i3.l.1, c4, i4.l.1]
            refine i4.fin _ ?_
            first | omega | (simp only [List.length_append, List.length_cons, List.length_nil]; omega)
        ·
          cases hca : σ.calls with
          | false =>
            rw [hca] at lc
            have lc2 := i1.l.2.2
            rw [hca] at lc2
            intro meth
            simp [-Int.natCast_add, -w35_85, -BitVec.toNat_or, -BitVec.toNat_ofInt, -BitVec.toNat_and, box_of b42, box_of b3, load_of ld42, fieldAddr_of fa45_5, load_of ld3, store_of sz3, fieldAddr_of fa45_1, fieldAddr_of fa45_0, load_of ld22, len_slice u22, bin_str u9 .add (Or.inl rfl), fieldAddr_of fa45_8, load_of ld4, build_arr u70 sz9 zo70, index_arr u70 sz9, part_one ld9, build_arr u71 sz9 zo71, index_arr u71 sz9, build_arr u72 sz3 zo72, index_arr u72 sz3, part_one ld3, build_arr u73 sz9 zo73, index_arr u73 sz9, lkb, i1.l.1, c1, lc2, i1.l.1]
            exact w_sub (E := [(1, .int .i64 0), (3, .pointer (some ⟨m.next, 0, none⟩))]) (meth m1 i1) ⟨by rfl, by rfl, trivial⟩
          | true =>
            have lc2 := i1.l.2.2
            rw [hca] at lc2
            obtain ⟨s3, m3, c3, hs3, i3⟩ := i1.e hN he (by omega) 4 4 rfl (by omega)
            obtain ⟨s4, m4, c4, hs4, i4⟩ := i3.e hN he (by omega) 0 0 rfl (by omega)
            intro meth
            simp (disch := first | omega | (simp only [List.length_append, List.length_cons, List.length_nil]; omega) | rfl) [-Int.natCast_add, -strOp, add_short, fold_k, fold_0, -BitVec.toNat_or, -BitVec.toNat_ofInt, -BitVec.toNat_and, box_of b42, box_of b3, load_of ld42, fieldAddr_of fa45_5, load_of ld3, store_of sz3, fieldAddr_of fa45_1, fieldAddr_of fa45_0, load_of ld22, len_slice u22, bin_str u9 .add (Or.inl rfl), fieldAddr_of fa45_8, load_of ld4, build_arr u70 sz9 zo70, index_arr u70 sz9, part_one ld9, build_arr u71 sz9 zo71, index_arr u71 sz9, build_arr u72 sz3 zo72, index_arr u72 sz3, part_one ld3, build_arr u73 sz9 zo73, index_arr u73 sz9, lkb, i1.l.1, c1, lc2, i1.l.1, c3, i3.l.1, c4, i4.l.1]
            refine i4.fin _ ?_
            first | omega | (simp only [List.length_append, List.length_cons, List.length_nil]; omega)
        ·
          obtain ⟨s2, m2, c2, hs2, i2⟩ := i1.e hN he (by omega) 2 2 rfl (by omega)
          obtain ⟨s3, m3, c3, hs3, i3⟩ := i2.e hN he (by omega) 0 0 rfl (by omega)
          intro meth
          simp (disch := first | omega | (simp only [List.length_append, List.length_cons, List.length_nil]; omega) | rfl) [-Int.natCast_add, -strOp, add_short, fold_k, fold_0, -BitVec.toNat_or, -BitVec.toNat_ofInt, -BitVec.toNat_and, box_of b42, box_of b3, load_of ld42, fieldAddr_of fa45_5, load_of ld3, store_of sz3, fieldAddr_of fa45_1, fieldAddr_of fa45_0, load_of ld22, len_slice u22, bin_str u9 .add (Or.inl rfl), fieldAddr_of fa45_8, load_of ld4, build_arr u70 sz9 zo70, index_arr u70 sz9, part_one ld9, build_arr u71 sz9 zo71, index_arr u71 sz9, build_arr u72 sz3 zo72, index_arr u72 sz3, part_one ld3, build_arr u73 sz9 zo73, index_arr u73 sz9, lkb, i1.l.1, c1, c2, i2.l.1, c3, i3.l.1]
          refine i3.fin _ ?_
          first | omega | (simp only [List.length_append, List.length_cons, List.length_nil]; omega)
        ·
          intro meth
          simp [-Int.natCast_add, -w35_85, -BitVec.toNat_or, -BitVec.toNat_ofInt, -BitVec.toNat_and, box_of b42, box_of b3, load_of ld42, fieldAddr_of fa45_5, load_of ld3, store_of sz3, fieldAddr_of fa45_1, fieldAddr_of fa45_0, load_of ld22, len_slice u22, bin_str u9 .add (Or.inl rfl), fieldAddr_of fa45_8, load_of ld4, build_arr u70 sz9 zo70, index_arr u70 sz9, part_one ld9, build_arr u71 sz9 zo71, index_arr u71 sz9, build_arr u72 sz3 zo72, index_arr u72 sz3, part_one ld3, build_arr u73 sz9 zo73, index_arr u73 sz9, lkb, i1.l.1, c1]
          exact w_sub (E := [(1, .int .i64 0), (3, .pointer (some ⟨m.next, 0, none⟩))]) (meth m1 i1) ⟨by rfl, by rfl, trivial⟩
      intro m2 i2
      obtain ⟨s, m3, c3, hs, i3⟩ := i2.leaf hN 0 0 rfl (by omega)
      have lkc := i2.l.1
      simp [-Int.natCast_add, -BitVec.toNat_or, -BitVec.toNat_ofInt, -BitVec.toNat_and, box_of b42, box_of b3, load_of ld42, fieldAddr_of fa45_5, load_of ld3, store_of sz3, fieldAddr_of fa45_1, fieldAddr_of fa45_0, load_of ld22, len_slice u22, bin_str u9 .add (Or.inl rfl), fieldAddr_of fa45_8, load_of ld4, build_arr u70 sz9 zo70, index_arr u70 sz9, part_one ld9, build_arr u71 sz9 zo71, index_arr u71 sz9, build_arr u72 sz3 zo72, index_arr u72 sz3, part_one ld3, build_arr u73 sz9 zo73, index_arr u73 sz9, lkc, c3]
      exact i3.fin s (by omega)
    ·
      apply cut1_ (fun m2 : Mem => Ix m b m.next mA.next (d + 1) σ m2)
      case main =>
        obtain ⟨y, m1, c1, hy, i1⟩ := i0.next hN 10 10 rfl (by omega) (by omega)
        rcases (by omega : y = 0 ∨ y = 1 ∨ y = 2 ∨ y = 3 ∨ y = 4 ∨ y = 5 ∨ y = 6 ∨ y = 7 ∨ y = 8 ∨ y = 9) with rfl | rfl | rfl | rfl | rfl | rfl | rfl | rfl | rfl | rfl
        ·
          obtain ⟨s2, m2, c2, hs2, i2⟩ := i1.e hN he (by omega) 0 0 rfl (by omega)
          obtain ⟨y3, m3, c3, hy3, i3⟩ := i2.next hN 6 6 rfl (by omega) (by omega)
          rcases (by omega : y3 = 0 ∨ y3 = 1 ∨ y3 = 2 ∨ y3 = 3 ∨ y3 = 4 ∨ y3 = 5) with rfl | rfl | rfl | rfl | rfl | rfl
          all_goals
            obtain ⟨s4, m4, c4, hs4, i4⟩ := i3.e hN he (by omega) 0 0 rfl (by omega)
            intro meth
            simp (disch := first | omega | (simp only [List.length_append, List.length_cons, List.length_nil]; omega) | rfl) [-Int.natCast_add, -strOp, add_short, fold_k, fold_0, -BitVec.toNat_or, -BitVec.toNat_ofInt, -BitVec.toNat_and, box_of b42, box_of b3, load_of ld42, fieldAddr_of fa45_5, load_of ld3, store_of sz3, fieldAddr_of fa45_1, fieldAddr_of fa45_0, load_of ld22, len_slice u22, bin_str u9 .add (Or.inl rfl), fieldAddr_of fa45_8, load_of ld4, build_arr u70 sz9 zo70, index_arr u70 sz9, part_one ld9, build_arr u71 sz9 zo71, index_arr u71 sz9, build_arr u72 sz3 zo72, index_arr u72 sz3, part_one ld3, build_arr u73 sz9 zo73, index_arr u73 sz9, lkb, i1.l.1, c1, c2, i2.l.1, c3, i3.l.1, c4, i4.l.1]
            refine i4.fin _ ?_
            first | omega | (simp only [List.length_append, List.length_cons, List.length_nil]; omega)
        ·
          obtain ⟨s2, m2, c2, hs2, i2⟩ := i1.e hN he (by omega) 0 0 rfl (by omega)
          obtain ⟨y3, m3, c3, hy3, i3⟩ := i2.next hN 6 6 rfl (by omega) (by omega)
          rcases (by omega : y3 = 0 ∨ y3 = 1 ∨ y3 = 2 ∨ y3 = 3 ∨ y3 = 4 ∨ y3 = 5) with rfl | rfl | rfl | rfl | rfl | rfl
          all_goals
            obtain ⟨s4, m4, c4, hs4, i4⟩ := i3.e hN he (by omega) 0 0 rfl (by omega)
            intro meth
            simp (disch := first | omega | (simp only [List.length_append, List.length_cons, List.length_nil]; omega) | rfl) [-Int.natCast_add, -strOp, add_short, fold_k, fold_0, -BitVec.toNat_or, -BitVec.toNat_ofInt, -BitVec.toNat_and, box_of b42, box_of b3, load_of ld42, fieldAddr_of fa45_5, load_of ld3, store_of sz3, fieldAddr_of fa45_1, fieldAddr_of fa45_0, load_of ld22, len_slice u22, bin_str u9 .add (Or.inl rfl), fieldAddr_of fa45_8, load_of ld4, build_arr u70 sz9 zo70, index_arr u70 sz9, part_one ld9, build_arr u71 sz9 zo71, index_arr u71 sz9, build_arr u72 sz3 zo72, index_arr u72 sz3, part_one ld3, build_arr u73 sz9 zo73, index_arr u73 sz9, lkb, i1.l.1, c1, c2, i2.l.1, c3, i3.l.1, c4, i4.l.1]
            refine i4.fin _ ?_
            first | omega | (simp only [List.length_append, List.length_cons, List.length_nil]; omega)
        ·
          obtain ⟨s2, m2, c2, hs2, i2⟩ := i1.e hN he (by omega) 0 0 rfl (by omega)
          obtain ⟨y3, m3, c3, hy3, i3⟩ := i2.next hN 6 6 rfl (by omega) (by omega)
          rcases (by omega : y3 = 0 ∨ y3 = 1 ∨ y3 = 2 ∨ y3 = 3 ∨ y3 = 4 ∨ y3 = 5) with rfl | rfl | rfl | rfl | rfl | rfl
          all_goals
            obtain ⟨s4, m4, c4, hs4, i4⟩ := i3.e hN he (by omega) 0 0 rfl (by omega)
            intro meth
            simp (disch := first | omega | (simp only [List.length_append, List.length_cons, List.length_nil]; omega) | rfl) [-Int.natCast_add, -strOp, add_short, fold_k, fold_0, -BitVec.toNat_or, -BitVec.toNat_ofInt, -BitVec.toNat_and, box_of b42, box_of b3, load_of ld42, fieldAddr_of fa45_5, load_of ld3, store_of sz3, fieldAddr_of fa45_1, fieldAddr_of fa45_0, load_of ld22, len_slice u22, bin_str u9 .add (Or.inl rfl), fieldAddr_of fa45_8, load_of ld4, build_arr u70 sz9 zo70, index_arr u70 sz9, part_one ld9, build_arr u71 sz9 zo71, index_arr u71 sz9, build_arr u72 sz3 zo72, index_arr u72 sz3, part_one ld3, build_arr u73 sz9 zo73, index_arr u73 sz9, lkb, i1.l.1, c1, c2, i2.l.1, c3, i3.l.1, c4, i4.l.1]
            refine i4.fin _ ?_
            first | omega | (simp only [List.length_append, List.length_cons, List.length_nil]; omega)
        ·
          obtain ⟨s2, m2, c2, hs2, i2⟩ := i1.e hN he (by omega) 1 1 rfl (by omega)
          obtain ⟨s3, m3, c3, hs3, i3⟩ := i2.e hN he (by omega) 1 1 rfl (by omega)
          intro meth
          simp (disch := first | omega | (simp only [List.length_append, List.length_cons, List.length_nil]; omega) | rfl) [-Int.natCast_add, -strOp, add_short, fold_k, fold_0, -BitVec.toNat_or, -BitVec.toNat_ofInt, -BitVec.toNat_and, box_of b42, box_of b3, load_of ld42, fieldAddr_of fa45_5, load_of ld3, store_of sz3, fieldAddr_of fa45_1, fieldAddr_of fa45_0, load_of ld22, len_slice u22, bin_str u9 .add (Or.inl rfl), fieldAddr_of fa45_8, load_of ld4, build_arr u70 sz9 zo70, index_arr u70 sz9, part_one ld9, build_arr u71 sz9 zo71, index_arr u71 sz9, build_arr u72 sz3 zo72, index_arr u72 sz3, part_one ld3, build_arr u73 sz9 zo73, index_arr u73 sz9, lkb, i1.l.1, c1, c2, i2.l.1, c3, i3.l.1]
          refine i3.fin _ ?_
          first | omega | (simp only [List.length_append, List.length_cons, List.length_nil]; omega)
        ·
          obtain ⟨s2, m2, c2, hs2, i2⟩ := i1.e hN he (by omega) 1 1 rfl (by omega)
          obtain ⟨s3, m3, c3, hs3, i3⟩ := i2.e hN he (by omega) 1 1 rfl (by omega)
          intro meth
          simp (disch := first | omega | (simp only [List.length_append, List.length_cons, List.length_nil]; omega) | rfl) [-Int.natCast_add, -strOp, add_short, fold_k, fold_0, -BitVec.toNat_or, -BitVec.toNat_ofInt, -BitVec.toNat_and, box_of b42, box_of b3, load_of ld42, fieldAddr_of fa45_5, load_of ld3, store_of sz3, fieldAddr_of fa45_1, fieldAddr_of fa45_0, load_of ld22, len_slice u22, bin_str u9 .add (Or.inl rfl), fieldAddr_of fa45_8, load_of ld4, build_arr u70 sz9 zo70, index_arr u70 sz9, part_one ld9, build_arr u71 sz9 zo71, index_arr u71 sz9, build_arr u72 sz3 zo72, index_arr u72 sz3, part_one ld3, build_arr u73 sz9 zo73, index_arr u73 sz9, lkb, i1.l.1, c1, c2, i2.l.1, c3, i3.l.1]
          refine i3.fin _ ?_
          first | omega | (simp only [List.length_append, List.length_cons, List.length_nil]; omega)
        ·
          obtain ⟨s2, m2, c2, hs2, i2⟩ := i1.e hN he (by omega) 1 1 rfl (by omega)
          intro meth
          simp (disch := first | omega | (simp only [List.length_append, List.length_cons, List.length_nil]; omega) | rfl) [-Int.natCast_add, -strOp, add_short, fold_k, fold_0, -BitVec.toNat_or, -BitVec.toNat_ofInt, -BitVec.toNat_and, box_of b42, box_of b3, load_of ld42, fieldAddr_of fa45_5, load_of ld3, store_of sz3, fieldAddr_of fa45_1, fieldAddr_of fa45_0, load_of ld22, len_slice u22, bin_str u9 .add (Or.inl rfl), fieldAddr_of fa45_8, load_of ld4, build_arr u70 sz9 zo70, index_arr u70 sz9, part_one ld9, build_arr u71 sz9 zo71, index_arr u71 sz9, build_arr u72 sz3 zo72, index_arr u72 sz3, part_one ld3, build_arr u73 sz9 zo73, index_arr u73 sz9, lkb, i1.l.1, c1, c2, i2.l.1]
          refine i2.fin _ ?_
          first | omega | (simp only [List.length_append, List.length_cons, List.length_nil]; omega)
        ·
          obtain ⟨s2, m2, c2, hs2, i2⟩ := i1.e hN he (by omega) 4 4 rfl (by omega)
          obtain ⟨y3, m3, c3, hy3, i3⟩ := i2.next hN 2 2 rfl (by omega) (by omega)
          rcases (by omega : y3 = 0 ∨ y3 = 1) with rfl | rfl
          all_goals
            intro meth
            simp (disch := first | omega | (simp only [List.length_append, List.length_cons, List.length_nil]; omega) | rfl) [-Int.natCast_add, -strOp, add_short, fold_k, fold_0, -BitVec.toNat_or, -BitVec.toNat_ofInt, -BitVec.toNat_and, box_of b42, box_of b3, load_of ld42, fieldAddr_of fa45_5, load_of ld3, store_of sz3, fieldAddr_of fa45_1, fieldAddr_of fa45_0, load_of ld22, len_slice u22, bin_str u9 .add (Or.inl rfl), fieldAddr_of fa45_8, load_of ld4, build_arr u70 sz9 zo70, index_arr u70 sz9, part_one ld9, build_arr u71 sz9 zo71, index_arr u71 sz9, build_arr u72 sz3 zo72, index_arr u72 sz3, part_one ld3, build_arr u73 sz9 zo73, index_arr u73 sz9, lkb, i1.l.1, c1, c2, i2.l.1, c3, i3.l.1]
            refine i3.fin _ ?_
            first | omega | (simp only [List.length_append, List.length_cons, List.length_nil]; omega)
        ·
          obtain ⟨s2, m2, c2, hs2, i2⟩ := i1.e hN he (by omega) 6 6 rfl (by omega)
          obtain ⟨y3, m3, c3, hy3, i3⟩ := i2.next hN 2 2 rfl (by omega) (by omega)
          rcases (by omega : y3 = 0 ∨ y3 = 1) with rfl | rfl
          ·
            obtain ⟨s4, m4, c4, hs4, i4⟩ := i3.e hN he (by omega) 4 4 rfl (by omega)
            intro meth
            simp (disch := first | omega | (simp only [List.length_append, List.length_cons, List.length_nil]; omega) | rfl) [-Int.natCast_add, -strOp, add_short, fold_k, fold_0, -BitVec.toNat_or, -BitVec.toNat_ofInt, -BitVec.toNat_and, box_of b42, box_of b3, load_of ld42, fieldAddr_of fa45_5, load_of ld3, store_of sz3, fieldAddr_of fa45_1, fieldAddr_of fa45_0, load_of ld22, len_slice u22, bin_str u9 .add (Or.inl rfl), fieldAddr_of fa45_8, load_of ld4, build_arr u70 sz9 zo70, index_arr u70 sz9, part_one ld9, build_arr u71 sz9 zo71, index_arr u71 sz9, build_arr u72 sz3 zo72, index_arr u72 sz3, part_one ld3, build_arr u73 sz9 zo73, index_arr u73 sz9, lkb, i1.l.1, c1, c2, i2.l.1, c3, i3.l.1, c4, i4.l.1]
            refine i4.fin _ ?_
            first | omega | (simp only [List.length_append, List.length_cons, List.length_nil]; omega)
          ·
            obtain ⟨s4, m4, c4, hs4, i4⟩ := i3.e hN he (by omega) 6 6 rfl (by omega)
            intro meth
            simp (disch := first | omega | (simp only [List.length_append, List.length_cons, List.length_nil]; omega) | rfl) [-Int.natCast_add, -strOp, add_short, fold_k, fold_0, -BitVec.toNat_or, -BitVec.toNat_ofInt, -BitVec.toNat_and, box_of b42, box_of b3, load_of ld42, fieldAddr_of fa45_5, load_of ld3, store_of sz3, fieldAddr_of fa45_1, fieldAddr_of fa45_0, load_of ld22, len_slice u22, bin_str u9 .add (Or.inl rfl), fieldAddr_of fa45_8, load_of ld4, build_arr u70 sz9 zo70, index_arr u70 sz9, part_one ld9, build_arr u71 sz9 zo71, index_arr u71 sz9, build_arr u72 sz3 zo72, index_arr u72 sz3, part_one ld3, build_arr u73 sz9 zo73, index_arr u73 sz9, lkb, i1.l.1, c1, c2, i2.l.1, c3, i3.l.1, c4, i4.l.1]
            refine i4.fin _ ?_
            first | omega | (simp only [List.length_append, List.length_cons, List.length_nil]; omega)
        ·
          obtain ⟨s2, m2, c2, hs2, i2⟩ := i1.e hN he (by omega) 2 2 rfl (by omega)
          obtain ⟨y3, m3, c3, hy3, i3⟩ := i2.next hN 4 4 rfl (by omega) (by omega)
          rcases (by omega : y3 = 0 ∨ y3 = 1 ∨ y3 = 2 ∨ y3 = 3) with rfl | rfl | rfl | rfl
          all_goals
            obtain ⟨s4, m4, c4, hs4, i4⟩ := i3.e hN he (by omega) 2 2 rfl (by omega)
            intro meth
            simp (disch := first | omega | (simp only [List.length_append, List.length_cons, List.length_nil]; omega) | rfl) [-Int.natCast_add, -strOp, add_short, fold_k, fold_0, -BitVec.toNat_or, -BitVec.toNat_ofInt, -BitVec.toNat_and, box_of b42, box_of b3, load_of ld42, fieldAddr_of fa45_5, load_of ld3, store_of sz3, fieldAddr_of fa45_1, fieldAddr_of fa45_0, load_of ld22, len_slice u22, bin_str u9 .add (Or.inl rfl), fieldAddr_of fa45_8, load_of ld4, build_arr u70 sz9 zo70, index_arr u70 sz9, part_one ld9, build_arr u71 sz9 zo71, index_arr u71 sz9, build_arr u72 sz3 zo72, index_arr u72 sz3, part_one ld3, build_arr u73 sz9 zo73, index_arr u73 sz9, lkb, i1.l.1, c1, c2, i2.l.1, c3, i3.l.1, c4, i4.l.1]
            refine i4.fin _ ?_
            first | omega | (simp only [List.length_append, List.length_cons, List.length_nil]; omega)
        ·
          intro meth
          simp [-Int.natCast_add, -w35_85, -BitVec.toNat_or, -BitVec.toNat_ofInt, -BitVec.toNat_and, box_of b42, box_of b3, load_of ld42, fieldAddr_of fa45_5, load_of ld3, store_of sz3, fieldAddr_of fa45_1, fieldAddr_of fa45_0, load_of ld22, len_slice u22, bin_str u9 .add (Or.inl rfl), fieldAddr_of fa45_8, load_of ld4, build_arr u70 sz9 zo70, index_arr u70 sz9, part_one ld9, build_arr u71 sz9 zo71, index_arr u71 sz9, build_arr u72 sz3 zo72, index_arr u72 sz3, part_one ld3, build_arr u73 sz9 zo73, index_arr u73 sz9, lkb, i1.l.1, c1]
          exact w_sub (E := [(1, .int .i64 1), (3, .pointer (some ⟨m.next, 0, none⟩))]) (meth m1 i1) ⟨by rfl, by rfl, trivial⟩
      intro m2 i2
      obtain ⟨s, m3, c3, hs, i3⟩ := i2.leaf hN 1 1 rfl (by omega)
      have lkc := i2.l.1
      simp [-Int.natCast_add, -BitVec.toNat_or, -BitVec.toNat_ofInt, -BitVec.toNat_and, box_of b42, box_of b3, load_of ld42, fieldAddr_of fa45_5, load_of ld3, store_of sz3, fieldAddr_of fa45_1, fieldAddr_of fa45_0, load_of ld22, len_slice u22, bin_str u9 .add (Or.inl rfl), fieldAddr_of fa45_8, load_of ld4, build_arr u70 sz9 zo70, index_arr u70 sz9, part_one ld9, build_arr u71 sz9 zo71, index_arr u71 sz9, build_arr u72 sz3 zo72, index_arr u72 sz3, part_one ld3, build_arr u73 sz9 zo73, index_arr u73 sz9, lkc, c3]
      exact i3.fin s (by omega)
    ·
      apply cut1_ (fun m2 : Mem => Ix m b m.next mA.next (d + 1) σ m2)
      case main =>
        obtain ⟨y, m1, c1, hy, i1⟩ := i0.next hN 3 3 rfl (by omega) (by omega)
        rcases (by omega : y = 0 ∨ y = 1 ∨ y = 2) with rfl | rfl | rfl
        ·
          obtain ⟨s2, m2, c2, hs2, i2⟩ := i1.e hN he (by omega) 2 2 rfl (by omega)
          obtain ⟨s3, m3, c3, hs3, i3⟩ := i2.e hN he (by omega) 2 2 rfl (by omega)
          intro meth
          simp (disch := first | omega | (simp only [List.length_append, List.length_cons, List.length_nil]; omega) | rfl) [-Int.natCast_add, -strOp, add_short, fold_k, fold_0, -BitVec.toNat_or, -BitVec.toNat_ofInt, -BitVec.toNat_and, box_of b42, box_of b3, load_of ld42, fieldAddr_of fa45_5, load_of ld3, store_of sz3, fieldAddr_of fa45_1, fieldAddr_of fa45_0, load_of ld22, len_slice u22, bin_str u9 .add (Or.inl rfl), fieldAddr_of fa45_8, load_of ld4, build_arr u70 sz9 zo70, index_arr u70 sz9, part_one ld9, build_arr u71 sz9 zo71, index_arr u71 sz9, build_arr u72 sz3 zo72, index_arr u72 sz3, part_one ld3, build_arr u73 sz9 zo73, index_arr u73 sz9, lkb, i1.l.1, c1, c2, i2.l.1, c3, i3.l.1]
          refine i3.fin _ ?_
          first | omega | (simp only [List.length_append, List.length_cons, List.length_nil]; omega)
        ·
          intro meth
          simp [-Int.natCast_add, -w35_85, -BitVec.toNat_or, -BitVec.toNat_ofInt, -BitVec.toNat_and, box_of b42, box_of b3, load_of ld42, fieldAddr_of fa45_5, load_of ld3, store_of sz3, fieldAddr_of fa45_1, fieldAddr_of fa45_0, load_of ld22, len_slice u22, bin_str u9 .add (Or.inl rfl), fieldAddr_of fa45_8, load_of ld4, build_arr u70 sz9 zo70, index_arr u70 sz9, part_one ld9, build_arr u71 sz9 zo71, index_arr u71 sz9, build_arr u72 sz3 zo72, index_arr u72 sz3, part_one ld3, build_arr u73 sz9 zo73, index_arr u73 sz9, lkb, i1.l.1, c1]
          exact w_sub (E := [(1, .int .i64 2), (3, .pointer (some ⟨m.next, 0, none⟩))]) (meth m1 i1) ⟨by rfl, by rfl, trivial⟩
        ·
          intro meth
          simp [-Int.natCast_add, -w35_85, -BitVec.toNat_or, -BitVec.toNat_ofInt, -BitVec.toNat_and, box_of b42, box_of b3, load_of ld42, fieldAddr_of fa45_5, load_of ld3, store_of sz3, fieldAddr_of fa45_1, fieldAddr_of fa45_0, load_of ld22, len_slice u22, bin_str u9 .add (Or.inl rfl), fieldAddr_of fa45_8, load_of ld4, build_arr u70 sz9 zo70, index_arr u70 sz9, part_one ld9, build_arr u71 sz9 zo71, index_arr u71 sz9, build_arr u72 sz3 zo72, index_arr u72 sz3, part_one ld3, build_arr u73 sz9 zo73, index_arr u73 sz9, lkb, i1.l.1, c1]
          exact w_sub (E := [(1, .int .i64 2), (3, .pointer (some ⟨m.next, 0, none⟩))]) (meth m1 i1) ⟨by rfl, by rfl, trivial⟩
      intro m2 i2
      obtain ⟨s, m3, c3, hs, i3⟩ := i2.leaf hN 2 2 rfl (by omega)
      have lkc := i2.l.1
      simp [-Int.natCast_add, -BitVec.toNat_or, -BitVec.toNat_ofInt, -BitVec.toNat_and, box_of b42, box_of b3, load_of ld42, fieldAddr_of fa45_5, load_of ld3, store_of sz3, fieldAddr_of fa45_1, fieldAddr_of fa45_0, load_of ld22, len_slice u22, bin_str u9 .add (Or.inl rfl), fieldAddr_of fa45_8, load_of ld4, build_arr u70 sz9 zo70, index_arr u70 sz9, part_one ld9, build_arr u71 sz9 zo71, index_arr u71 sz9, build_arr u72 sz3 zo72, index_arr u72 sz3, part_one ld3, build_arr u73 sz9 zo73, index_arr u73 sz9, lkc, c3]
      exact i3.fin s (by omega)
    ·
      apply cut1_ (fun m2 : Mem => Ix m b m.next mA.next (d + 1) σ m2)
      case main =>
        obtain ⟨y, m1, c1, hy, i1⟩ := i0.next hN 5 5 rfl (by omega) (by omega)
        rcases (by omega : y = 0 ∨ y = 1 ∨ y = 2 ∨ y = 3 ∨ y = 4) with rfl | rfl | rfl | rfl | rfl
        ·
          obtain ⟨s2, m2, c2, hs2, i2⟩ := i1.e hN he (by omega) 0 0 rfl (by omega)
          intro meth
          simp (disch := first | omega | (simp only [List.length_append, List.length_cons, List.length_nil]; omega) | rfl) [-Int.natCast_add, -strOp, add_short, fold_k, fold_0, -BitVec.toNat_or, -BitVec.toNat_ofInt, -BitVec.toNat_and, box_of b42, box_of b3, load_of ld42, fieldAddr_of fa45_5, load_of ld3, store_of sz3, fieldAddr_of fa45_1, fieldAddr_of fa45_0, load_of ld22, len_slice u22, bin_str u9 .add (Or.inl rfl), fieldAddr_of fa45_8, load_of ld4, build_arr u70 sz9 zo70, index_arr u70 sz9, part_one ld9, build_arr u71 sz9 zo71, index_arr u71 sz9, build_arr u72 sz3 zo72, index_arr u72 sz3, part_one ld3, build_arr u73 sz9 zo73, index_arr u73 sz9, lkb, i1.l.1, c1, c2, i2.l.1]
          refine i2.fin _ ?_
          first | omega | (simp only [List.length_append, List.length_cons, List.length_nil]; omega)
        ·
          obtain ⟨s2, m2, c2, hs2, i2⟩ := i1.e hN he (by omega) 5 5 rfl (by omega)
          intro meth
          simp (disch := first | omega | (simp only [List.length_append, List.length_cons, List.length_nil]; omega) | rfl) [-Int.natCast_add, -strOp, add_short, fold_k, fold_0, -BitVec.toNat_or, -BitVec.toNat_ofInt, -BitVec.toNat_and, box_of b42, box_of b3, load_of ld42, fieldAddr_of fa45_5, load_of ld3, store_of sz3, fieldAddr_of fa45_1, fieldAddr_of fa45_0, load_of ld22, len_slice u22, bin_str u9 .add (Or.inl rfl), fieldAddr_of fa45_8, load_of ld4, build_arr u70 sz9 zo70, index_arr u70 sz9, part_one ld9, build_arr u71 sz9 zo71, index_arr u71 sz9, build_arr u72 sz3 zo72, index_arr u72 sz3, part_one ld3, build_arr u73 sz9 zo73, index_arr u73 sz9, lkb, i1.l.1, c1, c2, i2.l.1]
          refine i2.fin _ ?_
          first | omega | (simp only [List.length_append, List.length_cons, List.length_nil]; omega)
        ·
          intro meth
          simp [-Int.natCast_add, -w35_85, -BitVec.toNat_or, -BitVec.toNat_ofInt, -BitVec.toNat_and, box_of b42, box_of b3, load_of ld42, fieldAddr_of fa45_5, load_of ld3, store_of sz3, fieldAddr_of fa45_1, fieldAddr_of fa45_0, load_of ld22, len_slice u22, bin_str u9 .add (Or.inl rfl), fieldAddr_of fa45_8, load_of ld4, build_arr u70 sz9 zo70, index_arr u70 sz9, part_one ld9, build_arr u71 sz9 zo71, index_arr u71 sz9, build_arr u72 sz3 zo72, index_arr u72 sz3, part_one ld3, build_arr u73 sz9 zo73, index_arr u73 sz9, lkb, i1.l.1, c1]
          exact w_sub (E := [(1, .int .i64 3), (3, .pointer (some ⟨m.next, 0, none⟩))]) (meth m1 i1) ⟨by rfl, by rfl, trivial⟩
        ·
          intro meth
          simp [-Int.natCast_add, -w35_85, -BitVec.toNat_or, -BitVec.toNat_ofInt, -BitVec.toNat_and, box_of b42, box_of b3, load_of ld42, fieldAddr_of fa45_5, load_of ld3, store_of sz3, fieldAddr_of fa45_1, fieldAddr_of fa45_0, load_of ld22, len_slice u22, bin_str u9 .add (Or.inl rfl), fieldAddr_of fa45_8, load_of ld4, build_arr u70 sz9 zo70, index_arr u70 sz9, part_one ld9, build_arr u71 sz9 zo71, index_arr u71 sz9, build_arr u72 sz3 zo72, index_arr u72 sz3, part_one ld3, build_arr u73 sz9 zo73, index_arr u73 sz9, lkb, i1.l.1, c1]
          exact w_sub (E := [(1, .int .i64 3), (3, .pointer (some ⟨m.next, 0, none⟩))]) (meth m1 i1) ⟨by rfl, by rfl, trivial⟩
        ·
          intro meth
          simp [-Int.natCast_add, -w35_85, -BitVec.toNat_or, -BitVec.toNat_ofInt, -BitVec.toNat_and, box_of b42, box_of b3, load_of ld42, fieldAddr_of fa45_5, load_of ld3, store_of sz3, fieldAddr_of fa45_1, fieldAddr_of fa45_0, load_of ld22, len_slice u22, bin_str u9 .add (Or.inl rfl), fieldAddr_of fa45_8, load_of ld4, build_arr u70 sz9 zo70, index_arr u70 sz9, part_one ld9, build_arr u71 sz9 zo71, index_arr u71 sz9, build_arr u72 sz3 zo72, index_arr u72 sz3, part_one ld3, build_arr u73 sz9 zo73, index_arr u73 sz9, lkb, i1.l.1, c1]
          exact w_sub (E := [(1, .int .i64 3), (3, .pointer (some ⟨m.next, 0, none⟩))]) (meth m1 i1) ⟨by rfl, by rfl, trivial⟩
      intro m2 i2
      obtain ⟨s, m3, c3, hs, i3⟩ := i2.leaf hN 3 3 rfl (by omega)
      have lkc := i2.l.1
      simp [-Int.natCast_add, -BitVec.toNat_or, -BitVec.toNat_ofInt, -BitVec.toNat_and, box_of b42, box_of b3, load_of ld42, fieldAddr_of fa45_5, load_of ld3, store_of sz3, fieldAddr_of fa45_1, fieldAddr_of fa45_0, load_of ld22, len_slice u22, bin_str u9 .add (Or.inl rfl), fieldAddr_of fa45_8, load_of ld4, build_arr u70 sz9 zo70, index_arr u70 sz9, part_one ld9, build_arr u71 sz9 zo71, index_arr u71 sz9, build_arr u72 sz3 zo72, index_arr u72 sz3, part_one ld3, build_arr u73 sz9 zo73, index_arr u73 sz9, lkc, c3]
      exact i3.fin s (by omega)
    ·
      apply cut1_ (fun m2 : Mem => Ix m b m.next mA.next (d + 1) σ m2)
      case main =>
        obtain ⟨y, m1, c1, hy, i1⟩ := i0.next hN 6 6 rfl (by omega) (by omega)
        rcases (by omega : y = 0 ∨ y = 1 ∨ y = 2 ∨ y = 3 ∨ y = 4 ∨ y = 5) with rfl | rfl | rfl | rfl | rfl | rfl
        ·
          intro meth
          simp (disch := first | omega | (simp only [List.length_append, List.length_cons, List.length_nil]; omega) | rfl) [-Int.natCast_add, -strOp, add_short, fold_k, fold_0, -BitVec.toNat_or, -BitVec.toNat_ofInt, -BitVec.toNat_and, box_of b42, box_of b3, load_of ld42, fieldAddr_of fa45_5, load_of ld3, store_of sz3, fieldAddr_of fa45_1, fieldAddr_of fa45_0, load_of ld22, len_slice u22, bin_str u9 .add (Or.inl rfl), fieldAddr_of fa45_8, load_of ld4, build_arr u70 sz9 zo70, index_arr u70 sz9, part_one ld9, build_arr u71 sz9 zo71, index_arr u71 sz9, build_arr u72 sz3 zo72, index_arr u72 sz3, part_one ld3, build_arr u73 sz9 zo73, index_arr u73 sz9, lkb, i1.l.1, c1]
          refine i1.fin _ ?_
          first | omega | (simp only [List.length_append, List.length_cons, List.length_nil]; omega)
        ·
          obtain ⟨s2, m2, c2, hs2, i2⟩ := i1.e hN he (by omega) 4 4 rfl (by omega)
          intro meth
          simp (disch := first | omega | (simp only [List.length_append, List.length_cons, List.length_nil]; omega) | rfl) [-Int.natCast_add, -strOp, add_short, fold_k, fold_0, -BitVec.toNat_or, -BitVec.toNat_ofInt, -BitVec.toNat_and, box_of b42, box_of b3, load_of ld42, fieldAddr_of fa45_5, load_of ld3, store_of sz3, fieldAddr_of fa45_1, fieldAddr_of fa45_0, load_of ld22, len_slice u22, bin_str u9 .add (Or.inl rfl), fieldAddr_of fa45_8, load_of ld4, build_arr u70 sz9 zo70, index_arr u70 sz9, part_one ld9, build_arr u71 sz9 zo71, index_arr u71 sz9, build_arr u72 sz3 zo72, index_arr u72 sz3, part_one ld3, build_arr u73 sz9 zo73, index_arr u73 sz9, lkb, i1.l.1, c1, c2, i2.l.1]
          refine i2.fin _ ?_
          first | omega | (simp only [List.length_append, List.length_cons, List.length_nil]; omega)
        ·
          obtain ⟨s2, m2, c2, hs2, i2⟩ := i1.e hN he (by omega) 6 6 rfl (by omega)
          intro meth
          simp (disch := first | omega | (simp only [List.length_append, List.length_cons, List.length_nil]; omega) | rfl) [-Int.natCast_add, -strOp, add_short, fold_k, fold_0, -BitVec.toNat_or, -BitVec.toNat_ofInt, -BitVec.toNat_and, box_of b42, box_of b3, load_of ld42, fieldAddr_of fa45_5, load_of ld3, store_of sz3, fieldAddr_of fa45_1, fieldAddr_of fa45_0, load_of ld22, len_slice u22, bin_str u9 .add (Or.inl rfl), fieldAddr_of fa45_8, load_of ld4, build_arr u70 sz9 zo70, index_arr u70 sz9, part_one ld9, build_arr u71 sz9 zo71, index_arr u71 sz9, build_arr u72 sz3 zo72, index_arr u72 sz3, part_one ld3, build_arr u73 sz9 zo73, index_arr u73 sz9, lkb, i1.l.1, c1, c2, i2.l.1]
          refine i2.fin _ ?_
          first | omega | (simp only [List.length_append, List.length_cons, List.length_nil]; omega)
        ·
          cases hca : σ.calls with
          | false =>
            rw [hca] at lc
            have lc2 := i1.l.2.2
            rw [hca] at lc2
            intro meth
            simp [-Int.natCast_add, -w35_85, -BitVec.toNat_or, -BitVec.toNat_ofInt, -BitVec.toNat_and, box_of b42, box_of b3, load_of ld42, fieldAddr_of fa45_5, load_of ld3, store_of sz3, fieldAddr_of fa45_1, fieldAddr_of fa45_0, load_of ld22, len_slice u22, bin_str u9 .add (Or.inl rfl), fieldAddr_of fa45_8, load_of ld4, build_arr u70 sz9 zo70, index_arr u70 sz9, part_one ld9, build_arr u71 sz9 zo71, index_arr u71 sz9, build_arr u72 sz3 zo72, index_arr u72 sz3, part_one ld3, build_arr u73 sz9 zo73, index_arr u73 sz9, lkb, i1.l.1, c1, lc2, i1.l.1]
            exact w_sub (E := [(1, .int .i64 4), (3, .pointer (some ⟨m.next, 0, none⟩))]) (meth m1 i1) ⟨by rfl, by rfl, trivial⟩
          | true =>
            have lc2 := i1.l.2.2
            rw [hca] at lc2
            obtain ⟨s3, m3, c3, hs3, i3⟩ := i1.e hN he (by omega) 4 4 rfl (by omega)
            intro meth
            simp (disch := first | omega | (simp only [List.length_append, List.length_cons, List.length_nil]; omega) | rfl) [-Int.natCast_add, -strOp, add_short, fold_k, fold_0, -BitVec.toNat_or, -BitVec.toNat_ofInt, -BitVec.toNat_and, box_of b42, box_of b3, load_of ld42, fieldAddr_of fa45_5, load_of ld3, store_of sz3, fieldAddr_of fa45_1, fieldAddr_of fa45_0, load_of ld22, len_slice u22, bin_str u9 .add (Or.inl rfl), fieldAddr_of fa45_8, load_of ld4, build_arr u70 sz9 zo70, index_arr u70 sz9, part_one ld9, build_arr u71 sz9 zo71, index_arr u71 sz9, build_arr u72 sz3 zo72, index_arr u72 sz3, part_one ld3, build_arr u73 sz9 zo73, index_arr u73 sz9, lkb, i1.l.1, c1, lc2, i1.l.1, c3, i3.l.1]
            refine i3.fin _ ?_
            first | omega | (simp only [List.length_append, List.length_cons, List.length_nil]; omega)
        ·
          intro meth
          simp [-Int.natCast_add, -w35_85, -BitVec.toNat_or, -BitVec.toNat_ofInt, -BitVec.toNat_and, box_of b42, box_of b3, load_of ld42, fieldAddr_of fa45_5, load_of ld3, store_of sz3, fieldAddr_of fa45_1, fieldAddr_of fa45_0, load_of ld22, len_slice u22, bin_str u9 .add (Or.inl rfl), fieldAddr_of fa45_8, load_of ld4, build_arr u70 sz9 zo70, index_arr u70 sz9, part_one ld9, build_arr u71 sz9 zo71, index_arr u71 sz9, build_arr u72 sz3 zo72, index_arr u72 sz3, part_one ld3, build_arr u73 sz9 zo73, index_arr u73 sz9, lkb, i1.l.1, c1]
          exact w_sub (E := [(1, .int .i64 4), (3, .pointer (some ⟨m.next, 0, none⟩))]) (meth m1 i1) ⟨by rfl, by rfl, trivial⟩
        ·
          intro meth
          simp [-Int.natCast_add, -w35_85, -BitVec.toNat_or, -BitVec.toNat_ofInt, -BitVec.toNat_and, box_of b42, box_of b3, load_of ld42, fieldAddr_of fa45_5, load_of ld3, store_of sz3, fieldAddr_of fa45_1, fieldAddr_of fa45_0, load_of ld22, len_slice u22, bin_str u9 .add (Or.inl rfl), fieldAddr_of fa45_8, load_of ld4, build_arr u70 sz9 zo70, index_arr u70 sz9, part_one ld9, build_arr u71 sz9 zo71, index_arr u71 sz9, build_arr u72 sz3 zo72, index_arr u72 sz3, part_one ld3, build_arr u73 sz9 zo73, index_arr u73 sz9, lkb, i1.l.1, c1]
          exact w_sub (E := [(1, .int .i64 4), (3, .pointer (some ⟨m.next, 0, none⟩))]) (meth m1 i1) ⟨by rfl, by rfl, trivial⟩
      intro m2 i2
      obtain ⟨s, m3, c3, hs, i3⟩ := i2.leaf hN 4 4 rfl (by omega)
      have lkc := i2.l.1
      simp [-Int.natCast_add, -BitVec.toNat_or, -BitVec.toNat_ofInt, -BitVec.toNat_and, box_of b42, box_of b3, load_of ld42, fieldAddr_of fa45_5, load_of ld3, store_of sz3, fieldAddr_of fa45_1, fieldAddr_of fa45_0, load_of ld22, len_slice u22, bin_str u9 .add (Or.inl rfl), fieldAddr_of fa45_8, load_of ld4, build_arr u70 sz9 zo70, index_arr u70 sz9, part_one ld9, build_arr u71 sz9 zo71, index_arr u71 sz9, build_arr u72 sz3 zo72, index_arr u72 sz3, part_one ld3, build_arr u73 sz9 zo73, index_arr u73 sz9, lkc, c3]
      exact i3.fin s (by omega)
    ·
      apply cut1_ (fun m2 : Mem => Ix m b m.next mA.next (d + 1) σ m2)
      case main =>
        obtain ⟨y, m1, c1, hy, i1⟩ := i0.next hN 3 3 rfl (by omega) (by omega)
        rcases (by omega : y = 0 ∨ y = 1 ∨ y = 2) with rfl | rfl | rfl
        ·
          intro meth
          simp (disch := first | omega | (simp only [List.length_append, List.length_cons, List.length_nil]; omega) | rfl) [-Int.natCast_add, -strOp, add_short, fold_k, fold_0, -BitVec.toNat_or, -BitVec.toNat_ofInt, -BitVec.toNat_and, box_of b42, box_of b3, load_of ld42, fieldAddr_of fa45_5, load_of ld3, store_of sz3, fieldAddr_of fa45_1, fieldAddr_of fa45_0, load_of ld22, len_slice u22, bin_str u9 .add (Or.inl rfl), fieldAddr_of fa45_8, load_of ld4, build_arr u70 sz9 zo70, index_arr u70 sz9, part_one ld9, build_arr u71 sz9 zo71, index_arr u71 sz9, build_arr u72 sz3 zo72, index_arr u72 sz3, part_one ld3, build_arr u73 sz9 zo73, index_arr u73 sz9, lkb, i1.l.1, c1]
          refine i1.fin _ ?_
          first | omega | (simp only [List.length_append, List.length_cons, List.length_nil]; omega)
        ·
          intro meth
          simp [-Int.natCast_add, -w35_85, -BitVec.toNat_or, -BitVec.toNat_ofInt, -BitVec.toNat_and, box_of b42, box_of b3, load_of ld42, fieldAddr_of fa45_5, load_of ld3, store_of sz3, fieldAddr_of fa45_1, fieldAddr_of fa45_0, load_of ld22, len_slice u22, bin_str u9 .add (Or.inl rfl), fieldAddr_of fa45_8, load_of ld4, build_arr u70 sz9 zo70, index_arr u70 sz9, part_one ld9, build_arr u71 sz9 zo71, index_arr u71 sz9, build_arr u72 sz3 zo72, index_arr u72 sz3, part_one ld3, build_arr u73 sz9 zo73, index_arr u73 sz9, lkb, i1.l.1, c1]
          exact w_sub (E := [(1, .int .i64 5), (3, .pointer (some ⟨m.next, 0, none⟩))]) (meth m1 i1) ⟨by rfl, by rfl, trivial⟩
        ·
          intro meth
          simp [-Int.natCast_add, -w35_85, -BitVec.toNat_or, -BitVec.toNat_ofInt, -BitVec.toNat_and, box_of b42, box_of b3, load_of ld42, fieldAddr_of fa45_5, load_of ld3, store_of sz3, fieldAddr_of fa45_1, fieldAddr_of fa45_0, load_of ld22, len_slice u22, bin_str u9 .add (Or.inl rfl), fieldAddr_of fa45_8, load_of ld4, build_arr u70 sz9 zo70, index_arr u70 sz9, part_one ld9, build_arr u71 sz9 zo71, index_arr u71 sz9, build_arr u72 sz3 zo72, index_arr u72 sz3, part_one ld3, build_arr u73 sz9 zo73, index_arr u73 sz9, lkb, i1.l.1, c1]
          exact w_sub (E := [(1, .int .i64 5), (3, .pointer (some ⟨m.next, 0, none⟩))]) (meth m1 i1) ⟨by rfl, by rfl, trivial⟩
      intro m2 i2
      obtain ⟨s, m3, c3, hs, i3⟩ := i2.leaf hN 5 5 rfl (by omega)
      have lkc := i2.l.1
      simp [-Int.natCast_add, -BitVec.toNat_or, -BitVec.toNat_ofInt, -BitVec.toNat_and, box_of b42, box_of b3, load_of ld42, fieldAddr_of fa45_5, load_of ld3, store_of sz3, fieldAddr_of fa45_1, fieldAddr_of fa45_0, load_of ld22, len_slice u22, bin_str u9 .add (Or.inl rfl), fieldAddr_of fa45_8, load_of ld4, build_arr u70 sz9 zo70, index_arr u70 sz9, part_one ld9, build_arr u71 sz9 zo71, index_arr u71 sz9, build_arr u72 sz3 zo72, index_arr u72 sz3, part_one ld3, build_arr u73 sz9 zo73, index_arr u73 sz9, lkc, c3]
      exact i3.fin s (by omega)
    ·
      apply cut1_ (fun m2 : Mem => Ix m b m.next mA.next (d + 1) σ m2)
      case main =>
        obtain ⟨y, m1, c1, hy, i1⟩ := i0.next hN 5 5 rfl (by omega) (by omega)
        rcases (by omega : y = 0 ∨ y = 1 ∨ y = 2 ∨ y = 3 ∨ y = 4) with rfl | rfl | rfl | rfl | rfl
        ·
          obtain ⟨s2, m2, c2, hs2, i2⟩ := i1.e hN he (by omega) 4 4 rfl (by omega)
          intro meth
          simp (disch := first | omega | (simp only [List.length_append, List.length_cons, List.length_nil]; omega) | rfl) [-Int.natCast_add, -strOp, add_short, fold_k, fold_0, -BitVec.toNat_or, -BitVec.toNat_ofInt, -BitVec.toNat_and, box_of b42, box_of b3, load_of ld42, fieldAddr_of fa45_5, load_of ld3, store_of sz3, fieldAddr_of fa45_1, fieldAddr_of fa45_0, load_of ld22, len_slice u22, bin_str u9 .add (Or.inl rfl), fieldAddr_of fa45_8, load_of ld4, build_arr u70 sz9 zo70, index_arr u70 sz9, part_one ld9, build_arr u71 sz9 zo71, index_arr u71 sz9, build_arr u72 sz3 zo72, index_arr u72 sz3, part_one ld3, build_arr u73 sz9 zo73, index_arr u73 sz9, lkb, i1.l.1, c1, c2, i2.l.1]
          refine i2.fin _ ?_
          first | omega | (simp only [List.length_append, List.length_cons, List.length_nil]; omega)
        ·
          intro meth
          simp [-Int.natCast_add, -w35_85, -BitVec.toNat_or, -BitVec.toNat_ofInt, -BitVec.toNat_and, box_of b42, box_of b3, load_of ld42, fieldAddr_of fa45_5, load_of ld3, store_of sz3, fieldAddr_of fa45_1, fieldAddr_of fa45_0, load_of ld22, len_slice u22, bin_str u9 .add (Or.inl rfl), fieldAddr_of fa45_8, load_of ld4, build_arr u70 sz9 zo70, index_arr u70 sz9, part_one ld9, build_arr u71 sz9 zo71, index_arr u71 sz9, build_arr u72 sz3 zo72, index_arr u72 sz3, part_one ld3, build_arr u73 sz9 zo73, index_arr u73 sz9, lkb, i1.l.1, c1]
          exact w_sub (E := [(1, .int .i64 6), (3, .pointer (some ⟨m.next, 0, none⟩))]) (meth m1 i1) ⟨by rfl, by rfl, trivial⟩
        ·
          intro meth
          simp [-Int.natCast_add, -w35_85, -BitVec.toNat_or, -BitVec.toNat_ofInt, -BitVec.toNat_and, box_of b42, box_of b3, load_of ld42, fieldAddr_of fa45_5, load_of ld3, store_of sz3, fieldAddr_of fa45_1, fieldAddr_of fa45_0, load_of ld22, len_slice u22, bin_str u9 .add (Or.inl rfl), fieldAddr_of fa45_8, load_of ld4, build_arr u70 sz9 zo70, index_arr u70 sz9, part_one ld9, build_arr u71 sz9 zo71, index_arr u71 sz9, build_arr u72 sz3 zo72, index_arr u72 sz3, part_one ld3, build_arr u73 sz9 zo73, index_arr u73 sz9, lkb, i1.l.1, c1]
          exact w_sub (E := [(1, .int .i64 6), (3, .pointer (some ⟨m.next, 0, none⟩))]) (meth m1 i1) ⟨by rfl, by rfl, trivial⟩
        ·
          intro meth
          simp [-Int.natCast_add, -w35_85, -BitVec.toNat_or, -BitVec.toNat_ofInt, -BitVec.toNat_and, box_of b42, box_of b3, load_of ld42, fieldAddr_of fa45_5, load_of ld3, store_of sz3, fieldAddr_of fa45_1, fieldAddr_of fa45_0, load_of ld22, len_slice u22, bin_str u9 .add (Or.inl rfl), fieldAddr_of fa45_8, load_of ld4, build_arr u70 sz9 zo70, index_arr u70 sz9, part_one ld9, build_arr u71 sz9 zo71, index_arr u71 sz9, build_arr u72 sz3 zo72, index_arr u72 sz3, part_one ld3, build_arr u73 sz9 zo73, index_arr u73 sz9, lkb, i1.l.1, c1]
          exact w_sub (E := [(1, .int .i64 6), (3, .pointer (some ⟨m.next, 0, none⟩))]) (meth m1 i1) ⟨by rfl, by rfl, trivial⟩
        ·
          intro meth
          simp [-Int.natCast_add, -w35_85, -BitVec.toNat_or, -BitVec.toNat_ofInt, -BitVec.toNat_and, box_of b42, box_of b3, load_of ld42, fieldAddr_of fa45_5, load_of ld3, store_of sz3, fieldAddr_of fa45_1, fieldAddr_of fa45_0, load_of ld22, len_slice u22, bin_str u9 .add (Or.inl rfl), fieldAddr_of fa45_8, load_of ld4, build_arr u70 sz9 zo70, index_arr u70 sz9, part_one ld9, build_arr u71 sz9 zo71, index_arr u71 sz9, build_arr u72 sz3 zo72, index_arr u72 sz3, part_one ld3, build_arr u73 sz9 zo73, index_arr u73 sz9, lkb, i1.l.1, c1]
          exact w_sub (E := [(1, .int .i64 6), (3, .pointer (some ⟨m.next, 0, none⟩))]) (meth m1 i1) ⟨by rfl, by rfl, trivial⟩
      intro m2 i2
      obtain ⟨s, m3, c3, hs, i3⟩ := i2.leaf hN 6 6 rfl (by omega)
      have lkc := i2.l.1
      simp [-Int.natCast_add, -BitVec.toNat_or, -BitVec.toNat_ofInt, -BitVec.toNat_and, box_of b42, box_of b3, load_of ld42, fieldAddr_of fa45_5, load_of ld3, store_of sz3, fieldAddr_of fa45_1, fieldAddr_of fa45_0, load_of ld22, len_slice u22, bin_str u9 .add (Or.inl rfl), fieldAddr_of fa45_8, load_of ld4, build_arr u70 sz9 zo70, index_arr u70 sz9, part_one ld9, build_arr u71 sz9 zo71, index_arr u71 sz9, build_arr u72 sz3 zo72, index_arr u72 sz3, part_one ld3, build_arr u73 sz9 zo73, index_arr u73 sz9, lkc, c3]
      exact i3.fin s (by omega)
end Go.Proofs.YtgomgdbapgibjaaDoor.base

