/-
  This text proves what kinds.Right finds: the kinds of the types that it accepts.
  Condition: nothing is known of its calls ahead ('S f = []').
-/
import Derived.Test.YtllhpkhbcgfeeaaDoorKinG
set_option maxRecDepth 100000
set_option linter.unusedSimpArgs false
set_option linter.unusedVariables false
namespace Go.Proofs.YtllhpkhbcgfeeaaDoor.base
open Go.Sh gen
variable {S : Sums} {m : Mem}
theorem kbase_run (hS : S 21 = []) : ∃ v m1, callw Tryd.prog TT S 21 [] m = some (v, m1) ∧ ∃ b, v = .slice (some ⟨b, 0, none⟩) 5 5 ∧ Own m1 b baseC.flatten 25 b ∧ m.next ≤ b ∧ Keeps m m1 [] := by
  refine fn_w 1 [] k21 hS rfl ?_
  simp [-BitVec.toNat_or, -BitVec.toNat_ofInt, -BitVec.toNat_and, build_of bo25, buildSlice_of u27 bs25 rfl]
  exact ⟨Own.new _ _ _, keeps_new _ _ _ _⟩
/-- the kinds of a right table's types -/
def Kinds5 (L : List TypeT.D) (n : Nat) : Prop := ∀ (i : Nat) (hi : i < L.length), i < n → (i < 5 → L[i].1 = i) ∧ (5 ≤ i → L[i].1 = 5 ∨ L[i].1 = 6 ∨ L[i].1 = 7)
theorem base_load {mm : Mem} {bb : Nat} {i : Nat} {cb : List Value} (oB : Own mm bb baseC.flatten 25 bb) (hcb : baseC[i]? = some cb) : loadRow mm ⟨bb, i * 5, none⟩ 5 = some cb := by
  have hi : i < 5 := (List.getElem?_eq_some_iff.1 hcb).1
  rw [oB.load (off := i * 5) 5 (by simp [baseC, tyC]; omega)]
  match i, hi, hcb with
  | 0, _, h => cases h; rfl
  | 1, _, h => cases h; rfl
  | 2, _, h => cases h; rfl
  | 3, _, h => cases h; rfl
  | 4, _, h => cases h; rfl
set_option maxHeartbeats 4000000 in
theorem right_run (hN : Nk S) (hM : Ns S) (hO : S 22 = []) (hB : S 21 = []) (hS : S 10 = []) {to : Option Addr} {L : List TypeT.D} (h : Tb m to L) :
    ∃ v m1, callw Tryd.prog TT S 10 [.slice to L.length L.length] m = some (v, m1) ∧ (∃ b : Bool, v = .bool b ∧ (b = true → 5 ≤ L.length ∧ Kinds5 L L.length)) ∧ Keeps m m1 [] := by
  obtain ⟨_, m1, hb, bb, rfl, oB, hbb, k1⟩ := kbase_run (m := m) hB
  refine fn_w 57 [57, 96] k10 hS rfl ?_
  by_cases c1 : L.length < 5
  · have c1' : (L.length : Int) < 5 := by omega
    simp [-Int.natCast_add, -BitVec.toNat_or, -BitVec.toNat_ofInt, -BitVec.toNat_and, len_slice u27, index_slice u27 sz25, load_agg ld25, alloc_of zo25, store_of sz25, slice_sl u27 sz25, fieldAddr_of fa25_0, load_of ld3, fieldAddr_of fa25_2, fieldAddr_of fa25_1, load_of ld9, hb, c1, c1']
    exact k1
  by_cases c2 : 60 < L.length
  · have c1' : ¬ (L.length : Int) < 5 := by omega
    have c2' : (60 : Int) < L.length := by omega
    simp [-Int.natCast_add, -BitVec.toNat_or, -BitVec.toNat_ofInt, -BitVec.toNat_and, len_slice u27, index_slice u27 sz25, load_agg ld25, alloc_of zo25, store_of sz25, slice_sl u27 sz25, fieldAddr_of fa25_0, load_of ld3, fieldAddr_of fa25_2, fieldAddr_of fa25_1, load_of ld9, hb, c1, c1', c2, c2']
    exact k1
  have c1' : ¬ (L.length : Int) < 5 := by omega
  have c2' : ¬ (60 : Int) < L.length := by omega
  simp [-Int.natCast_add, -BitVec.toNat_or, -BitVec.toNat_ofInt, -BitVec.toNat_and, len_slice u27, index_slice u27 sz25, load_agg ld25, alloc_of zo25, store_of sz25, slice_sl u27 sz25, fieldAddr_of fa25_0, load_of ld3, fieldAddr_of fa25_2, fieldAddr_of fa25_1, load_of ld9, hb, c1, c1', c2, c2']
  have h1 := h.keep k1
  refine wsem_loop 57 [57, 96] (fun dd E mC => ∃ (i : Nat), L.length - i = dd ∧ i ≤ L.length ∧ Kinds5 L i ∧ Keeps m1 mC [] ∧
    E = [(0, .slice to L.length L.length), (3, .slice (some ⟨bb, 0, none⟩) 5 5), (20, .slice to L.length L.length), (21, .int .i64 L.length), (22, .int .i64 i)]) _ ⟨_, ⟨0, rfl, by omega, fun _ _ hh => by omega, keeps_refl _, rfl⟩, ⟨by rfl, by rfl, by rfl, by rfl, by rfl, trivial⟩⟩ ?_
  rintro dd E mC ih ⟨i, hdi, hi, hK, kC, rfl⟩
  by_cases hlt : i < L.length
  · have i1 : (i : Int) < L.length := by omega
    have em : (i : Int) ≤ 9223372036854775807 := by omega
    have wi : IntKind.i64.wrap ((i : Int) + 1) = ((i + 1 : Nat) : Int) := by rw [wrap_i64 (by omega) (by omega)]; omega
    have hC := h1.keep kC
    obtain ⟨tb, cx, rfl, hcx, ldx⟩ := hC.one hlt
    obtain ⟨aox, box, cax, cbx, fx, gx, tyx⟩ := type_cells hcx
    have hwx := h.wf _ (List.getElem_mem hlt)
    have hlx := ldx _ (keeps_refl _)
    rw [tyx.c] at hlx
    obtain ⟨x, hx⟩ : ∃ x, L[i] = x := ⟨_, rfl⟩
    rw [hx] at hlx hcx hwx tyx
    simp [-Int.natCast_add, -w10_7, -BitVec.toNat_or, -BitVec.toNat_ofInt, -BitVec.toNat_and, len_slice u27, index_slice u27 sz25, load_agg ld25, alloc_of zo25, store_of sz25, slice_sl u27 sz25, fieldAddr_of fa25_0, load_of ld3, fieldAddr_of fa25_2, fieldAddr_of fa25_1, load_of ld9, i1, em, hlt, wi, hlx]
    obtain ⟨o1, j1, n1⟩ := new_own (m := mC) (cs := [.int .i64 0, .string ⟨#[]⟩, .int .i64 0, .slice none 0 0, .slice none 0 0]) (e := 25) rfl
    obtain ⟨xb, hxb⟩ : ∃ xb, mC.next = xb := ⟨_, rfl⟩
    rw [hxb] at o1 n1
    simp only [hxb]
    obtain ⟨mD, hmD⟩ : ∃ mD, mC.new [.int .i64 0, .string ⟨#[]⟩, .int .i64 0, .slice none 0 0, .slice none 0 0] 25 = mD := ⟨_, rfl⟩
    rw [hmD] at o1 j1 n1 ⊢
    generalize hrp : storeRow _ _ _ = rp
    obtain ⟨mE, rfl, o2, j2⟩ := store_own hrp o1 (by simp) (by simp [one_int, one_str, one_slice])
    simp [over] at o2
    have kE : Keeps mC mE [] := j1.fresh j2 (by simp; omega)
    have hcE := hcx.keep kE
    have hE := hC.keep kE
    have lx := o2.load (off := 0) 5 (by simp)
    simp [window] at lx
    have lx0 := o2.load1 (off := 0) rfl
    apply cut1_ (fun (mX : Mem) => Keeps mE mX [] ∧ ((i < 5 → x.1 = i) ∧ (5 ≤ i → x.1 = 5 ∨ x.1 = 6 ∨ x.1 = 7)))
    case main =>
      intro meth
      by_cases c5 : i < 5
      · have i5 : (i : Int) < 5 := by omega
        have i6 : ¬ (5 : Int) ≤ (i : Int) := by omega
        obtain ⟨db, hdb⟩ : ∃ d, baseL[i]? = some d := ⟨_, List.getElem?_eq_getElem (by simpa [baseL] using c5)⟩
        obtain ⟨cb, hcb⟩ : ∃ d, baseC[i]? = some d := ⟨_, List.getElem?_eq_getElem (by simpa [baseC] using c5)⟩
        have hAb := (baseC_at (fun _ => True) mE i db cb hdb hcb).at_
        have hwb := baseL_wf db (List.mem_of_getElem? hdb)
        obtain ⟨aob, bob, cab, cbb, fb, gb, tyb⟩ := type_cells hAb
        have lb : loadRow mE ⟨bb, i * 5, none⟩ 5 = some cb := base_load (oB.keep (kC.trans kE) (by simp)) hcb
        obtain ⟨_, mF, hs, rfl, kF⟩ := same_run hM hcE hAb hwx hwb
        have lxF := (o2.keep kF (by simp)).load (off := 0) 5 (by simp)
        simp [window] at lxF
        have lbF : loadRow mF ⟨bb, i * 5, none⟩ 5 = some cb := base_load ((oB.keep (kC.trans kE) (by simp)).keep kF (by simp)) hcb
        rw [tyx.c] at hs
        rw [tyb.c] at lb lbF hs
        obtain ⟨b, hbs⟩ : ∃ b, sameB x db = b := ⟨_, rfl⟩
        rw [hbs] at hs
        simp [-Int.natCast_add, -w10_7, -BitVec.toNat_or, -BitVec.toNat_ofInt, -BitVec.toNat_and, len_slice u27, index_slice u27 sz25, load_agg ld25, alloc_of zo25, store_of sz25, slice_sl u27 sz25, fieldAddr_of fa25_0, load_of ld3, fieldAddr_of fa25_2, fieldAddr_of fa25_1, load_of ld9]
        cases b <;> simp [-Int.natCast_add, -w10_9, -BitVec.toNat_or, -BitVec.toNat_ofInt, -BitVec.toNat_and, len_slice u27, index_slice u27 sz25, load_agg ld25, alloc_of zo25, store_of sz25, slice_sl u27 sz25, fieldAddr_of fa25_0, load_of ld3, fieldAddr_of fa25_2, fieldAddr_of fa25_1, load_of ld9, i5, i6, c5, em, lx, lb, hs, lxF, lbF, eqV_int, eqV_str, eqV_slice]
        · exact k1.trans ((kC.trans kE).trans kF)
        · have hxe : x = db := by
            by_cases hh : x = db
            · exact hh
            · rw [sameB_f hh] at hbs; cases hbs
          have hx1 : x.1 = i := by
            rw [hxe]
            match i, c5, hdb with
            | 0, _, h => cases h; rfl
            | 1, _, h => cases h; rfl
            | 2, _, h => cases h; rfl
            | 3, _, h => cases h; rfl
            | 4, _, h => cases h; rfl
          exact w_sub (E := [(0, .slice (some ⟨tb, 0, none⟩) L.length L.length), (3, .slice (some ⟨bb, 0, none⟩) 5 5), (4, .int .i64 i), (5, .pointer (some ⟨xb, 0, none⟩)), (20, .slice (some ⟨tb, 0, none⟩) L.length L.length), (21, .int .i64 L.length), (22, .int .i64 i)]) (meth mF ⟨kF, fun _ => hx1, fun h => by omega⟩) ⟨by rfl, by rfl, by rfl, by rfl, by rfl, by rfl, by rfl, trivial⟩
      · have i5 : ¬ (i : Int) < 5 := by omega
        have i6 : (5 : Int) ≤ (i : Int) := by omega
        obtain ⟨_, mF, hs, ⟨b, rfl, hb1⟩, kF⟩ := one1_run hN hO (to := some ⟨tb, 0, none⟩) (n := L.length) hwx hcE
        have lxF := (o2.keep kF (by simp)).load (off := 0) 5 (by simp)
        simp [window] at lxF
        rw [tyx.c] at hs
        simp [-Int.natCast_add, -w10_7, -BitVec.toNat_or, -BitVec.toNat_ofInt, -BitVec.toNat_and, len_slice u27, index_slice u27 sz25, load_agg ld25, alloc_of zo25, store_of sz25, slice_sl u27 sz25, fieldAddr_of fa25_0, load_of ld3, fieldAddr_of fa25_2, fieldAddr_of fa25_1, load_of ld9]
        cases b <;> simp [-Int.natCast_add, -w10_9, -BitVec.toNat_or, -BitVec.toNat_ofInt, -BitVec.toNat_and, len_slice u27, index_slice u27 sz25, load_agg ld25, alloc_of zo25, store_of sz25, slice_sl u27 sz25, fieldAddr_of fa25_0, load_of ld3, fieldAddr_of fa25_2, fieldAddr_of fa25_1, load_of ld9, i5, i6, c5, em, lx, hs, lxF, eqV_int, eqV_str, eqV_slice]
        · exact k1.trans ((kC.trans kE).trans kF)
        · exact w_sub (E := [(0, .slice (some ⟨tb, 0, none⟩) L.length L.length), (3, .slice (some ⟨bb, 0, none⟩) 5 5), (4, .int .i64 i), (5, .pointer (some ⟨xb, 0, none⟩)), (20, .slice (some ⟨tb, 0, none⟩) L.length L.length), (21, .int .i64 L.length), (22, .int .i64 i)]) (meth mF ⟨kF, fun h => by omega, fun _ => hb1 rfl⟩) ⟨by rfl, by rfl, by rfl, by rfl, by rfl, by rfl, by rfl, trivial⟩
    intro mX ⟨kX, hX1, hX2⟩
    have KX := (kC.trans kE).trans kX
    have oX := o2.keep kX (by simp)
    have wi1 : IntKind.i64.wrap ((i : Int) + 1) = ((i + 1 : Nat) : Int) := wi
    simp [-Int.natCast_add, -BitVec.toNat_or, -BitVec.toNat_ofInt, -BitVec.toNat_and, len_slice u27, index_slice u27 sz25, load_agg ld25, alloc_of zo25, store_of sz25, slice_sl u27 sz25, fieldAddr_of fa25_0, load_of ld3, fieldAddr_of fa25_2, fieldAddr_of fa25_1, load_of ld9, em, hlt, hi]
    refine wsem_loop 57 [57, 96] (fun de E mD => ∃ (j : Nat), i - j = de ∧ j ≤ i ∧ Keeps mE mD [] ∧
      E = [(0, .slice (some ⟨tb, 0, none⟩) L.length L.length), (3, .slice (some ⟨bb, 0, none⟩) 5 5), (5, .pointer (some ⟨xb, 0, none⟩)), (20, .slice (some ⟨tb, 0, none⟩) L.length L.length), (21, .int .i64 L.length), (22, .int .i64 i), (54, .slice (some ⟨tb, 0, none⟩) i i), (55, .int .i64 i), (56, .int .i64 j)]) _ ⟨_, ⟨0, rfl, by omega, kX, rfl⟩, ⟨by rfl, by rfl, by rfl, by rfl, by rfl, by rfl, by simp [lget], by rfl, by rfl, trivial⟩⟩ ?_
    rintro de E mD ihM ⟨j, hdj, hj, kD, rfl⟩
    have KD := (kC.trans kE).trans kD
    by_cases hlj : j < i
    · have i1 : (j : Int) < i := by omega
      have ej : (j : Int) ≤ 9223372036854775807 := by omega
      have wj : IntKind.i64.wrap ((j : Int) + 1) = ((j + 1 : Nat) : Int) := by rw [wrap_i64 (by omega) (by omega)]; omega
      have hjL : j < L.length := by omega
      obtain ⟨tb2, cy, he2, hcy, ldy⟩ := (h1.keep KD).one hjL
      cases he2
      obtain ⟨aoy, boy, cay, cby, fy, gy, tyy⟩ := type_cells hcy
      have hly := ldy _ (keeps_refl _)
      rw [tyy.c] at hly
      obtain ⟨y, hy⟩ : ∃ y, L[j] = y := ⟨_, rfl⟩
      rw [hy] at hly
      obtain ⟨p1, q1, nn1⟩ := new_own (m := mD) (cs := [.int .i64 0, .string ⟨#[]⟩, .int .i64 0, .slice none 0 0, .slice none 0 0]) (e := 25) rfl
      obtain ⟨yb, hyb⟩ : ∃ xb, mD.next = xb := ⟨_, rfl⟩
      rw [hyb] at p1 nn1
      obtain ⟨mF, hmF⟩ : ∃ mF, mD.new [.int .i64 0, .string ⟨#[]⟩, .int .i64 0, .slice none 0 0, .slice none 0 0] 25 = mF := ⟨_, rfl⟩
      rw [hmF] at p1 q1 nn1
      simp [-Int.natCast_add, -BitVec.toNat_or, -BitVec.toNat_ofInt, -BitVec.toNat_and, len_slice u27, index_slice u27 sz25, load_agg ld25, alloc_of zo25, store_of sz25, slice_sl u27 sz25, fieldAddr_of fa25_0, load_of ld3, fieldAddr_of fa25_2, fieldAddr_of fa25_1, load_of ld9, i1, ej, hlj, wj, hly, hyb, hmF]
      generalize hrq : storeRow _ _ _ = rq
      obtain ⟨mG, rfl, p2, q2⟩ := store_own hrq p1 (by simp) (by simp [one_int, one_str, one_slice])
      simp [over] at p2
      have kG : Keeps mD mG [] := q1.fresh q2 (by simp; omega)
      have ox := (o2.keep kD (by simp)).keep kG (by simp)
      have lx := ox.load (off := 0) 5 (by simp)
      have ly := p2.load (off := 0) 5 (by simp)
      simp [window] at lx ly
      have lx0 := ox.load1 (off := 0) rfl
      have lx1 := ox.load1 (off := 1) rfl
      have lx2 := ox.load1 (off := 2) rfl
      have ly0 := p2.load1 (off := 0) rfl
      have ly1 := p2.load1 (off := 1) rfl
      have ly2 := p2.load1 (off := 2) rfl
      have fin : Keeps m mG [] := k1.trans (KD.trans kG)
      by_cases e1 : x.1 = 6 <;> by_cases e2 : y.1 = 6 <;> by_cases e3 : x.2.2.1 = y.2.2.1 <;> by_cases e4 : x.2.1 = y.2.1 <;> simp [-Int.natCast_add, -BitVec.toNat_or, -BitVec.toNat_ofInt, -BitVec.toNat_and, len_slice u27, index_slice u27 sz25, load_agg ld25, alloc_of zo25, store_of sz25, slice_sl u27 sz25, fieldAddr_of fa25_0, load_of ld3, fieldAddr_of fa25_2, fieldAddr_of fa25_1, load_of ld9, lx0, ly0, lx1, ly1, lx2, ly2, e1, e2, e3, e4, wj]
      all_goals first
        | exact fin
        | exact ihM _ _ _ _ ⟨j + 1, rfl, by omega, kD.trans kG, rfl⟩ (by omega) ⟨by rfl, by rfl, by rfl, by rfl, by rfl, by rfl, by rfl, by rfl, by simp [lget], trivial⟩
    · have i1 : ¬ (j : Int) < i := by omega
      simp [-Int.natCast_add, -BitVec.toNat_or, -BitVec.toNat_ofInt, -BitVec.toNat_and, len_slice u27, index_slice u27 sz25, load_agg ld25, alloc_of zo25, store_of sz25, slice_sl u27 sz25, fieldAddr_of fa25_0, load_of ld3, fieldAddr_of fa25_2, fieldAddr_of fa25_1, load_of ld9, i1, em, wi]
      refine ih _ _ _ _ ⟨i + 1, rfl, by omega, ?_, KD, rfl⟩ (by omega) ⟨by rfl, by rfl, by rfl, by rfl, by simp [lget], trivial⟩
      intro q hq hq1
      by_cases hqi : q = i
      · subst hqi
        rw [hx]
        exact ⟨hX1, hX2⟩
      · exact hK q hq (by omega)
  · have i1 : ¬ (i : Int) < L.length := by omega
    simp [-Int.natCast_add, -w10_7, -BitVec.toNat_or, -BitVec.toNat_ofInt, -BitVec.toNat_and, len_slice u27, index_slice u27 sz25, load_agg ld25, alloc_of zo25, store_of sz25, slice_sl u27 sz25, fieldAddr_of fa25_0, load_of ld3, fieldAddr_of fa25_2, fieldAddr_of fa25_1, load_of ld9, i1]
    exact ⟨⟨by omega, by have : i = L.length := by omega
                         rw [this] at hK; exact hK⟩, k1.trans kC⟩
end Go.Proofs.YtllhpkhbcgfeeaaDoor.base

