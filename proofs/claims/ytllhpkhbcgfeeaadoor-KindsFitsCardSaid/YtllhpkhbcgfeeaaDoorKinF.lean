/-
  This text proves that kinds.fields, one and Right come to an answer over the abstract run, and what a right table's kinds are.
  Condition: nothing is known of their calls ahead ('S f = []').
-/
import Derived.Test.YtllhpkhbcgfeeaaDoorKinE
set_option maxRecDepth 100000
set_option linter.unusedSimpArgs false
set_option linter.unusedVariables false
namespace Go.Proofs.YtllhpkhbcgfeeaaDoor.base
open Go.Sh gen
variable {S : Sums} {m : Mem}
structure Nk (S : Sums) : Prop where
  fields : S 30 = []
  method : S 32 = []
  value : S 31 = []
  unlike : S 33 = []
  cont : S 34 = []
  idx : S 35 = []
def strsC (l : List (List UInt8)) : List Value := l.map fun x => Value.string ⟨x.toArray⟩
set_option maxHeartbeats 4000000 in
theorem fields_run (hN : Nk S) {to : Option Addr} {n : Nat} {d : TypeT.D} {c : List Value} (hd : TypeT.wf d) (h : At m TypeT d c) :
    ∃ v m1, callw Tryd.prog TT S 30 [.slice to n n, .agg c.toArray] m = some (v, m1) ∧ (∃ b : Bool, v = .bool b) ∧ Keeps m m1 [] := by
  obtain ⟨ao, bo, ca, cb, f, g, ty⟩ := type_cells h
  rw [ty.c]
  obtain ⟨k, nm, el, fs, ms, u⟩ := d
  have hty := ty
  refine fn_w 42 [42, 62] k30 hN.fields rfl ?_
  simp [-Int.natCast_add, -w30_2, -BitVec.toNat_or, -BitVec.toNat_ofInt, -BitVec.toNat_and, box_of b25, fieldAddr_of fa25_3, load_of ld22, len_slice u22, fieldAddr_of fa25_4, load_of ld23, len_slice u23, index_slice u22 sz49, load_agg ld49, alloc_of zo49, store_of sz49, fieldAddr_of fa49_1, load_of ld3, fieldAddr_of fa49_0, load_of ld9, buildSlice_of u63 bs9 rfl, append_s u63 sz9, index_slice u23 sz38, load_agg ld38, alloc_of zo38, store_of sz38, fieldAddr_of fa25_0, fieldAddr_of fa38_3, bin_bool u4 .neq (Or.inr rfl), fieldAddr_of fa38_0]
  obtain ⟨o1, k1, n1⟩ := new_own (m := m) (cs := [.int .i64 k, .string ⟨nm.toArray⟩, .int .i64 el, .slice ao fs.length fs.length, .slice bo ms.length ms.length]) (e := 25) rfl
  obtain ⟨xb, hxb⟩ : ∃ xb, m.next = xb := ⟨_, rfl⟩
  rw [hxb] at o1 n1
  obtain ⟨m1, hm1⟩ : ∃ m1, m.new [.int .i64 k, .string ⟨nm.toArray⟩, .int .i64 el, .slice ao fs.length fs.length, .slice bo ms.length ms.length] 25 = m1 := ⟨_, rfl⟩
  simp only [hxb]
  rw [hm1] at o1 k1 n1 ⊢
  have l3 := o1.load1 (off := 3) rfl
  have l4 := o1.load1 (off := 4) rfl
  have vr := fun m' t => value_run (m := m') (to := to) (n := n) hN.value t
  by_cases c1 : 12 < fs.length
  · have c1' : (12 : Int) < fs.length := by omega
    simp [-Int.natCast_add, -BitVec.toNat_or, -BitVec.toNat_ofInt, -BitVec.toNat_and, box_of b25, fieldAddr_of fa25_3, load_of ld22, len_slice u22, fieldAddr_of fa25_4, load_of ld23, len_slice u23, index_slice u22 sz49, load_agg ld49, alloc_of zo49, store_of sz49, fieldAddr_of fa49_1, load_of ld3, fieldAddr_of fa49_0, load_of ld9, buildSlice_of u63 bs9 rfl, append_s u63 sz9, index_slice u23 sz38, load_agg ld38, alloc_of zo38, store_of sz38, fieldAddr_of fa25_0, fieldAddr_of fa38_3, bin_bool u4 .neq (Or.inr rfl), fieldAddr_of fa38_0, l3, l4, c1, c1']
    exact k1
  by_cases c2 : 12 < ms.length
  · have c1' : ¬ (12 : Int) < fs.length := by omega
    have c2' : (12 : Int) < ms.length := by omega
    simp [-Int.natCast_add, -BitVec.toNat_or, -BitVec.toNat_ofInt, -BitVec.toNat_and, box_of b25, fieldAddr_of fa25_3, load_of ld22, len_slice u22, fieldAddr_of fa25_4, load_of ld23, len_slice u23, index_slice u22 sz49, load_agg ld49, alloc_of zo49, store_of sz49, fieldAddr_of fa49_1, load_of ld3, fieldAddr_of fa49_0, load_of ld9, buildSlice_of u63 bs9 rfl, append_s u63 sz9, index_slice u23 sz38, load_agg ld38, alloc_of zo38, store_of sz38, fieldAddr_of fa25_0, fieldAddr_of fa38_3, bin_bool u4 .neq (Or.inr rfl), fieldAddr_of fa38_0, l3, l4, c1, c1', c2, c2']
    exact k1
  have c1' : ¬ (12 : Int) < fs.length := by omega
  have c2' : ¬ (12 : Int) < ms.length := by omega
  simp [-Int.natCast_add, -BitVec.toNat_or, -BitVec.toNat_ofInt, -BitVec.toNat_and, box_of b25, fieldAddr_of fa25_3, load_of ld22, len_slice u22, fieldAddr_of fa25_4, load_of ld23, len_slice u23, index_slice u22 sz49, load_agg ld49, alloc_of zo49, store_of sz49, fieldAddr_of fa49_1, load_of ld3, fieldAddr_of fa49_0, load_of ld9, buildSlice_of u63 bs9 rfl, append_s u63 sz9, index_slice u23 sz38, load_agg ld38, alloc_of zo38, store_of sz38, fieldAddr_of fa25_0, fieldAddr_of fa38_3, bin_bool u4 .neq (Or.inr rfl), fieldAddr_of fa38_0, l3, l4, c1, c1', c2, c2']
  refine wsem_loop 42 [42, 62] (fun dd E mC => ∃ (i : Nat) (ns : List (List UInt8)) (no : Option Addr) (nf : Nat), fs.length - i = dd ∧ i ≤ fs.length ∧ ns.length = i ∧ Sl mC no ns.length (strsC ns) 9 1 nf ∧ (no ≠ none → m1.next ≤ nf) ∧ Keeps m1 mC [] ∧
    E = [(0, .slice to n n), (3, .pointer (some ⟨xb, 0, none⟩)), (5, .slice no ns.length ns.length), (21, .slice ao fs.length fs.length), (22, .int .i64 fs.length), (23, .int .i64 i)]) _ ⟨_, ⟨0, [], none, 0, rfl, by omega, rfl, Sl.nil _ _ _ _, fun h => absurd rfl h, keeps_refl _, rfl⟩, ⟨by rfl, by rfl, by rfl, by rfl, by rfl, by rfl, trivial⟩⟩ ?_
  rintro dd E mC ih ⟨i, ns, no, nf, hdi, hi, hns, sN, hnf, kC, rfl⟩
  by_cases hlt : i < fs.length
  · have i1 : (i : Int) < fs.length := by omega
    have em : (i : Int) ≤ 9223372036854775807 := by omega
    have wi : IntKind.i64.wrap ((i : Int) + 1) = ((i + 1 : Nat) : Int) := by rw [wrap_i64 (by omega) (by omega)]; omega
    have K1C := k1.trans kC
    obtain ⟨ab, rfl, hrb⟩ := (ty.fr.keep K1C (by simp)).rdo (by simp only; omega)
    obtain ⟨c0, hc0, w0⟩ := At.elem ty.fl ty.fe hlt
    have lx := hrb.load (off := i * 2) 2 (by rw [← ty.fr.1]; simp only; omega)
    rw [show window ca.flatten (i * 2) 2 = c0 from w0, field_cells hc0] at lx
    obtain ⟨zf, hzf⟩ : ∃ z, fs[i] = z := ⟨_, rfl⟩
    simp only [hzf] at lx
    obtain ⟨fnm, fty, fu⟩ := zf
    simp only at lx
    obtain ⟨oF0, kF0, nF⟩ := new_own (m := mC) (cs := [.string ⟨#[]⟩, .int .i64 0]) (e := 49) rfl
    obtain ⟨fb, hfb⟩ : ∃ fb, mC.next = fb := ⟨_, rfl⟩
    rw [hfb] at oF0 nF
    obtain ⟨mF0, hmF⟩ : ∃ mF, mC.new [.string ⟨#[]⟩, .int .i64 0] 49 = mF := ⟨_, rfl⟩
    rw [hmF] at oF0 kF0 nF
    simp [-Int.natCast_add, -w30_2, -BitVec.toNat_or, -BitVec.toNat_ofInt, -BitVec.toNat_and, box_of b25, fieldAddr_of fa25_3, load_of ld22, len_slice u22, fieldAddr_of fa25_4, load_of ld23, len_slice u23, index_slice u22 sz49, load_agg ld49, alloc_of zo49, store_of sz49, fieldAddr_of fa49_1, load_of ld3, fieldAddr_of fa49_0, load_of ld9, buildSlice_of u63 bs9 rfl, append_s u63 sz9, index_slice u23 sz38, load_agg ld38, alloc_of zo38, store_of sz38, fieldAddr_of fa25_0, fieldAddr_of fa38_3, bin_bool u4 .neq (Or.inr rfl), fieldAddr_of fa38_0, i1, em, hlt, wi, lx, hfb, hmF]
    generalize hrp : storeRow _ _ _ = rp
    obtain ⟨mF, rfl, oF, kF1⟩ := store_own hrp oF0 (by simp) (by simp [one_int, one_str])
    simp [-Int.natCast_add, over] at oF
    have kF : Keeps mC mF [] := kF0.fresh kF1 (by intro f hf; rw [List.mem_singleton.1 hf]; omega)
    have lf0 := oF.load1 (off := 0) rfl
    have lf1 := oF.load1 (off := 1) rfl
    have K1F := kC.trans kF
    by_cases hv : 1 ≤ fty ∧ fty < n ∧ fty ≠ 4
    · have vr1 := fun m' => (vr m' fty).trans (by rw [decide_eq_true hv])
      simp [-Int.natCast_add, -w30_2, -BitVec.toNat_or, -BitVec.toNat_ofInt, -BitVec.toNat_and, box_of b25, fieldAddr_of fa25_3, load_of ld22, len_slice u22, fieldAddr_of fa25_4, load_of ld23, len_slice u23, index_slice u22 sz49, load_agg ld49, alloc_of zo49, store_of sz49, fieldAddr_of fa49_1, load_of ld3, fieldAddr_of fa49_0, load_of ld9, buildSlice_of u63 bs9 rfl, append_s u63 sz9, index_slice u23 sz38, load_agg ld38, alloc_of zo38, store_of sz38, fieldAddr_of fa25_0, fieldAddr_of fa38_3, bin_bool u4 .neq (Or.inr rfl), fieldAddr_of fa38_0, lf0, lf1, vr1]
      generalize hra : sappend _ _ _ _ _ _ = ra
      obtain ⟨mI, nb2, nf2, rfl, oN, kI, hnf2, _⟩ := app_slz hra u63 ap9 (sN.keepz kF (by simp)) (by omega) (by simp) (by simp [one_str]) (by omega) (by omega)
      have KI : Keeps m1 mI [] := K1F.fresh kI (by
        intro f hf
        split at hf
        · simp at hf
        · rename_i hn
          rw [List.mem_singleton.1 hf]
          exact hnf hn)
      have sI : Sl mI (some ⟨nb2, 0, none⟩) (ns ++ [fnm]).length (strsC (ns ++ [fnm])) 9 1 nf2 := ⟨by simp [strsC], Or.inr ⟨nb2, rfl, by simpa [strsC] using oN⟩⟩
      have hge : m1.next ≤ nf2 := by
        rcases hnf2 with ⟨h, h2⟩ | h
        · rw [h2]; exact hnf h
        · have := K1F.1; omega
      have el : ns.length + 1 = (ns ++ [fnm]).length := by simp
      obtain ⟨ns2, hns2⟩ : ∃ z, ns ++ [fnm] = z := ⟨_, rfl⟩
      rw [hns2] at el sI
      simp [-Int.natCast_add, -w30_2, -BitVec.toNat_or, -BitVec.toNat_ofInt, -BitVec.toNat_and, box_of b25, fieldAddr_of fa25_3, load_of ld22, len_slice u22, fieldAddr_of fa25_4, load_of ld23, len_slice u23, index_slice u22 sz49, load_agg ld49, alloc_of zo49, store_of sz49, fieldAddr_of fa49_1, load_of ld3, fieldAddr_of fa49_0, load_of ld9, buildSlice_of u63 bs9 rfl, append_s u63 sz9, index_slice u23 sz38, load_agg ld38, alloc_of zo38, store_of sz38, fieldAddr_of fa25_0, fieldAddr_of fa38_3, bin_bool u4 .neq (Or.inr rfl), fieldAddr_of fa38_0, el, wi]
      exact ih _ _ _ _ ⟨i + 1, ns2, some ⟨nb2, 0, none⟩, nf2, rfl, by omega, by omega, sI, fun _ => hge, KI, rfl⟩ (by omega) ⟨by rfl, by rfl, by rfl, by rfl, by rfl, by simp [lget], trivial⟩
    · have vr1 := fun m' => (vr m' fty).trans (by rw [decide_eq_false hv])
      simp [-Int.natCast_add, -w30_2, -BitVec.toNat_or, -BitVec.toNat_ofInt, -BitVec.toNat_and, box_of b25, fieldAddr_of fa25_3, load_of ld22, len_slice u22, fieldAddr_of fa25_4, load_of ld23, len_slice u23, index_slice u22 sz49, load_agg ld49, alloc_of zo49, store_of sz49, fieldAddr_of fa49_1, load_of ld3, fieldAddr_of fa49_0, load_of ld9, buildSlice_of u63 bs9 rfl, append_s u63 sz9, index_slice u23 sz38, load_agg ld38, alloc_of zo38, store_of sz38, fieldAddr_of fa25_0, fieldAddr_of fa38_3, bin_bool u4 .neq (Or.inr rfl), fieldAddr_of fa38_0, lf0, lf1, vr1]
      exact K1C.trans kF
  · have i1 : ¬ (i : Int) < fs.length := by omega
    have l4C := (o1.keep kC (by simp)).load1 (off := 4) rfl
    simp [-Int.natCast_add, -w30_2, -BitVec.toNat_or, -BitVec.toNat_ofInt, -BitVec.toNat_and, box_of b25, fieldAddr_of fa25_3, load_of ld22, len_slice u22, fieldAddr_of fa25_4, load_of ld23, len_slice u23, index_slice u22 sz49, load_agg ld49, alloc_of zo49, store_of sz49, fieldAddr_of fa49_1, load_of ld3, fieldAddr_of fa49_0, load_of ld9, buildSlice_of u63 bs9 rfl, append_s u63 sz9, index_slice u23 sz38, load_agg ld38, alloc_of zo38, store_of sz38, fieldAddr_of fa25_0, fieldAddr_of fa38_3, bin_bool u4 .neq (Or.inr rfl), fieldAddr_of fa38_0, i1, l4C]
    refine wsem_loop 42 [42, 62] (fun dd E mD => ∃ (j : Nat) (ns : List (List UInt8)) (no : Option Addr) (nf : Nat), ms.length - j = dd ∧ j ≤ ms.length ∧ ns.length ≤ 12 + j ∧ Sl mD no ns.length (strsC ns) 9 1 nf ∧ (no ≠ none → m1.next ≤ nf) ∧ Keeps m1 mD [] ∧
      E = [(0, .slice to n n), (3, .pointer (some ⟨xb, 0, none⟩)), (5, .slice no ns.length ns.length), (39, .slice bo ms.length ms.length), (40, .int .i64 ms.length), (41, .int .i64 j)]) _ ⟨_, ⟨0, ns, no, nf, rfl, by omega, by omega, sN, hnf, kC, rfl⟩, ⟨by rfl, by rfl, by rfl, by rfl, by rfl, by rfl, trivial⟩⟩ ?_
    rintro de E mD ihM ⟨j, ns, no, nf, hdj, hj, hns, sN, hnf, kD, rfl⟩
    by_cases hlj : j < ms.length
    · have i1 : (j : Int) < ms.length := by omega
      have em : (j : Int) ≤ 9223372036854775807 := by omega
      have wi : IntKind.i64.wrap ((j : Int) + 1) = ((j + 1 : Nat) : Int) := by rw [wrap_i64 (by omega) (by omega)]; omega
      have K1D := k1.trans kD
      obtain ⟨bb, rfl, hrb⟩ := (ty.mr.keep K1D (by simp)).rdo (by simp only; omega)
      obtain ⟨c0, hc0, w0⟩ := At.elem ty.ml ty.me hlj
      have hwm := hd.2.2.2.2.1.2 _ (List.getElem_mem hlj)
      obtain ⟨po, pf, hcc, hp⟩ := meth_cells hc0
      have lx := hrb.load (off := j * 4) 4 (by rw [← ty.mr.1]; simp only; omega)
      rw [show window cb.flatten (j * 4) 4 = c0 from w0, hcc] at lx
      obtain ⟨zf, hzf⟩ : ∃ z, ms[j] = z := ⟨_, rfl⟩
      simp only [hzf] at lx hc0 hwm hcc hp
      obtain ⟨mnm, mps, mrs, mfu, mu⟩ := zf
      simp only at lx hcc
      obtain ⟨oF0, kF0, nF⟩ := new_own (m := mD) (cs := [.string ⟨#[]⟩, .slice none 0 0, .int .i64 0, .int .i64 0]) (e := 38) rfl
      obtain ⟨fb, hfb⟩ : ∃ fb, mD.next = fb := ⟨_, rfl⟩
      rw [hfb] at oF0 nF
      obtain ⟨mF0, hmF⟩ : ∃ mF, mD.new [.string ⟨#[]⟩, .slice none 0 0, .int .i64 0, .int .i64 0] 38 = mF := ⟨_, rfl⟩
      rw [hmF] at oF0 kF0 nF
      simp [-Int.natCast_add, -w30_2, -BitVec.toNat_or, -BitVec.toNat_ofInt, -BitVec.toNat_and, box_of b25, fieldAddr_of fa25_3, load_of ld22, len_slice u22, fieldAddr_of fa25_4, load_of ld23, len_slice u23, index_slice u22 sz49, load_agg ld49, alloc_of zo49, store_of sz49, fieldAddr_of fa49_1, load_of ld3, fieldAddr_of fa49_0, load_of ld9, buildSlice_of u63 bs9 rfl, append_s u63 sz9, index_slice u23 sz38, load_agg ld38, alloc_of zo38, store_of sz38, fieldAddr_of fa25_0, fieldAddr_of fa38_3, bin_bool u4 .neq (Or.inr rfl), fieldAddr_of fa38_0, i1, em, hlj, wi, lx, hfb, hmF]
      generalize hrp : storeRow _ _ _ = rp
      obtain ⟨mF, rfl, oF, kF1⟩ := store_own hrp oF0 (by simp) (by simp [one_int, one_str, one_slice])
      simp [-Int.natCast_add, over] at oF
      have kF : Keeps mD mF [] := kF0.fresh kF1 (by intro f hf; rw [List.mem_singleton.1 hf]; omega)
      have lf := oF.load (off := 0) 4 (by simp)
      simp [window] at lf
      have lf0 := oF.load1 (off := 0) rfl
      have hcF := (hc0.keep K1D).keep kF
      obtain ⟨v, mG, hmr, ⟨bv, rfl⟩, kG⟩ := method_run (to := to) (n := n) hN.method hN.value hwm hcF
      rw [hcc] at hmr
      clear ih
      have KG := (kD.trans kF).trans kG
      have lx0 := ((o1.keep ((kD.trans kF)) (by simp)).keep kG (by simp)).load1 (off := 0) rfl
      have lfG0 := (oF.keep kG (by simp)).load1 (off := 0) rfl
      have lfG3 := (oF.keep kG (by simp)).load1 (off := 3) rfl
      cases bv
      · simp [-Int.natCast_add, -w30_2, -BitVec.toNat_or, -BitVec.toNat_ofInt, -BitVec.toNat_and, box_of b25, fieldAddr_of fa25_3, load_of ld22, len_slice u22, fieldAddr_of fa25_4, load_of ld23, len_slice u23, index_slice u22 sz49, load_agg ld49, alloc_of zo49, store_of sz49, fieldAddr_of fa49_1, load_of ld3, fieldAddr_of fa49_0, load_of ld9, buildSlice_of u63 bs9 rfl, append_s u63 sz9, index_slice u23 sz38, load_agg ld38, alloc_of zo38, store_of sz38, fieldAddr_of fa25_0, fieldAddr_of fa38_3, bin_bool u4 .neq (Or.inr rfl), fieldAddr_of fa38_0, lf, hmr]
        exact k1.trans KG
      simp [-Int.natCast_add, -w30_2, -BitVec.toNat_or, -BitVec.toNat_ofInt, -BitVec.toNat_and, box_of b25, fieldAddr_of fa25_3, load_of ld22, len_slice u22, fieldAddr_of fa25_4, load_of ld23, len_slice u23, index_slice u22 sz49, load_agg ld49, alloc_of zo49, store_of sz49, fieldAddr_of fa49_1, load_of ld3, fieldAddr_of fa49_0, load_of ld9, buildSlice_of u63 bs9 rfl, append_s u63 sz9, index_slice u23 sz38, load_agg ld38, alloc_of zo38, store_of sz38, fieldAddr_of fa25_0, fieldAddr_of fa38_3, bin_bool u4 .neq (Or.inr rfl), fieldAddr_of fa38_0, lf, hmr]
      by_cases c7 : k = 7 <;> by_cases cm : mfu = -1 <;> by_cases cl : mfu < -1 <;> (try omega) <;> simp [-Int.natCast_add, -w30_2, -BitVec.toNat_or, -BitVec.toNat_ofInt, -BitVec.toNat_and, box_of b25, fieldAddr_of fa25_3, load_of ld22, len_slice u22, fieldAddr_of fa25_4, load_of ld23, len_slice u23, index_slice u22 sz49, load_agg ld49, alloc_of zo49, store_of sz49, fieldAddr_of fa49_1, load_of ld3, fieldAddr_of fa49_0, load_of ld9, buildSlice_of u63 bs9 rfl, append_s u63 sz9, index_slice u23 sz38, load_agg ld38, alloc_of zo38, store_of sz38, fieldAddr_of fa25_0, fieldAddr_of fa38_3, bin_bool u4 .neq (Or.inr rfl), fieldAddr_of fa38_0, lx0, lfG0, lfG3, c7, cm, cl]
      all_goals first
        | exact k1.trans KG
        | (generalize hra : sappend _ _ _ _ _ _ = ra
           obtain ⟨mI, nb2, nf2, rfl, oN, kI, hnf2, _⟩ := app_slz hra u63 ap9 ((sN.keepz kF (by simp)).keepz kG (by simp)) (by omega) (by simp) (by simp [one_str]) (by omega) (by omega)
           have KI : Keeps m1 mI [] := KG.fresh kI (by
             intro f hf
             split at hf
             · simp at hf
             · rename_i hn
               rw [List.mem_singleton.1 hf]
               exact hnf hn)
           have sI : Sl mI (some ⟨nb2, 0, none⟩) (ns ++ [mnm]).length (strsC (ns ++ [mnm])) 9 1 nf2 := ⟨by simp [strsC], Or.inr ⟨nb2, rfl, by simpa [strsC] using oN⟩⟩
           have hge : m1.next ≤ nf2 := by
             rcases hnf2 with ⟨h, h2⟩ | h
             · rw [h2]; exact hnf h
             · have := KG.1; omega
           have el : ns.length + 1 = (ns ++ [mnm]).length := by simp
           obtain ⟨ns2, hns2⟩ : ∃ z, ns ++ [mnm] = z := ⟨_, rfl⟩
           rw [hns2] at el sI
           simp [-Int.natCast_add, -w30_2, -BitVec.toNat_or, -BitVec.toNat_ofInt, -BitVec.toNat_and, box_of b25, fieldAddr_of fa25_3, load_of ld22, len_slice u22, fieldAddr_of fa25_4, load_of ld23, len_slice u23, index_slice u22 sz49, load_agg ld49, alloc_of zo49, store_of sz49, fieldAddr_of fa49_1, load_of ld3, fieldAddr_of fa49_0, load_of ld9, buildSlice_of u63 bs9 rfl, append_s u63 sz9, index_slice u23 sz38, load_agg ld38, alloc_of zo38, store_of sz38, fieldAddr_of fa25_0, fieldAddr_of fa38_3, bin_bool u4 .neq (Or.inr rfl), fieldAddr_of fa38_0, el, wi]
           exact ihM _ _ _ _ ⟨j + 1, ns2, some ⟨nb2, 0, none⟩, nf2, rfl, by omega, by omega, sI, fun _ => hge, KI, rfl⟩ (by omega) ⟨by rfl, by rfl, by rfl, by rfl, by rfl, by simp [lget], trivial⟩)
        | trace_state
    · have i1 : ¬ (j : Int) < ms.length := by omega
      obtain ⟨v, m', hu, ⟨bv, rfl⟩, rfl⟩ := unlike_run (m := mD) hN.unlike hN.cont hN.idx (l := ns) (by omega) sN
      simp [-Int.natCast_add, -w30_2, -BitVec.toNat_or, -BitVec.toNat_ofInt, -BitVec.toNat_and, box_of b25, fieldAddr_of fa25_3, load_of ld22, len_slice u22, fieldAddr_of fa25_4, load_of ld23, len_slice u23, index_slice u22 sz49, load_agg ld49, alloc_of zo49, store_of sz49, fieldAddr_of fa49_1, load_of ld3, fieldAddr_of fa49_0, load_of ld9, buildSlice_of u63 bs9 rfl, append_s u63 sz9, index_slice u23 sz38, load_agg ld38, alloc_of zo38, store_of sz38, fieldAddr_of fa25_0, fieldAddr_of fa38_3, bin_bool u4 .neq (Or.inr rfl), fieldAddr_of fa38_0, i1, hu]
      exact k1.trans kD
end Go.Proofs.YtllhpkhbcgfeeaaDoor.base

