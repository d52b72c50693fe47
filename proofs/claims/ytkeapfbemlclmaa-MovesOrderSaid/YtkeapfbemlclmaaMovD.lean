/-
  This text proves what the orderer's ring does over the abstract run.
  Condition: nothing is known of the calls ahead ('S f = []').
-/
import Derived.Test.YtkeapfbemlclmaaMovC
set_option maxRecDepth 100000
set_option linter.unusedSimpArgs false
set_option linter.unusedVariables false
namespace Go.Proofs.Ytkeapfbemlclmaa.base
open Go.Sh gen
variable {S : Sums} {m : Mem}
section
variable {m0 : Mem} {ob f0 fl nl : Nat} {F : Int → Int} {D DN : List Int} {a : Option Addr} {l : List Int} {fa : Nat} {oa : Option Addr} {out : List Mv} {fo : Nat} {ta : Option Addr} {tl : List Int} {tf : Nat}
set_option maxHeartbeats 4000000 in
theorem ring_run (hS : S 20 = []) {T D0 ms : List Int} {spare first : Int} {outA : List Mv} (hM : Mov F T spare) (hR : Ring F T spare D0 D outA ms) (hf : first ∈ D) (h : OS m0 m ob f0 fl nl F D DN a l fa oa (outA ++ [(first, spare)]) fo ta tl tf) (hT : T.length ≤ 400) :
    ∃ v m1, callw Try.prog TT S 20 [.pointer (some ⟨ob, 0, none⟩), .int .i64 first, .int .i64 spare] m = some (v, m1) ∧ ∃ D' oa' out' fo' q, OS m0 m1 ob f0 fl nl F D' DN a l fa oa' out' fo' ta tl tf ∧ Ring F T spare D0 D' out' (ms ++ [q]) ∧ first ∉ D' ∧ ∀ x ∈ D', x ∈ D := by
  have hTD0 : D.length ≤ T.length := sum_sub2 hR.nd (fun q hq => hR.sub0 q (hR.sub q hq))
  have hms : ms.length ≤ T.length := sum_sub2 hR.msn (fun q hq => hR.sub0 q (hR.msg q hq).2.1)
  have hlen := hR.len
  refine fn_w 8 [22] k20 hS rfl ?_
  simp [-Int.natCast_add, -BitVec.toNat_or, -BitVec.toNat_ofInt, -BitVec.toNat_and, fieldAddr_of fa44_0, load_of ld40, look_int u40 u3 zv3, del_int u40, fieldAddr_of fa44_3, load_of ld22, build_of bo27, buildSlice_of u22 bs27 rfl, append_s u22 sz27, store_of sz22]
  refine wsem_loop 8 [22] (fun d E m2 => ∃ k Dc oa' out' fo', Dc.length = d ∧ OS m0 m2 ob f0 fl nl F Dc DN a l fa oa' out' fo' ta tl tf ∧ In F T spare D0 D outA ms first k Dc out' ∧ E = [(0, .pointer (some ⟨ob, 0, none⟩)), (1, .int .i64 first), (2, .int .i64 spare), (6, .int .i64 (itr F k first))]) _ ⟨_, ⟨0, D, oa, _, fo, rfl, h, hR.begin hM hf, rfl⟩, ⟨by rfl, by rfl, by rfl, by rfl, trivial⟩⟩ ?_
  clear h
  rintro d E m2 ih ⟨k, Dc, oa', out', fo', hd, h2, hI, rfl⟩
  obtain ⟨lf2, ln2, la2, lo2⟩ := h2.lds
  have g2 : mget m2 fl (itr F k first) = some (some (.int .i64 (F (itr F k first)))) := by rw [h2.frm.get]; simp [fmap, hI.to]
  have hnx := hI.next hM
  have hdn := hI.done hM hTD0
  have hlt : (Dc.erase (itr F k first)).length < d := by
    have := List.length_pos_of_mem hI.to
    rw [List.length_erase_of_mem hI.to]; omega
  have hol := hI.ol
  have hil := hI.len
  have ek : itr F (k + 1) first = F (itr F k first) := rfl
  obtain ⟨m3, e3, O3⟩ := h2.strike hI.nd (itr F k first)
  obtain ⟨lf3, ln3, la3, lo3⟩ := O3.lds
  clear hI
  by_cases hx : F (itr F k first) = first
  · obtain ⟨⟨q, hR2⟩, hn, hs⟩ := hdn hx
    rw [hx] at g2
    generalize itr F k first = x at *
    obtain ⟨m4, m5, na, fo5, e4, l4, e5, O5⟩ := O3.emit (spare, x) [.int .i64 spare, .int .i64 x] 27 (by omega)
    simp only at e4 e5
    simp [-Int.natCast_add, -BitVec.toNat_or, -BitVec.toNat_ofInt, -BitVec.toNat_and, fieldAddr_of fa44_0, load_of ld40, look_int u40 u3 zv3, del_int u40, fieldAddr_of fa44_3, load_of ld22, build_of bo27, buildSlice_of u22 bs27 rfl, append_s u22 sz27, store_of sz22, lf2, g2, e3, lo3, e4, l4, e5]
    exact ⟨_, _, _, ⟨_, O5⟩, ⟨q, hR2⟩, hn, hs⟩
  · have hI2 := hnx hx
    rw [← ek] at hI2 g2 hx
    obtain ⟨y, hy⟩ : ∃ y, itr F (k + 1) first = y := ⟨_, rfl⟩
    rw [hy] at hI2 g2 hx
    generalize itr F k first = x at *
    obtain ⟨m4, m5, na, fo5, e4, l4, e5, O5⟩ := O3.emit (y, x) [.int .i64 y, .int .i64 x] 27 (by omega)
    simp only at e4 e5
    simp [-Int.natCast_add, -BitVec.toNat_or, -BitVec.toNat_ofInt, -BitVec.toNat_and, fieldAddr_of fa44_0, load_of ld40, look_int u40 u3 zv3, del_int u40, fieldAddr_of fa44_3, load_of ld22, build_of bo27, buildSlice_of u22 bs27 rfl, append_s u22 sz27, store_of sz22, lf2, g2, e3, lo3, e4, l4, e5, hx]
    exact ih _ _ _ _ ⟨k + 1, _, _, _, _, rfl, O5, hI2, rfl⟩ hlt ⟨by rfl, by rfl, by rfl, by simp [lget, hy], trivial⟩
theorem mvc_win {l : List Mv} {i : Nat} (h : i < l.length) : window (mvc l) (i * 2) 2 = [.int .i64 l[i].1, .int .i64 l[i].2] := by
  induction l generalizing i with
  | nil => simp at h
  | cons a l ih =>
    cases i with
    | zero => simp [window, mvc]
    | succ i =>
      have := ih (i := i) (by simpa using h)
      simp only [window, mvc, List.flatMap_cons] at this ⊢
      rw [show (i + 1) * 2 = i * 2 + 2 by omega]
      simpa using this
/-- moves to other places -/
abbrev nt (l : List Mv) : List Mv := l.filter fun p => decide (p.1 ≠ p.2)
abbrev tos (l : List Mv) : List Int := (nt l).map (·.2)
theorem tos_snoc (l : List Mv) (x y : Int) : tos (l ++ [(x, y)]) = if x = y then tos l else tos l ++ [y] := by
  simp only [tos, nt, List.filter_append, List.map_append]
  by_cases h : x = y <;> simp [h]
theorem one_run {lo : Option Addr} {ls : List Mv} {lf : Nat} {le : Nat} (hN : Nh S) (hF : S 19 = []) (hR : S 20 = []) (hS : S 15 = []) {spare : Int}
    (hl : Rs m lo ls.length (mvc ls) le 2 lf) (hM : Mov F (tos ls) spare) (hFl : ∀ p ∈ ls, p.1 ≠ p.2 → F p.2 = p.1) (hT : ls.length ≤ 400) :
    ∃ v m1, callw Try.prog TT S 15 [.slice lo ls.length ls.length, .int .i64 spare] m = some (v, m1) ∧ (∃ oa out fo ms, v = .slice oa out.length out.length ∧ Sl m1 oa out.length (mvc out) 27 2 fo ∧ (oa ≠ none → m.next ≤ fo) ∧ Done F (tos ls) spare out ms) ∧ Keeps m m1 [] := by
  obtain ⟨p1, k1, n1⟩ := newMap_mp (m := m) rfl
  obtain ⟨p2, k2, n2⟩ := newMap_mp (m := m.newMap) rfl
  obtain ⟨o3, k3, n3⟩ := new_own (m := m.newMap.newMap) (cs := [.map (some m.next), .map (some m.newMap.next), .slice none 0 0, .slice none 0 0]) (e := 44) rfl
  have O0 : OS m (m.newMap.newMap.new [.map (some m.next), .map (some m.newMap.next), .slice none 0 0, .slice none 0 0] 44) m.newMap.newMap.next m.newMap.newMap.next m.next m.newMap.next F [] [] none [] 0 none [] 0 none [] 0 := by
    refine ⟨⟨o3, Sr.nil _ _ _ _, by simp⟩, Sl.nil _ _ _ _, ?_, ⟨fun _ => none, p2.keep k3 (by simp), fun k => rfl⟩, (k1.trans k2).trans k3, ⟨by omega, by omega, by omega⟩, ⟨by omega, by omega, by omega⟩, by simp, by simp, by simp, Sl.nil _ _ _ _, by simp, by simp, by simp⟩
    have : fmap F [] = fun _ => none := by funext k; simp [fmap]
    rw [this]
    exact (p1.keep k2 (by simp)).keep k3 (by simp)
  refine fn_w 78 [78, 90] k15 hS rfl ?_
  simp [-Int.natCast_add, -BitVec.toNat_or, -BitVec.toNat_ofInt, -BitVec.toNat_and, mkmap_of u40, build_of bo44, box_of b44, len_slice u22, index_slice u22 sz27, load_agg ld27, alloc_of zo27, store_of sz27, fieldAddr_of fa27_0, load_of ld3, fieldAddr_of fa27_1, fieldAddr_of fa44_0, load_of ld40, upd_int u40, fieldAddr_of fa44_1, look_int u40 u3 zv3, buildSlice_of u41 bs3 rfl, append_s u41 sz3, len_slice u41, index_slice u41 sz3, fieldAddr_of fa44_2, mkif_of ni46, mkif_of ni3, fieldAddr_of fa44_3, load_of ld22, build_of bo27, buildSlice_of u22 bs27 rfl, append_s u22 sz27, store_of sz22]
  generalize m.newMap.newMap.new [.map (some m.next), .map (some m.newMap.next), .slice none 0 0, .slice none 0 0] 44 = mA at *
  generalize m.newMap.newMap.next = ob at *
  generalize m.newMap.next = nl at *
  clear p1 p2 o3 k1 k2 k3 n1 n2 n3
  refine wsem_loop 78 [78, 90] (fun d E m2 => ∃ i ta tf, ls.length - i = d ∧ i ≤ ls.length ∧ OS m m2 ob ob m.next nl F (tos (ls.take i)) (tos (ls.take i)) none [] 0 none [] 0 ta (tos (ls.take i)) tf ∧ E = [(1, .int .i64 spare), (5, .pointer (some ⟨ob, 0, none⟩)), (6, .slice ta (tos (ls.take i)).length (tos (ls.take i)).length), (19, .slice lo ls.length ls.length), (20, .int .i64 ls.length), (21, .int .i64 i)]) _ ⟨_, ⟨0, none, 0, rfl, by omega, O0, rfl⟩, ⟨by rfl, by rfl, by rfl, by rfl, by rfl, by rfl, trivial⟩⟩ ?_
  clear O0
  rintro d E m2 ih ⟨i, ta, tf, hd, hi, h2, rfl⟩
  by_cases hlt : i < ls.length
  · have em : (i : Int) ≤ 9223372036854775807 := by omega
    have hlt' : (i : Int) < ls.length := by omega
    have wi : IntKind.i64.wrap ((i : Int) + 1) = ((i + 1 : Nat) : Int) := by rw [wrap_i64 (by omega) (by omega)]; omega
    obtain ⟨lb, rfl, ol⟩ := (hl.keep h2.k0 (by simp)).rdo (by omega)
    obtain ⟨⟨x, y⟩, hp⟩ : ∃ p, ls[i] = p := ⟨_, rfl⟩
    have ld : loadRow m2 ⟨lb, i * 2, none⟩ 2 = some [.int .i64 x, .int .i64 y] := by
      rw [ol.load 2 (by rw [mvc_len]; omega), mvc_win hlt, hp]
    obtain ⟨o3, k3, n3⟩ := new_own (m := m2) (cs := [.int .i64 0, .int .i64 0]) (e := 27) rfl
    obtain ⟨m4, e4, o4, k4⟩ := store_own (r := _) rfl o3 (off := 0) (vs := [.int .i64 x, .int .i64 y]) (by simp) (by simp [one_int])
    simp [over] at o4
    have k24 := k3.fresh k4 (by simp)
    have O4 := h2.keep0 k24
    have l0 := o4.load1 (off := 0) rfl
    have l1 := o4.load1 (off := 1) rfl
    have et : tos (ls.take (i + 1)) = if x = y then tos (ls.take i) else tos (ls.take i) ++ [y] := by
      rw [List.take_succ_eq_append_getElem hlt, hp, tos_snoc]
    have htl : (tos (ls.take i)).length ≤ i := by
      have h1 := List.length_filter_le (fun p : Mv => decide (p.1 ≠ p.2)) (ls.take i)
      have h2 : (ls.take i).length ≤ i := by simp; omega
      simp only [tos, nt, List.length_map]; omega
    have hFy : x ≠ y → F y = x := fun h => hFl (x, y) (by rw [← hp]; exact List.getElem_mem _) h
    generalize tos (ls.take i) = tl at *
    by_cases hxy : x = y
    · subst hxy
      rw [if_pos rfl] at et
      simp [-Int.natCast_add, -BitVec.toNat_or, -BitVec.toNat_ofInt, -BitVec.toNat_and, mkmap_of u40, build_of bo44, box_of b44, len_slice u22, index_slice u22 sz27, load_agg ld27, alloc_of zo27, store_of sz27, fieldAddr_of fa27_0, load_of ld3, fieldAddr_of fa27_1, fieldAddr_of fa44_0, load_of ld40, upd_int u40, fieldAddr_of fa44_1, look_int u40 u3 zv3, buildSlice_of u41 bs3 rfl, append_s u41 sz3, len_slice u41, index_slice u41 sz3, fieldAddr_of fa44_2, mkif_of ni46, mkif_of ni3, fieldAddr_of fa44_3, load_of ld22, build_of bo27, buildSlice_of u22 bs27 rfl, append_s u22 sz27, store_of sz22, em, hlt, hlt', ld, e4, l0, l1, wi]
      exact ih _ _ _ _ ⟨i + 1, ta, tf, rfl, by omega, et.symm ▸ O4, rfl⟩ (by omega) ⟨by rfl, by rfl, by simp [lget, et], by rfl, by rfl, by rfl, trivial⟩
    · rw [if_neg hxy] at et
      obtain ⟨lf4, ln4, _, _⟩ := O4.lds
      obtain ⟨m5, e5, k5, O5⟩ := O4.put y
      rw [hFy hxy] at e5
      have b3 := O4.frm.lt
      obtain ⟨lf5, ln5, _, _⟩ := O5.lds
      have o5 := o4.keep k5 (by have := h2.frm.lt; simp; omega)
      have l50 := o5.load1 (off := 0) rfl
      have l51 := o5.load1 (off := 1) rfl
      obtain ⟨r6, g6, hr6, m6, e6, k6, O6⟩ := O5.more y
      rw [hFy hxy] at g6 hr6 e6
      have hcl := cnt_le F tl x
      have wc : IntKind.i64.wrap ((cnt F tl x : Nat) + 1 : Int) = ((cnt F tl x + 1 : Nat) : Int) := by rw [wrap_i64 (by omega) (by omega)]; omega
      generalize cnt F tl x = c at *
      have o6 := o5.keep k6 (by have := O5.nds; obtain ⟨g, hg, _⟩ := this; obtain ⟨g0, hg0, _⟩ := h2.nds; have := hg0.lt; simp; omega)
      have l61 := o6.load1 (off := 1) rfl
      simp [-Int.natCast_add, -BitVec.toNat_or, -BitVec.toNat_ofInt, -BitVec.toNat_and, mkmap_of u40, build_of bo44, box_of b44, len_slice u22, index_slice u22 sz27, load_agg ld27, alloc_of zo27, store_of sz27, fieldAddr_of fa27_0, load_of ld3, fieldAddr_of fa27_1, fieldAddr_of fa44_0, load_of ld40, upd_int u40, fieldAddr_of fa44_1, look_int u40 u3 zv3, buildSlice_of u41 bs3 rfl, append_s u41 sz3, len_slice u41, index_slice u41 sz3, fieldAddr_of fa44_2, mkif_of ni46, mkif_of ni3, fieldAddr_of fa44_3, load_of ld22, build_of bo27, buildSlice_of u22 bs27 rfl, append_s u22 sz27, store_of sz22, em, hlt, hlt', ld, e4, l0, l1, hxy, wi, lf4, ln4, e5, lf5, ln5, l50, l51, g6, hr6, wc, e6, l61]
      generalize hra : sappend _ _ _ _ _ _ = ra
      obtain ⟨m7, nb, tf7, rfl, o7, k7, hf7, _, _⟩ := app_slz hra u41 ap3 O6.to_ (by omega) (by simp) (by simp [one_int]) (by omega) (by omega)
      have hsl : Sl m7 (some ⟨nb, 0, none⟩) (tl ++ [y]).length (ic (tl ++ [y])) 3 1 tf7 := Sl.of (by simpa [ic] using o7) (by simp [ic])
      have kf : ∀ g : Nat, (ta ≠ none → g ≠ tf) → g ∉ (if ta = none then [] else [tf]) := by
        intro g hg
        split
        · simp
        · rename_i hn
          simpa using hg hn
      have O7 := O6.keepf k7 (by
        intro f hf
        split at hf
        · simp at hf
        · rename_i hn
          simp at hf; rw [hf]; exact (O6.bt hn).1) ⟨kf _ (fun hn => (O6.bt hn).2.1.symm), kf _ (fun hn => (O6.bt hn).2.2.1.symm), kf _ (fun hn => (O6.bt hn).2.2.2.symm)⟩ (by simp) (by simp) hsl (fun _ => hf7)
      simp [-Int.natCast_add, -BitVec.toNat_or, -BitVec.toNat_ofInt, -BitVec.toNat_and, mkmap_of u40, build_of bo44, box_of b44, len_slice u22, index_slice u22 sz27, load_agg ld27, alloc_of zo27, store_of sz27, fieldAddr_of fa27_0, load_of ld3, fieldAddr_of fa27_1, fieldAddr_of fa44_0, load_of ld40, upd_int u40, fieldAddr_of fa44_1, look_int u40 u3 zv3, buildSlice_of u41 bs3 rfl, append_s u41 sz3, len_slice u41, index_slice u41 sz3, fieldAddr_of fa44_2, mkif_of ni46, mkif_of ni3, fieldAddr_of fa44_3, load_of ld22, build_of bo27, buildSlice_of u22 bs27 rfl, append_s u22 sz27, store_of sz22, wi]
      exact ih _ _ _ _ ⟨i + 1, _, tf7, rfl, by omega, et.symm ▸ O7, rfl⟩ (by omega) ⟨by rfl, by rfl, by simp [lget, et], by rfl, by rfl, by rfl, trivial⟩
  · have hlt' : ¬ (i : Int) < ls.length := by omega
    have ei : ls.take i = ls := List.take_of_length_le (by omega)
    rw [ei] at h2 ⊢
    clear ih
    have hTl : (tos ls).length ≤ 400 := by
      have h1 := List.length_filter_le (fun p : Mv => decide (p.1 ≠ p.2)) ls
      simp only [tos, nt, List.length_map]; omega
    clear hFl hl
    generalize tos ls = T at *
    simp [-Int.natCast_add, -BitVec.toNat_or, -BitVec.toNat_ofInt, -BitVec.toNat_and, mkmap_of u40, build_of bo44, box_of b44, len_slice u22, index_slice u22 sz27, load_agg ld27, alloc_of zo27, store_of sz27, fieldAddr_of fa27_0, load_of ld3, fieldAddr_of fa27_1, fieldAddr_of fa44_0, load_of ld40, upd_int u40, fieldAddr_of fa44_1, look_int u40 u3 zv3, buildSlice_of u41 bs3 rfl, append_s u41 sz3, len_slice u41, index_slice u41 sz3, fieldAddr_of fa44_2, mkif_of ni46, mkif_of ni3, fieldAddr_of fa44_3, load_of ld22, build_of bo27, buildSlice_of u22 bs27 rfl, append_s u22 sz27, store_of sz22, hlt']
    refine wsem_loop 78 [78, 90] (fun d E m2 => ∃ i a l fa, T.length - i = d ∧ i ≤ T.length ∧ OS m m2 ob ob m.next nl F T T a l fa none [] 0 ta T tf ∧ l.Perm ((T.take i).filter fun p => decide (cnt F T p = 0)) ∧ E = [(1, .int .i64 spare), (5, .pointer (some ⟨ob, 0, none⟩)), (6, .slice ta T.length T.length), (52, .slice ta T.length T.length), (53, .int .i64 T.length), (54, .int .i64 i)]) _ ⟨_, ⟨0, none, [], 0, rfl, by omega, h2, List.Perm.refl _, rfl⟩, ⟨by rfl, by rfl, by rfl, by rfl, by rfl, by rfl, trivial⟩⟩ ?_
    clear h2 hlt hlt' ei hi hd
    rintro d E m3 ih ⟨i, a, l, fa, hd, hi, h3, hp, rfl⟩
    have hpl : l.length ≤ 400 := by
      have h1 := List.length_filter_le (fun p => decide (cnt F T p = 0)) (T.take i)
      have h2 : (T.take i).length ≤ T.length := by simp; omega
      rw [hp.length_eq]; omega
    by_cases hlt : i < T.length
    · have em : (i : Int) ≤ 9223372036854775807 := by omega
      have hlt' : (i : Int) < T.length := by omega
      have wi : IntKind.i64.wrap ((i : Int) + 1) = ((i + 1 : Nat) : Int) := by rw [wrap_i64 (by omega) (by omega)]; omega
      obtain ⟨tb, rfl, ot⟩ := h3.to_.own (by omega)
      have ld := ot.load1 (ic_at hlt)
      obtain ⟨lf3, ln3, la3, lo3⟩ := h3.lds
      obtain ⟨g, hg, hgc⟩ := h3.nds
      have et : T.take (i + 1) = T.take i ++ [T[i]] := List.take_succ_eq_append_getElem hlt
      generalize T[i] = x at *
      obtain ⟨r, g3, hr⟩ : ∃ r, mget m3 nl x = some r ∧ r.getD (.int .i64 0) = .int .i64 (cnt F T x : Nat) := ⟨_, hg.get x, hgc x⟩
      by_cases hc : cnt F T x = 0
      · rw [hc] at hr
        have hr' : r.getD (.int .i64 0) = .int .i64 0 := hr
        obtain ⟨v4, m4, c4, ⟨a4, fa4, l4, hp4, h4, hf4⟩, k4⟩ := hpush_run hN h3.at_ (by omega) x
        have O4 := h3.heap h4 hf4 k4 (fun f hf => by
          split at hf
          · simp at hf; exact Or.inl hf
          · rename_i hn
            simp at hf
            rcases hf with h | h
            · exact Or.inl h
            · exact Or.inr ⟨hn, h⟩)
        simp [-Int.natCast_add, -BitVec.toNat_or, -BitVec.toNat_ofInt, -BitVec.toNat_and, mkmap_of u40, build_of bo44, box_of b44, len_slice u22, index_slice u22 sz27, load_agg ld27, alloc_of zo27, store_of sz27, fieldAddr_of fa27_0, load_of ld3, fieldAddr_of fa27_1, fieldAddr_of fa44_0, load_of ld40, upd_int u40, fieldAddr_of fa44_1, look_int u40 u3 zv3, buildSlice_of u41 bs3 rfl, append_s u41 sz3, len_slice u41, index_slice u41 sz3, fieldAddr_of fa44_2, mkif_of ni46, mkif_of ni3, fieldAddr_of fa44_3, load_of ld22, build_of bo27, buildSlice_of u22 bs27 rfl, append_s u22 sz27, store_of sz22, hlt, hlt', em, ld, ln3, g3, hr', c4, wi]
        refine ih _ _ _ _ ⟨i + 1, a4, l4, fa4, rfl, by omega, O4, ?_, rfl⟩ (by omega) ⟨by rfl, by rfl, by rfl, by rfl, by rfl, by rfl, trivial⟩
        rw [et, List.filter_append]
        simp only [List.filter_cons, hc, decide_true, if_true, List.filter_nil]
        exact hp4.trans ((hp.cons x).trans (List.perm_append_comm (l₁ := [x])))
      · have hc' : ¬ ((cnt F T x : Nat) : Int) = 0 := by omega
        simp [-Int.natCast_add, -BitVec.toNat_or, -BitVec.toNat_ofInt, -BitVec.toNat_and, mkmap_of u40, build_of bo44, box_of b44, len_slice u22, index_slice u22 sz27, load_agg ld27, alloc_of zo27, store_of sz27, fieldAddr_of fa27_0, load_of ld3, fieldAddr_of fa27_1, fieldAddr_of fa44_0, load_of ld40, upd_int u40, fieldAddr_of fa44_1, look_int u40 u3 zv3, buildSlice_of u41 bs3 rfl, append_s u41 sz3, len_slice u41, index_slice u41 sz3, fieldAddr_of fa44_2, mkif_of ni46, mkif_of ni3, fieldAddr_of fa44_3, load_of ld22, build_of bo27, buildSlice_of u22 bs27 rfl, append_s u22 sz27, store_of sz22, hlt, hlt', em, ld, ln3, g3, hr, hc, hc', wi]
        refine ih _ _ _ _ ⟨i + 1, a, l, fa, rfl, by omega, h3, ?_, rfl⟩ (by omega) ⟨by rfl, by rfl, by rfl, by rfl, by rfl, by rfl, trivial⟩
        rw [et, List.filter_append]
        simp only [List.filter_cons, hc, decide_false, Bool.false_eq_true, if_false, List.filter_nil, List.append_nil]
        exact hp
    · have hlt' : ¬ (i : Int) < T.length := by omega
      have ei : T.take i = T := List.take_of_length_le (by omega)
      rw [ei] at hp
      have hI : Flow F T spare T l [] := Flow.start hM (fun p => by rw [hp.mem_iff]; simp) (hp.nodup_iff.2 (hM.nd.filter _))
      obtain ⟨v4, m4, c4, D', a4, fa4, oa4, out4, fo4, O4, hI4⟩ := flow_run hN hF hM h3 hI hTl
      simp [-Int.natCast_add, -BitVec.toNat_or, -BitVec.toNat_ofInt, -BitVec.toNat_and, mkmap_of u40, build_of bo44, box_of b44, len_slice u22, index_slice u22 sz27, load_agg ld27, alloc_of zo27, store_of sz27, fieldAddr_of fa27_0, load_of ld3, fieldAddr_of fa27_1, fieldAddr_of fa44_0, load_of ld40, upd_int u40, fieldAddr_of fa44_1, look_int u40 u3 zv3, buildSlice_of u41 bs3 rfl, append_s u41 sz3, len_slice u41, index_slice u41 sz3, fieldAddr_of fa44_2, mkif_of ni46, mkif_of ni3, fieldAddr_of fa44_3, load_of ld22, build_of bo27, buildSlice_of u22 bs27 rfl, append_s u22 sz27, store_of sz22, hlt', c4]
      clear ih hlt hlt' ei hi hd hp h3 hI c4
      refine wsem_loop 78 [78, 90] (fun d E m2 => ∃ i D oa out fo ms, T.length - i = d ∧ i ≤ T.length ∧ OS m m2 ob ob m.next nl F D D' a4 [] fa4 oa out fo ta T tf ∧ Ring F T spare D' D out ms ∧ (∀ p ∈ T.take i, p ∉ D) ∧ E = [(1, .int .i64 spare), (5, .pointer (some ⟨ob, 0, none⟩)), (75, .slice ta T.length T.length), (76, .int .i64 T.length), (77, .int .i64 i)]) _ ⟨_, ⟨0, D', oa4, out4, fo4, [], rfl, by omega, O4, hI4.rings, by simp, rfl⟩, ⟨by rfl, by rfl, by rfl, by rfl, by rfl, trivial⟩⟩ ?_
      clear O4
      rintro d E m5 ih ⟨i, D, oa, out, fo, ms, hd, hi, h5, hR5, hno, rfl⟩
      by_cases hlt : i < T.length
      · have em : (i : Int) ≤ 9223372036854775807 := by omega
        have hlt' : (i : Int) < T.length := by omega
        have wi : IntKind.i64.wrap ((i : Int) + 1) = ((i + 1 : Nat) : Int) := by rw [wrap_i64 (by omega) (by omega)]; omega
        obtain ⟨tb, rfl, ot⟩ := h5.to_.own (by omega)
        have ld := ot.load1 (ic_at hlt)
        obtain ⟨lf5, ln5, la5, lo5⟩ := h5.lds
        have et : T.take (i + 1) = T.take i ++ [T[i]] := List.take_succ_eq_append_getElem hlt
        have g5 := h5.frm.get T[i]
        generalize T[i] = x at *
        have hol : out.length ≤ 2000 := by
          have h1 := hR5.len
          have h2 : ms.length ≤ T.length := sum_sub2 hR5.msn (fun q hq => hR5.sub0 q (hR5.msg q hq).2.1)
          omega
        by_cases hx : x ∈ D
        · have g5' : mget m5 m.next x = some (some (.int .i64 (F x))) := by rw [g5]; simp [fmap, hx]
          obtain ⟨m6, m7, na, fo7, e6, l6, e7, O7⟩ := h5.emit (x, spare) [.int .i64 x, .int .i64 spare] 27 hol
          simp only at e6 e7
          obtain ⟨v8, m8, c8, D8, oa8, out8, fo8, q8, O8, R8, n8, s8⟩ := ring_run hR hM hR5 hx O7 hTl
          simp [-Int.natCast_add, -BitVec.toNat_or, -BitVec.toNat_ofInt, -BitVec.toNat_and, mkmap_of u40, build_of bo44, box_of b44, len_slice u22, index_slice u22 sz27, load_agg ld27, alloc_of zo27, store_of sz27, fieldAddr_of fa27_0, load_of ld3, fieldAddr_of fa27_1, fieldAddr_of fa44_0, load_of ld40, upd_int u40, fieldAddr_of fa44_1, look_int u40 u3 zv3, buildSlice_of u41 bs3 rfl, append_s u41 sz3, len_slice u41, index_slice u41 sz3, fieldAddr_of fa44_2, mkif_of ni46, mkif_of ni3, fieldAddr_of fa44_3, load_of ld22, build_of bo27, buildSlice_of u22 bs27 rfl, append_s u22 sz27, store_of sz22, hlt, hlt', em, ld, lf5, g5', lo5, e6, l6, e7, c8, wi]
          refine ih _ _ _ _ ⟨i + 1, D8, oa8, out8, fo8, _, rfl, by omega, O8, R8, ?_, rfl⟩ (by omega) ⟨by rfl, by rfl, by rfl, by rfl, by rfl, trivial⟩
          rw [et]
          intro p hp
          rcases List.mem_append.1 hp with hp | hp
          · exact fun h => hno p hp (s8 p h)
          · simp at hp; rw [hp]; exact n8
        · have g5' : mget m5 m.next x = some none := by rw [g5]; simp [fmap, hx]
          simp [-Int.natCast_add, -BitVec.toNat_or, -BitVec.toNat_ofInt, -BitVec.toNat_and, mkmap_of u40, build_of bo44, box_of b44, len_slice u22, index_slice u22 sz27, load_agg ld27, alloc_of zo27, store_of sz27, fieldAddr_of fa27_0, load_of ld3, fieldAddr_of fa27_1, fieldAddr_of fa44_0, load_of ld40, upd_int u40, fieldAddr_of fa44_1, look_int u40 u3 zv3, buildSlice_of u41 bs3 rfl, append_s u41 sz3, len_slice u41, index_slice u41 sz3, fieldAddr_of fa44_2, mkif_of ni46, mkif_of ni3, fieldAddr_of fa44_3, load_of ld22, build_of bo27, buildSlice_of u22 bs27 rfl, append_s u22 sz27, store_of sz22, hlt, hlt', em, ld, lf5, g5', wi]
          refine ih _ _ _ _ ⟨i + 1, D, oa, out, fo, _, rfl, by omega, h5, hR5, ?_, rfl⟩ (by omega) ⟨by rfl, by rfl, by rfl, by rfl, by rfl, trivial⟩
          rw [et]
          intro p hp
          rcases List.mem_append.1 hp with hp | hp
          · exact hno p hp
          · simp at hp; rw [hp]; exact hx
      · have hlt' : ¬ (i : Int) < T.length := by omega
        have ei : T.take i = T := List.take_of_length_le (by omega)
        rw [ei] at hno
        obtain ⟨lf5, ln5, la5, lo5⟩ := h5.lds
        have hD0 : D = [] := List.eq_nil_iff_forall_not_mem.2 fun p hp => hno p (hR5.sub0 p (hR5.sub p hp)) hp
        subst hD0
        simp [-Int.natCast_add, -BitVec.toNat_or, -BitVec.toNat_ofInt, -BitVec.toNat_and, mkmap_of u40, build_of bo44, box_of b44, len_slice u22, index_slice u22 sz27, load_agg ld27, alloc_of zo27, store_of sz27, fieldAddr_of fa27_0, load_of ld3, fieldAddr_of fa27_1, fieldAddr_of fa44_0, load_of ld40, upd_int u40, fieldAddr_of fa44_1, look_int u40 u3 zv3, buildSlice_of u41 bs3 rfl, append_s u41 sz3, len_slice u41, index_slice u41 sz3, fieldAddr_of fa44_2, mkif_of ni46, mkif_of ni3, fieldAddr_of fa44_3, load_of ld22, build_of bo27, buildSlice_of u22 bs27 rfl, append_s u22 sz27, store_of sz22, hlt', lo5]
        exact ⟨⟨oa, out, ⟨rfl, rfl⟩, fo, h5.out, fun hn => (h5.bo hn).1, ms, hR5.done hI4.cyc⟩, h5.k0⟩
end
end Go.Proofs.Ytkeapfbemlclmaa.base

