/-
  This text proves what ssa.Ahead answers, over the abstract run.
  Condition: nothing is known of the calls ahead ('S f = []').
-/
import Derived.Test.YtlogdohlcdhepaaDoorEwD
set_option maxRecDepth 100000
set_option linter.unusedSimpArgs false
set_option linter.unusedVariables false
namespace Go.Proofs.YtlogdohlcdhepaaDoor.base
open Go.Sh gen
variable {S : Sums} {m : Mem}
def rowsC (ao : Nat → Option Addr) (L : List (List Int)) : List Value := (List.range L.length).map fun i => .slice (ao i) (L.getD i []).length (L.getD i []).length
structure Rows (m0 m : Mem) (ob of : Nat) (ao : Nat → Option Addr) (fm : Nat → Nat) (L : List (List Int)) : Prop where
  own : Own m ob (rowsC ao L) 36 of
  row : ∀ i < L.length, Sl m (ao i) (L.getD i []).length (ints (L.getD i [])) 3 1 (fm i)
  fr : ∀ i < L.length, ao i ≠ none → m0.next ≤ fm i ∧ fm i < m.next ∧ fm i ≠ of
  inj : ∀ i < L.length, ∀ j < L.length, i ≠ j → ao i ≠ none → ao j ≠ none → fm i ≠ fm j
  ofr : m0.next ≤ of
theorem rowsC_len (ao : Nat → Option Addr) (L : List (List Int)) : (rowsC ao L).length = L.length := by simp [rowsC]
theorem rowsC_at (ao : Nat → Option Addr) {L : List (List Int)} {k : Nat} (h : k < L.length) : (rowsC ao L)[k]? = some (.slice (ao k) (L.getD k []).length (L.getD k []).length) := by
  simp [rowsC, h]
theorem getD_set_ne {L : List (List Int)} {k i : Nat} {x : List Int} (h : i ≠ k) : (L.set k x).getD i [] = L.getD i [] := by
  simp [List.getD_eq_getElem?_getD, Ne.symm h]
theorem getD_set_eq {L : List (List Int)} {k : Nat} {x : List Int} (h : k < L.length) : (L.set k x).getD k [] = x := by
  simp [List.getD_eq_getElem?_getD, h]
theorem rowsC_set (ao : Nat → Option Addr) {L : List (List Int)} {k : Nat} (h : k < L.length) (a : Option Addr) (x : List Int) : over (rowsC ao L) k [.slice a x.length x.length] = rowsC (fun i => if i = k then a else ao i) (L.set k x) := by
  have e : over (rowsC ao L) k [.slice a x.length x.length] = (rowsC ao L).set k (.slice a x.length x.length) := by simp [over, List.set_eq_take_append_cons_drop, rowsC_len, h]
  rw [e]
  apply List.ext_getElem?
  intro i
  rw [List.getElem?_set, rowsC_len]
  by_cases hi : i < L.length
  · have hi' : i < (L.set k x).length := by simpa using hi
    rw [rowsC_at _ hi', rowsC_at _ hi]
    by_cases e : i = k
    · subst e
      rw [getD_set_eq hi]; simp [hi]
    · rw [getD_set_ne e, if_neg (Ne.symm e), if_neg e]
  · rw [if_neg (by omega), List.getElem?_eq_none (by rw [rowsC_len]; omega), List.getElem?_eq_none (by rw [rowsC_len]; simpa using hi)]
theorem Rows.app {m0 : Mem} {ob of : Nat} {ao : Nat → Option Addr} {fm : Nat → Nat} {L : List (List Int)} (h : Rows m0 m ob of ao fm L) (k0 : Keeps m0 m []) {k : Nat} (hk : k < L.length) (hl : (L.getD k []).length ≤ 1000000) (v : Int) {r : Option (Value × Mem)}
    (hr : sappend Tryd.prog 36 (m.new [.int .i64 v] 3) (.slice (ao k) (L.getD k []).length (L.getD k []).length) [.int .i64 v] 1 = r) :
    ∃ m1 b' m2 fm', r = some (.slice (some ⟨b', 0, none⟩) ((L.getD k []).length + 1) ((L.getD k []).length + 1), m1) ∧ storeRow m1 ⟨ob, k, none⟩ [.slice (some ⟨b', 0, none⟩) ((L.getD k []).length + 1) ((L.getD k []).length + 1)] = some m2 ∧
      Rows m0 m2 ob of (fun i => if i = k then some ⟨b', 0, none⟩ else ao i) fm' (L.set k (L.getD k [] ++ [v])) ∧ Keeps m0 m2 [] ∧ ∃ fs, (∀ f ∈ fs, m0.next ≤ f) ∧ Keeps m m2 fs := by
  have hs := h.row k hk
  obtain ⟨m1, b', fam', rfl, o1, k1, c1, c2, c3⟩ := app_slz hr u36 ap3 hs (by omega) (by simp) (by simp [one_int]) (by omega) (by omega)
  have hof : of ∉ (if ao k = none then [] else [fm k]) := by
    split
    · simp
    · rename_i hn; have := (h.fr k hk hn).2.2; simp; omega
  have own1 := h.own.keep k1 hof
  have hx : (L.getD k [] ++ [v]).length = (L.getD k []).length + 1 := by simp
  obtain ⟨m2, e2, o2, k2⟩ := store_own (r := _) rfl own1 (off := k) (vs := [.slice (some ⟨b', 0, none⟩) (L.getD k [] ++ [v]).length (L.getD k [] ++ [v]).length]) (by simp [rowsC_len]; omega) (by simp [one_slice])
  rw [rowsC_set ao hk] at o2
  rw [hx] at e2
  have ofl := h.own.flt
  have m01 : m0.next ≤ m.next := k0.1
  have mm1 : m.next ≤ m1.next := k1.1
  have m12 : m1.next ≤ m2.next := k2.1
  have hfr : fam' ≠ of ∧ m0.next ≤ fam' ∧ fam' < m2.next := by
    rcases c1 with ⟨hn, e⟩ | c1
    · have := h.fr k hk hn; rw [e]; exact ⟨this.2.2, this.1, by omega⟩
    · exact ⟨by omega, by omega, by omega⟩
  have hne : ∀ j < L.length, j ≠ k → ao j ≠ none → fam' ≠ fm j := by
    intro j hj hjk hjn
    rcases c1 with ⟨hn, e⟩ | c1
    · rw [e]; exact h.inj k hk j hj (Ne.symm hjk) hn hjn
    · have := (h.fr j hj hjn).2.1; omega
  have hfs : ∀ f ∈ of :: (if ao k = none then [] else [fm k]), m0.next ≤ f := by
    intro f hf
    rcases List.mem_cons.1 hf with rfl | hf
    · exact h.ofr
    · split at hf
      · simp at hf
      · rename_i hn
        simp at hf
        rw [hf]; exact (h.fr k hk hn).1
  refine ⟨m1, b', m2, fun i => if i = k then fam' else fm i, rfl, e2, ⟨o2, ?_, ?_, ?_, h.ofr⟩, ?_, _, hfs, (k1.mono (fun x hx => by simp [hx])).trans (k2.mono (by simp))⟩
  · intro i hi
    rw [List.length_set] at hi
    by_cases e : i = k
    · subst e
      rw [getD_set_eq hi, if_pos rfl, if_pos rfl]
      have := o1.keep k2 (by simp; exact hfr.1)
      exact Sl.of (by simpa using this) (by simp)
    · rw [getD_set_ne e, if_neg e, if_neg e]
      have h1 := (h.row i hi).keepz k1 (fun hn => by
        split
        · simp
        · rename_i hkn; simp; exact h.inj i hi k hk e hn hkn)
      exact h1.keepz k2 (fun hn => by have := (h.fr i hi hn).2.2; simp; exact this)
  · intro i hi hn
    rw [List.length_set] at hi
    by_cases e : i = k
    · subst e
      rw [if_pos rfl]
      exact ⟨hfr.2.1, hfr.2.2, hfr.1⟩
    · rw [if_neg e]
      rw [if_neg e] at hn
      have := h.fr i hi hn
      exact ⟨this.1, by omega, this.2.2⟩
  · intro i hi j hj hij hin hjn
    rw [List.length_set] at hi hj
    by_cases e : i = k
    · subst e
      rw [if_pos rfl, if_neg (Ne.symm hij)]
      rw [if_neg (Ne.symm hij)] at hjn
      exact hne j hj (Ne.symm hij) hjn
    · rw [if_neg e]
      rw [if_neg e] at hin
      by_cases e2 : j = k
      · subst e2
        rw [if_pos rfl]
        exact Ne.symm (hne i hi e hin)
      · rw [if_neg e2]
        rw [if_neg e2] at hjn
        exact h.inj i hi j hj hij hin hjn
  · have h1 : Keeps m0 m1 [] := k0.fresh k1 (fun f hf => by
      split at hf
      · simp at hf
      · rename_i hn
        simp at hf
        rw [hf]; exact (h.fr k hk hn).1)
    exact h1.fresh k2 (fun f hf => by simp at hf; rw [hf]; exact h.ofr)
def aheadS (i : Nat) (L : List (List Int)) (k : Int) : List (List Int) := L.set k.toNat (L.getD k.toNat [] ++ [(i : Int)])
def aheadB : Nat → List BlkT.D → List (List Int) → List (List Int)
  | _, [], L => L
  | i, b :: r, L => aheadB (i + 1) r ((show List Int from b.2.2.2.1).foldl (aheadS i) L)
def aheadF (u : UnT.D) : List (List Int) := aheadB 0 u.2.2.2.1 (List.replicate (nb u) [])
def NxOk (u : UnT.D) : Prop := ∀ b ∈ u.2.2.2.1, List.length b.2.2.2.1 ≤ 2 ∧ ∀ k ∈ (show List Int from b.2.2.2.1), (0 : Int) ≤ k ∧ k < (nb u : Int)
theorem rows_zero (n : Nat) : List.replicate n (Value.slice none 0 0) = rowsC (fun _ => none) (List.replicate n []) := by
  apply List.ext_getElem?
  intro i
  by_cases hi : i < n
  · rw [rowsC_at _ (by simpa using hi), List.getElem?_replicate, if_pos hi]
    simp [List.getD_eq_getElem?_getD, hi]
  · rw [List.getElem?_eq_none (by simp; omega), List.getElem?_eq_none (by rw [rowsC_len]; simp; omega)]
theorem zeros_rows (k : Nat) (hk : k ≤ 1000000) : zerosOf Tryd.prog 36 k = some (List.replicate k (Value.slice none 0 0)) := zeros_of (bt := 24) (by kernel_rfl) k (by omega)
def RowsP (m m1 : Mem) (L : List (List Int)) (v : Value) : Prop := ∃ ob of ao fm, v = .slice (some ⟨ob, 0, none⟩) L.length L.length ∧ Rows m m1 ob of ao fm L
set_option maxHeartbeats 8000000 in
theorem ahead_run (hS : S 70 = []) (hB : S 65 = []) {Q : Nat → Prop} {u : UnT.D} {vo bo so : Option Addr} (hU : UAt Q m u vo bo so) (hQ : ∀ f, Q f → f < m.next) (hnb : nb u ≤ 1000) (hnx : NxOk u) :
    ∃ v m1, callw Tryd.prog TT S 70 [.agg (uCells u vo bo so).toArray] m = some (v, m1) ∧ RowsP m m1 (aheadF u) v ∧ Keeps m m1 [] := by
  obtain ⟨oU, kU, nU⟩ := new_own (m := m) (cs := uCells u vo bo so) (e := 34) rfl
  obtain ⟨mB, hmB⟩ : ∃ mB, m.new (uCells u vo bo so) 34 = mB := ⟨_, rfl⟩
  obtain ⟨ub, hub⟩ : ∃ ub, m.next = ub := ⟨_, rfl⟩
  rw [hmB, hub] at oU nU
  rw [hmB] at kU
  have u3 := oU.load1 (off := 3) rfl
  have hz := zeros_rows (nb u) (by omega)
  rw [rows_zero] at hz
  have n1 : (nb u : Int) ≤ 9223372036854775807 := by omega
  have n2 : nb u * 24 ≤ 281474976710656 := by omega
  obtain ⟨oW, kW, nW⟩ := new_own (m := mB) (cs := rowsC (fun _ => none) (List.replicate (nb u) [])) (e := 36) rfl
  obtain ⟨ob, hob⟩ : ∃ ob, mB.next = ob := ⟨_, rfl⟩
  obtain ⟨mD, hmD⟩ : ∃ mD, mB.new (rowsC (fun _ => none) (List.replicate (nb u) [])) 36 = mD := ⟨_, rfl⟩
  rw [hmD, hob] at oW nW
  rw [hmD] at kW
  have u3D := (oU.keep kW (by simp)).load1 (off := 3) rfl
  refine fn_w 24 [24, 30] k70 hS rfl ?_
  simp [-Int.natCast_add, -List.map_replicate, box_of b34, fieldAddr_of fa34_3, load_of ld31, len_slice u31, make_of u112 ap36, hmB, hub, u3, hz, n1, n2, hmD, hob, u3D]
  have R0 : Rows m mD ob ob (fun _ => none) (fun _ => 0) (List.replicate (nb u) []) := ⟨oW, fun i hi => by
      rw [List.length_replicate] at hi
      rw [List.getD_eq_getElem?_getD, List.getElem?_replicate, if_pos hi]
      exact Sl.nil _ _ _ _, fun i _ h => absurd rfl h, fun i _ j _ _ h => absurd rfl h, by have := kU.1; omega⟩
  have K0 : Keeps m mD [] := kU.trans kW
  have hgd0 : ∀ k, ((List.replicate (nb u) ([] : List Int)).getD k []).length ≤ 2 * 0 := by
    intro k
    rw [List.getD_eq_getElem?_getD, List.getElem?_replicate]
    split <;> simp
  obtain ⟨L0, hL0⟩ : ∃ L0 : List (List Int), L0 = List.replicate (nb u) [] := ⟨_, rfl⟩
  have hlen0 : L0.length = nb u := by rw [hL0]; simp
  have hA : aheadB 0 u.2.2.2.1 L0 = aheadF u := by rw [hL0]; rfl
  rw [← hL0] at R0 hgd0
  obtain ⟨A, hA'⟩ : ∃ A, aheadF u = A := ⟨_, rfl⟩
  rw [hA'] at hA ⊢
  refine wsem_loop 24 [24, 30] (fun d E mF => ∃ (i : Nat) (ao : Nat → Option Addr) (fm : Nat → Nat) (L : List (List Int)), nb u - i = d ∧ i ≤ nb u ∧ Rows m mF ob ob ao fm L ∧ L.length = nb u ∧ Keeps m mF [] ∧ (∀ k, (L.getD k []).length ≤ 2 * i) ∧ aheadB i (u.2.2.2.1.drop i) L = A ∧
    E = [(3, .slice (some ⟨ob, 0, none⟩) (nb u) (nb u)), (13, .slice bo (nb u) (nb u)), (14, .int .i64 (nb u)), (15, .int .i64 (i : Int))]) _ ⟨_, ⟨0, _, _, L0, rfl, by omega, R0, hlen0, K0, hgd0, by rw [List.drop_zero]; exact hA, rfl⟩, ⟨by rfl, by rfl, by rfl, by rfl, trivial⟩⟩ ?_
  clear R0 K0 hgd0 hlen0 hA hL0
  rintro d E mF ih ⟨i, ao, fm, L, hd, hi, hF, hL, kF, hg, hr, rfl⟩
  have im : (i : Int) ≤ 9223372036854775807 := by omega
  by_cases hlt : i < nb u
  · have i1 : (i : Int) < nb u := by omega
    have wi : IntKind.i64.wrap ((i : Int) + 1) = ((i + 1 : Nat) : Int) := by rw [wrap_i64 (by omega) (by omega)]; omega
    obtain ⟨bb, vo', no', po', hbo, ldb, _, hno', _⟩ := blk_at (hU.keep kF (by simp)) hlt
    have hbx := hnx _ (List.getElem_mem hlt)
    rw [List.drop_eq_getElem_cons hlt, aheadB] at hr
    generalize u.2.2.2.1[i] = X at *
    obtain ⟨l, hl⟩ : ∃ l : List Int, X.2.2.2.1 = l := ⟨_, rfl⟩
    rw [show (show List Int from X.2.2.2.1) = l from hl] at hr hbx
    rw [hl] at hno' hbx
    unfold blkC at ldb
    rw [hl] at ldb
    rw [hbo] at ih ⊢
    obtain ⟨oZ, kZ, nZ⟩ := new_own (m := mF) (cs := [.slice none 0 0, .int .i64 0, .int .i64 0, .slice none 0 0, .slice none 0 0, .int .i64 0]) (e := 40) rfl
    obtain ⟨bx, hbx'⟩ : ∃ bx, mF.next = bx := ⟨_, rfl⟩
    obtain ⟨m3, e3, oX, kX⟩ := store_own (r := _) rfl oZ (off := 0) (vs := [.slice vo' X.1.length X.1.length, .int .i64 X.2.1, .int .i64 X.2.2.1, .slice no' l.length l.length, .slice po' X.2.2.2.2.1.length X.2.2.2.2.1.length, .int .i64 X.2.2.2.2.2.1]) (by simp) (by simp [one_int, one_slice])
    simp [over] at oX
    have k3 := kZ.fresh kX (by simp)
    rw [hbx'] at oX nZ e3
    have x3 := oX.load1 (off := 3) rfl
    simp [-Int.natCast_add, index_slice u31 sz40, load_agg ld40, alloc_of zo40, store_of sz40, fieldAddr_of fa40_3, load_of ld36, len_slice u36, i1, im, hlt, ldb, hbx', e3, x3]
    have K3 : Keeps m m3 [] := kF.trans k3
    have R3 : Rows m m3 ob ob ao fm L := ⟨hF.own.keep k3 (by simp), fun i hi => (hF.row i hi).keep k3 (by simp), fun i hi h => ⟨(hF.fr i hi h).1, by have := (hF.fr i hi h).2.1; have := k3.1; omega, (hF.fr i hi h).2.2⟩, hF.inj, hF.ofr⟩
    have hno3 := hno'.keep k3 (by simp)
    refine wsem_loop 24 [24, 30] (fun d2 E mG => ∃ (j : Nat) (ao : Nat → Option Addr) (fm : Nat → Nat) (L : List (List Int)), l.length - j = d2 ∧ j ≤ l.length ∧ Rows m mG ob ob ao fm L ∧ L.length = nb u ∧ Keeps m mG [] ∧ IntsAt Q mG no' l ∧ (∀ k, (L.getD k []).length ≤ 2 * i + j) ∧ aheadB (i + 1) (u.2.2.2.1.drop (i + 1)) ((l.drop j).foldl (aheadS i) L) = A ∧
      E = [(3, .slice (some ⟨ob, 0, none⟩) (nb u) (nb u)), (4, .int .i64 (i : Int)), (13, .slice (some ⟨bb, 0, none⟩) (nb u) (nb u)), (14, .int .i64 (nb u)), (15, .int .i64 (i : Int)), (21, .slice no' l.length l.length), (22, .int .i64 l.length), (23, .int .i64 (j : Int))]) _ ⟨_, ⟨0, ao, fm, L, rfl, by omega, R3, hL, K3, hno3, by simpa using hg, by rw [List.drop_zero]; exact hr, rfl⟩, ⟨by rfl, by rfl, by rfl, by rfl, by rfl, by rfl, by rfl, by rfl, trivial⟩⟩ ?_
    clear R3 hF hL hg hr
    rintro d2 E mG ih2 ⟨j, ao, fm, L, hd2, hj, hG, hL, kG, k3G, hg, hr, rfl⟩
    have jm : (j : Int) ≤ 9223372036854775807 := by omega
    by_cases hjt : j < l.length
    · have j1 : (j : Int) < l.length := by omega
      have wj : IntKind.i64.wrap ((j : Int) + 1) = ((j + 1 : Nat) : Int) := by rw [wrap_i64 (by omega) (by omega)]; omega
      obtain ⟨xb, rfl, lj⟩ := k3G.get hjt
      rw [drop_getD hjt, List.foldl_cons] at hr
      have hkb := hbx.2 _ (getD_mem hjt)
      obtain ⟨k, hk⟩ : ∃ k : Nat, l.getD j 0 = (k : Int) := ⟨(l.getD j 0).toNat, by omega⟩
      rw [hk] at lj hr hkb
      have hkn : k < nb u := by omega
      have hkL : k < L.length := by omega
      have k1 : (k : Int) < nb u := by omega
      have k2 : (k : Int) ≤ 9223372036854775807 := by omega
      have br := below_run (m := mG) hB k (nb u)
      have hbt : belowF (k : Int) (nb u) = true := by unfold belowF; simp; omega
      rw [hbt] at br
      have lrow := hG.own.load1 (off := k) (rowsC_at ao hkL)
      have lrow2 := (hG.own.new_other [.int .i64 (i : Int)] 3).load1 (off := k) (rowsC_at ao hkL)
      have hgk := hg k
      have eS : aheadS i L (k : Int) = L.set k (L.getD k [] ++ [(i : Int)]) := by unfold aheadS; rw [Int.toNat_natCast]
      rw [eS] at hr
      have hap := fun r => hG.app kG hkL (by omega) (i : Int) (r := r)
      have hgS : ∀ k', ((L.set k (L.getD k [] ++ [(i : Int)])).getD k' []).length ≤ 2 * i + (j + 1) := by
        intro k'
        by_cases e : k' = k
        · subst e
          rw [getD_set_eq hkL, List.length_append]; simp only [List.length_cons, List.length_nil]; omega
        · rw [getD_set_ne e]; have := hg k'; omega
      obtain ⟨row, hrow⟩ : ∃ row, L.getD k [] = row := ⟨_, rfl⟩
      rw [hrow] at lrow lrow2 hap hgk hgS hr
      simp [-Int.natCast_add, -List.getD_eq_getElem?_getD, load_of ld36, index_slice u36 sz3, load_of ld3, len_slice u112, index_slice u112 sz36, buildSlice_of u36 bs3 rfl, append_s u36 sz3, j1, jm, hjt, lj, br, k2, hkn, lrow]
      generalize hra : sappend _ _ _ _ _ _ = ra
      obtain ⟨m1, b', m2, fm', rfl, e2, R2, K2, fs, hfs, kfs⟩ := hap ra hra
      simp [-Int.natCast_add, -List.getD_eq_getElem?_getD, index_slice u112 sz36, store_of sz36, k2, hkn, e2, wj]
      exact ih2 _ _ _ _ ⟨j + 1, _, fm', _, rfl, by omega, R2, by simpa using hL, K2, k3G.keep kfs (fun f hf hq => by have := hQ f hq; have := hfs f hf; omega), hgS, hr, rfl⟩ (by omega) ⟨by rfl, by rfl, by rfl, by rfl, by rfl, by rfl, by rfl, by rfl, trivial⟩
    clear ih2
    have j1 : ¬ (j : Int) < l.length := by omega
    rw [List.drop_of_length_le (show l.length ≤ j by omega), List.foldl_nil] at hr
    simp [-Int.natCast_add, -List.getD_eq_getElem?_getD, j1, wi]
    exact ih _ _ _ _ ⟨i + 1, ao, fm, L, rfl, by omega, hG, hL, kG, fun k => by have := hg k; have := hbx.1; omega, hr, rfl⟩ (by omega) ⟨by rfl, by rfl, by rfl, by rfl, trivial⟩
  clear ih
  have i1 : ¬ (i : Int) < nb u := by omega
  rw [List.drop_of_length_le (Nat.not_lt.1 hlt), aheadB] at hr
  simp [-Int.natCast_add, -List.getD_eq_getElem?_getD, i1]
  rw [← hr]
  exact ⟨⟨ob, ob, ao, fm, by rw [hL], hF⟩, kF⟩
end Go.Proofs.YtlogdohlcdhepaaDoor.base

