/-
  This text proves what ssa.checker's 'led' answers, over the abstract run.
  Condition: nothing is known of the calls ahead ('S f = []').
-/
import Derived.Test.YtlogdohlcdhepaaDoorEwE
import Derived.Test.YtlogdohlcdhepaaDoorEvY
set_option maxRecDepth 100000
set_option linter.unusedSimpArgs false
set_option linter.unusedVariables false
namespace Go.Proofs.YtlogdohlcdhepaaDoor.base
open Go.Sh gen
variable {S : Sums} {m : Mem}
theorem aheadR_len (i : Nat) (l : List Int) (L : List (List Int)) : (l.foldl (aheadS i) L).length = L.length := by
  induction l generalizing L with
  | nil => rfl
  | cons a r ih => rw [List.foldl_cons, ih]; simp [aheadS]
theorem aheadB_len (i : Nat) (bs : List BlkT.D) (L : List (List Int)) : (aheadB i bs L).length = L.length := by
  induction bs generalizing i L with
  | nil => rfl
  | cons b r ih => rw [aheadB, ih, aheadR_len]
theorem aheadF_len (u : UnT.D) : (aheadF u).length = nb u := by unfold aheadF; rw [aheadB_len]; simp
theorem aheadS_row {i : Nat} {k : Int} {L : List (List Int)} {c : Nat} (h : ∀ j, (L.getD j []).length ≤ c) (j : Nat) : ((aheadS i L k).getD j []).length ≤ c + 1 := by
  unfold aheadS
  by_cases e : j = k.toNat
  · subst e
    by_cases hj : k.toNat < L.length
    · rw [getD_set_eq hj, List.length_append]; have := h k.toNat; simp only [List.length_cons, List.length_nil]; omega
    · rw [List.set_eq_of_length_le (by omega)]; have := h k.toNat; omega
  · rw [getD_set_ne e]; have := h j; omega
theorem aheadR_row {i : Nat} (l : List Int) {L : List (List Int)} {c : Nat} (h : ∀ j, (L.getD j []).length ≤ c) (j : Nat) : ((l.foldl (aheadS i) L).getD j []).length ≤ c + l.length := by
  induction l generalizing L c with
  | nil => exact h j
  | cons a r ih => rw [List.foldl_cons, List.length_cons]; have := ih (aheadS_row (i := i) (k := a) h); omega
theorem aheadB_row {i : Nat} (bs : List BlkT.D) (hb : ∀ b ∈ bs, List.length b.2.2.2.1 ≤ 2) {L : List (List Int)} {c : Nat} (h : ∀ j, (L.getD j []).length ≤ c) (j : Nat) : ((aheadB i bs L).getD j []).length ≤ c + 2 * bs.length := by
  induction bs generalizing i L c with
  | nil => exact h j
  | cons b r ih =>
    rw [aheadB, List.length_cons]
    have h2 := hb b (by simp)
    have := ih (i := i + 1) (fun x hx => hb x (by simp [hx])) (aheadR_row (i := i) (show List Int from b.2.2.2.1) h)
    have e : (show List Int from b.2.2.2.1).length = List.length b.2.2.2.1 := rfl
    rw [e] at this
    omega
theorem aheadF_row {u : UnT.D} (h : NxOk u) (hnb : nb u ≤ 1000) (j : Nat) : ((aheadF u).getD j []).length ≤ 1000000 := by
  have := aheadB_row (i := 0) u.2.2.2.1 (fun b hb => (h b hb).1) (L := List.replicate (nb u) []) (c := 0) (fun j => by rw [List.getD_eq_getElem?_getD, List.getElem?_replicate]; split <;> simp) j
  have e : nb u = List.length u.2.2.2.1 := rfl
  unfold aheadF
  omega
theorem Rows.ints {m0 : Mem} {ob of : Nat} {ao : Nat → Option Addr} {fm : Nat → Nat} {L : List (List Int)} (h : Rows m0 m ob of ao fm L) {k : Nat} (hk : k < L.length) : IntsAt (fun f => m0.next ≤ f) m (ao k) (L.getD k []) := by
  have h1 := h.row k hk
  refine ⟨fm k, h1.rs, fun hl => (h.fr k hk (fun e => ?_)).1⟩
  rcases h1.2 with h2 | ⟨b, h2, _⟩
  · exact hl h2.2
  · rw [h2] at e; cases e
theorem Rows.keep {m0 m1 : Mem} {ob of : Nat} {ao : Nat → Option Addr} {fm : Nat → Nat} {L : List (List Int)} {fs : List Nat} (h : Rows m0 m ob of ao fm L) (k : Keeps m m1 fs) (hf : ∀ f ∈ fs, f < m0.next ∨ m.next ≤ f) : Rows m0 m1 ob of ao fm L :=
  ⟨h.own.keep k (fun hx => by have := h.ofr; have := h.own.flt; rcases hf _ hx with h | h <;> omega), fun i hi => (h.row i hi).keepz k (fun hn hx => by have := h.fr i hi hn; rcases hf _ hx with h | h <;> omega),
    fun i hi hn => ⟨(h.fr i hi hn).1, by have := (h.fr i hi hn).2.1; have := k.1; omega, (h.fr i hi hn).2.2⟩, h.inj, h.ofr⟩
abbrev nxD (u : UnT.D) (i : Nat) : List Int := (blkD u i).2.2.2.1
abbrev prD (u : UnT.D) (i : Nat) : List Int := (blkD u i).2.2.2.2.1
def ledA (u : UnT.D) (k : Nat) : Bool := eqF ((aheadF u).getD k []) (prD u k) && !(decide (k = 0) && decide (0 < ((aheadF u).getD k []).length))
def ledB (u : UnT.D) (e : Int) (k : Int) : Bool := !(decide (e = 2) && !decide ((prD u k.toNat).length = 1))
def ledF (u : UnT.D) (i : Nat) : Bool := (!decide (i = 0) || allF (ledA u) 0 (nb u)) && (nxD u i).all (ledB u (blkD u i).2.1)
structure Nl (S : Sums) : Prop where
  led : S 51 = []
  ahead : S 70 = []
  below : S 65 = []
  equal : S 71 = []
set_option maxHeartbeats 8000000 in
theorem led_run (hN : Nl S) {Q : Nat → Prop} {u : UnT.D} {vo bo so : Option Addr} (hU : UAt Q m u vo bo so) (hQ : ∀ f, Q f → f < m.next) (hnb : nb u ≤ 1000) (hnx : NxOk u) (hpl : ∀ b ∈ u.2.2.2.1, List.length b.2.2.2.2.1 ≤ 20000000000000) {cb cf : Nat} {r1 r2 r3 : Value} (hC : Own m cb (ckC u vo bo so r1 r2 r3) 99 cf) {i : Nat} (hi : i < nb u) :
    ∃ v m1, callw Tryd.prog TT S 51 [.pointer (some ⟨cb, 0, none⟩), .int .i64 (i : Int)] m = some (v, m1) ∧ v = .bool (ledF u i) ∧ Keeps m m1 [] := by
  have lu := hC.load (off := 0) 5 (by simp)
  simp [window] at lu
  have hcu : (uCells u vo bo so).toArray = #[.int .i64 u.1, .int .i64 u.2.1, .slice vo (nv u) (nv u), .slice bo (nb u) (nb u), .slice so (ns u) (ns u)] := rfl
  obtain ⟨vA, mA, cA, ⟨ob, of, ao, fm, rfl, hA⟩, kA⟩ := ahead_run hN.ahead hN.below hU hQ hnb hnx
  rw [hcu, aheadF_len] at cA
  have bi : (nb u : Int) ≤ 9223372036854775807 := by omega
  refine fn_w 57 [57, 75] k51 hN.led rfl ?_
  obtain ⟨R, hR⟩ : ∃ R, ledF u i = R := ⟨_, rfl⟩
  rw [hR]
  apply cut1_ (fun (mX : Mem) => (!decide (i = 0) || allF (ledA u) 0 (nb u)) = true ∧ Keeps m mX [])
  case main =>
    by_cases hi0 : i = 0
    case pos =>
      have hi0' : i = 0 ↔ True := by simp [hi0]
      have eR : allF (ledA u) 0 (nb u) = false → R = false := fun h => by rw [← hR]; unfold ledF; rw [h]; simp [hi0]
      have hAk : ∀ k < nb u, IntsAt (fun f => m.next ≤ f) mA (ao k) ((aheadF u).getD k []) := fun k hk => hA.ints (by rw [aheadF_len]; exact hk)
      have hAo : Own mA ob (rowsC ao (aheadF u)) 36 of := hA.own
      have hAc : ∀ k < nb u, (rowsC ao (aheadF u))[k]? = some (.slice (ao k) ((aheadF u).getD k []).length ((aheadF u).getD k []).length) := fun k hk => rowsC_at _ (by rw [aheadF_len]; exact hk)
      have hUA := hU.keep kA (by simp)
      have hCA0 := hC.keep kA (by simp)
      have hAl : ∀ k, ((aheadF u).getD k []).length ≤ 1000000 := aheadF_row hnx hnb
      intro meth
      simp [-Int.natCast_add, -w51_8, fieldAddr_of fa99_0, load_agg ld34, len_slice u112, hi0', lu, cA]
      refine wsem_loop 57 [57, 75] (fun d E mF => ∃ (k : Nat), nb u - k = d ∧ k ≤ nb u ∧ allF (ledA u) k (nb u - k) = allF (ledA u) 0 (nb u) ∧ Keeps mA mF [] ∧
        E = [(0, .pointer (some ⟨cb, 0, none⟩)), (1, .int .i64 (i : Int)), (16, .slice (some ⟨ob, 0, none⟩) (nb u) (nb u)), (17, .int .i64 (nb u)), (18, .int .i64 (k : Int))]) _ ⟨_, ⟨0, rfl, by omega, rfl, .refl _ _, rfl⟩, ⟨by rfl, by rfl, by rfl, by rfl, by rfl, trivial⟩⟩ ?_
      rintro d E mF ih ⟨k, hd, hk, ha, kF, rfl⟩
      have km : (k : Int) ≤ 9223372036854775807 := by omega
      by_cases hkt : k < nb u
      · have k1 : (k : Int) < nb u := by omega
        have wk : IntKind.i64.wrap ((k : Int) + 1) = ((k + 1 : Nat) : Int) := by rw [wrap_i64 (by omega) (by omega)]; omega
        obtain ⟨e, he⟩ : ∃ e, nb u - k = e + 1 := ⟨nb u - k - 1, by omega⟩
        have he2 : nb u - (k + 1) = e := by omega
        rw [he, allF] at ha
        have lrow := (hAo.keep kF (by simp)).load1 (off := k) (hAc k hkt)
        obtain ⟨bb, vo', no', po', hbo, ldb, _, _, hpo'⟩ := blk_at (hUA.keep kF (by simp)) hkt
        have ldp := load_sub (k := 4) ldb rfl
        have hplk := hpl _ (List.getElem_mem hkt)
        have eP : prD u k = (u.2.2.2.1[k]).2.2.2.2.1 := by unfold prD; rw [blkD_eq hkt]
        rw [← eP] at ldp hpo' hplk
        have ceq := equal_run hN.equal ((hAk k hkt).keep kF (by simp)) hpo' (by have := hAl k; omega) hplk
        have hla : ledA u k = (eqF ((aheadF u).getD k []) (prD u k) && !(decide (k = 0) && decide (0 < ((aheadF u).getD k []).length))) := rfl
        obtain ⟨a, ha'⟩ : ∃ a, (aheadF u).getD k [] = a := ⟨_, rfl⟩
        obtain ⟨p, hp'⟩ : ∃ p, prD u k = p := ⟨_, rfl⟩
        rw [ha'] at ceq lrow hla
        rw [hp'] at ceq ldp hla
        have hCA' := (hCA0.keep kF (by simp)).load1 (off := 3) rfl
        rw [hbo] at hCA'
        obtain ⟨q, hq⟩ : ∃ q, eqF a p = q := ⟨_, rfl⟩
        rw [hq] at ceq hla
        cases q
        case false =>
          have hRf : R = false := eR (by rw [← ha, hla]; rfl)
          rw [hRf]
          simp [-Int.natCast_add, -List.getD_eq_getElem?_getD, -w51_8, fieldAddr_of fa99_0, index_slice u112 sz36, load_of ld36, fieldAddr_of fa34_3, load_of ld31, index_slice u31 sz40, fieldAddr_of fa40_4, len_slice u36, k1, km, hkt, lrow, hCA', ldp, ceq]
          exact kA.trans kF
        by_cases k0 : k = 0
        · have k0' : k = 0 ↔ True := by simp [k0]
          by_cases al : 0 < a.length
          · have al' : (0 : Int) < a.length := by omega
            have hRf : R = false := eR (by rw [← ha, hla]; simp [k0, al])
            rw [hRf]
            simp [-Int.natCast_add, -List.getD_eq_getElem?_getD, -w51_8, fieldAddr_of fa99_0, index_slice u112 sz36, load_of ld36, fieldAddr_of fa34_3, load_of ld31, index_slice u31 sz40, fieldAddr_of fa40_4, len_slice u36, k1, km, hkt, lrow, hCA', ldp, ceq, k0', al]
            exact kA.trans kF
          · have al' : ¬ (0 : Int) < a.length := by omega
            simp [-Int.natCast_add, -List.getD_eq_getElem?_getD, -w51_8, fieldAddr_of fa99_0, index_slice u112 sz36, load_of ld36, fieldAddr_of fa34_3, load_of ld31, index_slice u31 sz40, fieldAddr_of fa40_4, len_slice u36, k1, km, hkt, lrow, hCA', ldp, ceq, k0', al, wk]
            exact ih _ _ _ _ ⟨k + 1, rfl, by omega, by rw [he2, ← ha, hla]; simp [k0, al], kF, rfl⟩ (by omega) ⟨by rfl, by rfl, by rfl, by rfl, by rfl, trivial⟩
        · simp [-Int.natCast_add, -List.getD_eq_getElem?_getD, -w51_8, fieldAddr_of fa99_0, index_slice u112 sz36, load_of ld36, fieldAddr_of fa34_3, load_of ld31, index_slice u31 sz40, fieldAddr_of fa40_4, len_slice u36, k1, km, hkt, lrow, hCA', ldp, ceq, k0, wk]
          exact ih _ _ _ _ ⟨k + 1, rfl, by omega, by rw [he2, ← ha, hla]; simp [k0], kF, rfl⟩ (by omega) ⟨by rfl, by rfl, by rfl, by rfl, by rfl, trivial⟩
      clear ih
      have k1 : ¬ (k : Int) < nb u := by omega
      rw [show nb u - k = 0 by omega] at ha
      simp [-Int.natCast_add, -w51_8, k1]
      exact w_sub (E := [(0, .pointer (some ⟨cb, 0, none⟩)), (1, .int .i64 (i : Int))]) (meth mF ⟨by rw [← ha]; simp [allF], kA.trans kF⟩) ⟨by rfl, by rfl, trivial⟩
    case neg =>
      intro meth
      simp [-Int.natCast_add, -w51_8, hi0]
      exact w_sub (E := [(0, .pointer (some ⟨cb, 0, none⟩)), (1, .int .i64 (i : Int))]) (meth m ⟨by simp [hi0], .refl _ _⟩) ⟨by rfl, by rfl, trivial⟩
  intro mX ⟨h0, kX⟩
  have eR2 : R = (nxD u i).all (ledB u (blkD u i).2.1) := by rw [← hR]; unfold ledF; rw [h0, Bool.true_and]
  have hUX := hU.keep kX (by simp)
  have hCX := hC.keep kX (by simp)
  obtain ⟨bb, vo', no', po', hbo, ldb, hvo', hno', hpo'⟩ := blk_at hUX hi
  have hbx := hnx _ (List.getElem_mem hi)
  have eb : blkD u i = u.2.2.2.1[i] := blkD_eq hi
  rw [← eb] at ldb hno' hbx
  obtain ⟨X, hX⟩ : ∃ X, blkD u i = X := ⟨_, rfl⟩
  have eR3 : R = (show List Int from X.2.2.2.1).all (ledB u X.2.1) := by rw [eR2]; unfold nxD; rw [hX]
  rw [hX] at ldb hno' hbx
  clear eR2 eb hvo' hpo'
  obtain ⟨l, hl⟩ : ∃ l : List Int, X.2.2.2.1 = l := ⟨_, rfl⟩
  obtain ⟨e, he⟩ : ∃ e : Int, X.2.1 = e := ⟨_, rfl⟩
  rw [show (show List Int from X.2.2.2.1) = l from hl, he] at eR3
  have hbx2 : ∀ k ∈ l, (0 : Int) ≤ k ∧ k < (nb u : Int) := by rw [← hl]; exact hbx.2
  have hll : l.length ≤ 2 := by rw [← hl]; exact hbx.1
  clear hbx
  rw [hl] at hno'
  unfold blkC at ldb
  rw [hl, he] at ldb
  have c3 := hCX.load1 (off := 3) rfl
  rw [hbo] at c3
  have i1 : (i : Int) < nb u := by omega
  have i2 : (i : Int) ≤ 9223372036854775807 := by omega
  obtain ⟨oZ, kZ, nZ⟩ := new_own (m := mX) (cs := [.slice none 0 0, .int .i64 0, .int .i64 0, .slice none 0 0, .slice none 0 0, .int .i64 0]) (e := 40) rfl
  obtain ⟨bx, hbx'⟩ : ∃ bx, mX.next = bx := ⟨_, rfl⟩
  obtain ⟨m3, e3, oX, kX3⟩ := store_own (r := _) rfl oZ (off := 0) (vs := [.slice vo' X.1.length X.1.length, .int .i64 e, .int .i64 X.2.2.1, .slice no' l.length l.length, .slice po' X.2.2.2.2.1.length X.2.2.2.2.1.length, .int .i64 X.2.2.2.2.2.1]) (by simp) (by simp [one_int, one_slice])
  simp [over] at oX
  have k3 := kZ.fresh kX3 (by simp)
  rw [hbx'] at oX nZ e3
  have x3 := oX.load1 (off := 3) rfl
  have x1 := oX.load1 (off := 1) rfl
  have hno3 := hno'.keep k3 (by simp)
  have hU3 := hUX.keep k3 (by simp)
  have c33 := (hCX.keep k3 (by simp)).load1 (off := 3) rfl
  have K3 := kX.trans k3
  simp [-Int.natCast_add, fieldAddr_of fa99_0, load_of ld36, fieldAddr_of fa34_3, load_of ld31, index_slice u31 sz40, len_slice u36, load_agg ld40, alloc_of zo40, store_of sz40, fieldAddr_of fa40_3, c3, i2, hi, ldb, hbx', e3, x3]
  refine wsem_loop 57 [57, 75] (fun d E mF => ∃ (j : Nat), l.length - j = d ∧ j ≤ l.length ∧ mF = m3 ∧ (l.drop j).all (ledB u e) = R ∧
    E = [(0, .pointer (some ⟨cb, 0, none⟩)), (7, .pointer (some ⟨bx, 0, none⟩)), (54, .slice no' l.length l.length), (55, .int .i64 l.length), (56, .int .i64 (j : Int))]) _ ⟨_, ⟨0, rfl, by omega, rfl, by rw [List.drop_zero]; exact eR3.symm, rfl⟩, ⟨by rfl, by rfl, by rfl, by rfl, by rfl, trivial⟩⟩ ?_
  rintro d E mF ih ⟨j, hd, hj, rfl, ha, rfl⟩
  have jm : (j : Int) ≤ 9223372036854775807 := by omega
  by_cases hlt : j < l.length
  · have j1 : (j : Int) < l.length := by omega
    have wj : IntKind.i64.wrap ((j : Int) + 1) = ((j + 1 : Nat) : Int) := by rw [wrap_i64 (by omega) (by omega)]; omega
    obtain ⟨lb, rfl, li⟩ := hno3.get hlt
    rw [drop_getD hlt, List.all_cons] at ha
    have hkb := hbx2 _ (getD_mem hlt)
    obtain ⟨k, hk⟩ : ∃ k : Nat, l.getD j 0 = (k : Int) := ⟨(l.getD j 0).toNat, by omega⟩
    rw [hk] at li ha hkb
    have hkn : k < nb u := by omega
    have k1 : (k : Int) < nb u := by omega
    have k2 : (k : Int) ≤ 9223372036854775807 := by omega
    obtain ⟨bb2, vo2, no2, po2, hbo2, ldb2, _, _, _⟩ := blk_at hU3 hkn
    have ldp := load_sub (k := 4) ldb2 rfl
    have eP : prD u k = (u.2.2.2.1[k]).2.2.2.2.1 := by unfold prD; rw [blkD_eq hkn]
    rw [← eP] at ldp
    have hlb : ledB u e (k : Int) = !(decide (e = 2) && !decide ((prD u k).length = 1)) := by unfold ledB; rw [Int.toNat_natCast]
    rw [hlb] at ha
    have c34 := c33
    rw [hbo2] at c34
    obtain ⟨pn, hpn⟩ : ∃ pn, (prD u k).length = pn := ⟨_, rfl⟩
    rw [hpn] at ldp ha
    by_cases e2 : e = 2
    · by_cases p1 : pn = 1
      · have p1' : (pn : Int) = 1 := by omega
        simp [-Int.natCast_add, -List.getD_eq_getElem?_getD, fieldAddr_of fa99_0, load_of ld36, fieldAddr_of fa34_3, load_of ld31, index_slice u31 sz40, fieldAddr_of fa40_4, len_slice u36, index_slice u36 sz3, load_of ld3, fieldAddr_of fa40_1, j1, jm, hlt, li, x1, e2, c34, k2, hkn, ldp, p1, wj]
        exact ih _ _ _ _ ⟨j + 1, rfl, by omega, rfl, by rw [← ha]; simp [p1], rfl⟩ (by omega) ⟨by rfl, by rfl, by rfl, by rfl, by rfl, trivial⟩
      · have p1' : ¬ (pn : Int) = 1 := by omega
        have hRf : R = false := by rw [← ha]; simp [e2, p1]
        rw [hRf]
        simp [-Int.natCast_add, -List.getD_eq_getElem?_getD, fieldAddr_of fa99_0, load_of ld36, fieldAddr_of fa34_3, load_of ld31, index_slice u31 sz40, fieldAddr_of fa40_4, len_slice u36, index_slice u36 sz3, load_of ld3, fieldAddr_of fa40_1, j1, jm, hlt, li, x1, e2, c34, k2, hkn, ldp, p1']
        exact K3
    · simp [-Int.natCast_add, -List.getD_eq_getElem?_getD, fieldAddr_of fa99_0, load_of ld36, fieldAddr_of fa34_3, load_of ld31, index_slice u31 sz40, fieldAddr_of fa40_4, len_slice u36, index_slice u36 sz3, load_of ld3, fieldAddr_of fa40_1, j1, jm, hlt, li, x1, e2, wj]
      exact ih _ _ _ _ ⟨j + 1, rfl, by omega, rfl, by rw [← ha]; simp [e2], rfl⟩ (by omega) ⟨by rfl, by rfl, by rfl, by rfl, by rfl, trivial⟩
  clear ih
  have j1 : ¬ (j : Int) < l.length := by omega
  rw [List.drop_of_length_le (by omega), List.all_nil] at ha
  rw [← ha]
  simp [-Int.natCast_add, -List.getD_eq_getElem?_getD, j1]
  exact K3
end Go.Proofs.YtlogdohlcdhepaaDoor.base

