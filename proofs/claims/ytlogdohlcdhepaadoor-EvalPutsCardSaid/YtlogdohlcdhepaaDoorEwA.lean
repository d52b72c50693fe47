/-
  This text proves what ssa.checker's 'stand' answers and leaves, over the abstract run.
  Condition: nothing is known of the calls ahead ('S f = []').
-/
import Derived.Test.YtlogdohlcdhepaaDoorEvB
import Derived.Test.YtlogdohlcdhepaaDoorEvZ
set_option maxRecDepth 100000
set_option linter.unusedSimpArgs false
set_option linter.unusedVariables false
namespace Go.Proofs.YtlogdohlcdhepaaDoor.base
open Go.Sh gen
variable {S : Sums} {m : Mem}
abbrev StS := List Int × List Int × Bool × Nat
def isHead (op : Int) : Bool := decide (op = 21) || decide (op = 1)
def standV (u : UnT.D) (b k : Nat) (s : StS) (v : Int) : Option StS :=
  if !belowF v (nv u) || decide (0 ≤ s.1.getD v.toNat 0) then none else
  if (isHead (valD u v).1 && !s.2.2.1) || ((decide ((valD u v).1 = 1) != decide (b = 0)) && isHead (valD u v).1) then none else
  some (s.1.set v.toNat b, s.2.1.set v.toNat k, isHead (valD u v).1, s.2.2.2 + 1)
def standR (u : UnT.D) (b : Nat) : Nat → List Int → StS → Option StS
  | _, [], s => some s
  | k, v :: r, s => (standV u b k s v).bind (standR u b (k + 1) r)
def standB (u : UnT.D) : Nat → List BlkT.D → StS → Option StS
  | _, [], s => some s
  | b, x :: r, s => (standR u b 0 x.1 (s.1, s.2.1, true, s.2.2.2)).bind (standB u (b + 1) r)
def standF (u : UnT.D) : Option StS := (standB u 0 u.2.2.2.1 (List.replicate (nv u) (-1), List.replicate (nv u) 0, true, 0)).filter fun s => s.2.2.2 = nv u
structure CkAt (m1 : Mem) (u : UnT.D) (vo bo so : Option Addr) (r3 : Value) (cb cf b1 b2 f1 f2 : Nat) (bl pl : List Int) : Prop where
  o1 : Own m1 b1 (ints bl) 3 f1
  o2 : Own m1 b2 (ints pl) 3 f2
  c : Own m1 cb (ckC u vo bo so (.slice (some ⟨b1, 0, none⟩) (nv u) (nv u)) (.slice (some ⟨b2, 0, none⟩) (nv u) (nv u)) r3) 99 cf
  n1 : f1 ≠ f2
  n2 : f1 ≠ cf
  n3 : f2 ≠ cf
def StandP (m m1 : Mem) (u : UnT.D) (vo bo so : Option Addr) (r3 : Value) (cb cf : Nat) (v : Value) : Prop :=
  v = .bool (standF u).isSome ∧ ∀ s, standF u = some s → ∃ b1 b2 f1 f2, CkAt m1 u vo bo so r3 cb cf b1 b2 f1 f2 s.1 s.2.1 ∧ m.next ≤ f1 ∧ m.next ≤ f2
theorem standP_no {m m1 : Mem} {u : UnT.D} {vo bo so : Option Addr} {r3 : Value} {cb cf : Nat} (h : standF u = none) : StandP m m1 u vo bo so r3 cb cf (.bool false) :=
  ⟨by rw [h]; rfl, fun s hs => by rw [h] at hs; cases hs⟩
theorem CkAt.keep {m m1 : Mem} {u : UnT.D} {vo bo so : Option Addr} {r3 : Value} {cb cf b1 b2 f1 f2 : Nat} {bl pl : List Int} {fs : List Nat} (h : CkAt m u vo bo so r3 cb cf b1 b2 f1 f2 bl pl) (k : Keeps m m1 fs) (h1 : f1 ∉ fs) (h2 : f2 ∉ fs) (h3 : cf ∉ fs) : CkAt m1 u vo bo so r3 cb cf b1 b2 f1 f2 bl pl :=
  ⟨h.o1.keep k h1, h.o2.keep k h2, h.c.keep k h3, h.n1, h.n2, h.n3⟩
theorem CkAt.keep0 {m m1 : Mem} {u : UnT.D} {vo bo so : Option Addr} {r3 : Value} {cb cf b1 b2 f1 f2 : Nat} {bl pl : List Int} (h : CkAt m u vo bo so r3 cb cf b1 b2 f1 f2 bl pl) (k : Keeps m m1 []) : CkAt m1 u vo bo so r3 cb cf b1 b2 f1 f2 bl pl := h.keep k (by simp) (by simp) (by simp)
theorem CkAt.set1 {u : UnT.D} {vo bo so : Option Addr} {r3 : Value} {cb cf b1 b2 f1 f2 : Nat} {bl pl : List Int} (h : CkAt m u vo bo so r3 cb cf b1 b2 f1 f2 bl pl) {i : Nat} (hi : i < bl.length) (v : Int) :
    ∃ m1, storeRow m ⟨b1, i, none⟩ [.int .i64 v] = some m1 ∧ CkAt m1 u vo bo so r3 cb cf b1 b2 f1 f2 (bl.set i v) pl ∧ Keeps m m1 [f1] := by
  obtain ⟨m1, e1, o1, k1⟩ := own_seti h.o1 hi v
  have := h.n1; have := h.n2
  exact ⟨m1, e1, ⟨o1, h.o2.keep k1 (by simp; omega), h.c.keep k1 (by simp; omega), h.n1, h.n2, h.n3⟩, k1⟩
theorem CkAt.set2 {u : UnT.D} {vo bo so : Option Addr} {r3 : Value} {cb cf b1 b2 f1 f2 : Nat} {bl pl : List Int} (h : CkAt m u vo bo so r3 cb cf b1 b2 f1 f2 bl pl) {i : Nat} (hi : i < pl.length) (v : Int) :
    ∃ m1, storeRow m ⟨b2, i, none⟩ [.int .i64 v] = some m1 ∧ CkAt m1 u vo bo so r3 cb cf b1 b2 f1 f2 bl (pl.set i v) ∧ Keeps m m1 [f2] := by
  obtain ⟨m1, e1, o1, k1⟩ := own_seti h.o2 hi v
  have := h.n1; have := h.n3
  exact ⟨m1, e1, ⟨h.o1.keep k1 (by simp; omega), o1, h.c.keep k1 (by simp; omega), h.n1, h.n2, h.n3⟩, k1⟩
set_option maxHeartbeats 8000000 in
theorem stand_run (hS : S 48 = []) (hB : S 65 = []) {Q : Nat → Prop} {u : UnT.D} {vo bo so : Option Addr} (hU : UAt Q m u vo bo so) (hQ : ∀ f, Q f → f < m.next) (hnu : nv u ≤ 1000000) (hnb : nb u ≤ 1000) {cb cf : Nat} {r1 r2 r3 : Value} (hC : Own m cb (ckC u vo bo so r1 r2 r3) 99 cf) (hq : ¬ Q cf)
    (hbl : ∀ b ∈ u.2.2.2.1, List.length b.1 ≤ 20000000000000) :
    ∃ v m1, callw Tryd.prog TT S 48 [.pointer (some ⟨cb, 0, none⟩)] m = some (v, m1) ∧
      StandP m m1 u vo bo so r3 cb cf v ∧ Keeps m m1 [cf] := by
  have l2 := hC.load1 (off := 2) rfl
  have z1 := zeros_i64 (nv u) hnu
  rw [ints_zero] at z1
  have z2 : (nv u : Int) ≤ 9223372036854775807 := by omega
  have z3 : nv u * 8 ≤ 281474976710656 := by omega
  obtain ⟨oA, kA, nA⟩ := new_own (m := m) (cs := ints (List.replicate (nv u) 0)) (e := 3) rfl
  obtain ⟨b1, hb1⟩ : ∃ b1, m.next = b1 := ⟨_, rfl⟩
  obtain ⟨mA, hmA⟩ : ∃ mA, m.new (ints (List.replicate (nv u) 0)) 3 = mA := ⟨_, rfl⟩
  rw [hmA, hb1] at oA nA
  rw [hmA] at kA
  have hCA := hC.keep kA (by simp)
  have lA := hCA.load1 (off := 2) rfl
  obtain ⟨mB, eB, oB, kB⟩ := store_own (r := _) rfl hCA (off := 5) (vs := [.slice (some ⟨b1, 0, none⟩) (nv u) (nv u)]) (by simp) (by simp [one_slice])
  simp [over] at oB
  have lB := oB.load1 (off := 2) rfl
  obtain ⟨oC, kC, nC⟩ := new_own (m := mB) (cs := ints (List.replicate (nv u) 0)) (e := 3) rfl
  obtain ⟨b2, hb2⟩ : ∃ b2, mB.next = b2 := ⟨_, rfl⟩
  obtain ⟨mC, hmC⟩ : ∃ mC, mB.new (ints (List.replicate (nv u) 0)) 3 = mC := ⟨_, rfl⟩
  rw [hmC, hb2] at oC nC
  rw [hmC] at kC
  have hCC := oB.keep kC (by simp)
  have lC := hCC.load1 (off := 2) rfl
  obtain ⟨mD, eD, oD, kD⟩ := store_own (r := _) rfl hCC (off := 6) (vs := [.slice (some ⟨b2, 0, none⟩) (nv u) (nv u)]) (by simp) (by simp [one_slice])
  simp [over] at oD
  have lD := oD.load1 (off := 2) rfl
  have l5 := oD.load1 (off := 5) rfl
  have l3 := oD.load1 (off := 3) rfl
  have fA := oA.flt
  have fC := hC.flt
  have b12 : b1 < b2 := by have := kB.1; omega
  have K0 : Keeps m mD [cf] := keeps_mix (keeps_mix (keeps_mix kA.nil kB (by simp)) kC (by simp)) kD (by simp)
  have C0 : CkAt mD u vo bo so r3 cb cf b1 b2 b1 b2 (List.replicate (nv u) 0) (List.replicate (nv u) 0) :=
    ⟨((oA.keep kB (by simp; omega)).keep kC (by simp)).keep kD (by simp; omega), oC.keep kD (by simp; omega), oD, by omega, by omega, by omega⟩
  have hm1 : m.next ≤ b1 := by omega
  have hm2 : m.next ≤ b2 := by omega
  have cfm : cf < m.next := hC.flt
  refine fn_w 62 [62, 84, 114] k48 hS rfl ?_
  simp [-Int.natCast_add, -List.map_replicate, fieldAddr_of fa99_0, fieldAddr_of fa34_2, load_of ld30, len_slice u30, make_of u36 ap3, fieldAddr_of fa99_1, store_of sz36, fieldAddr_of fa99_2, load_of ld36, len_slice u36, l2, z1, z2, z3, hmA, hb1, lA, eB, hmC, hb2, eD, l5]
  clear oA kA nA hCA lA eB oB kB lB oC kC nC hCC lC eD kD hC l2
  refine wsem_loop 62 [62, 84, 114] (fun d E mF => ∃ (i : Nat), nv u - i = d ∧ i ≤ nv u ∧ CkAt mF u vo bo so r3 cb cf b1 b2 b1 b2 (List.replicate i (-1) ++ List.replicate (nv u - i) 0) (List.replicate (nv u) 0) ∧ Keeps m mF [cf] ∧
    E = [(0, .pointer (some ⟨cb, 0, none⟩)), (36, .int .i64 (nv u)), (37, .int .i64 (i : Int))]) _ ⟨_, ⟨0, rfl, by omega, by simpa using C0, K0, rfl⟩, ⟨by rfl, by rfl, by rfl, trivial⟩⟩ ?_
  rintro d E mF ih ⟨i, hd, hi, hF, kF, rfl⟩
  have im : (i : Int) ≤ 9223372036854775807 := by omega
  have l5 := hF.c.load1 (off := 5) rfl
  by_cases hlt : i < nv u
  · have i1 : (i : Int) < nv u := by omega
    have wi : IntKind.i64.wrap ((i : Int) + 1) = ((i + 1 : Nat) : Int) := by rw [wrap_i64 (by omega) (by omega)]; omega
    obtain ⟨mG, eG, hG, kG⟩ := hF.set1 (i := i) (by simp; omega) (-1)
    rw [fill_set _ _ _ _ hlt] at hG
    simp [-Int.natCast_add, fieldAddr_of fa99_1, load_of ld36, index_slice u36 sz3, store_of sz3, i1, im, hlt, l5, eG, wi]
    exact ih _ _ _ _ ⟨i + 1, rfl, by omega, hG, keeps_mix kF kG (by simp; omega), rfl⟩ (by omega) ⟨by rfl, by rfl, by rfl, trivial⟩
  clear ih
  have i1 : ¬ (i : Int) < nv u := by omega
  have ei : i = nv u := by omega
  rw [ei, Nat.sub_self, List.replicate_zero, List.append_nil] at hF
  have l3 := hF.c.load1 (off := 3) rfl
  have hs0 : standF u = (standB u 0 u.2.2.2.1 (List.replicate (nv u) (-1), List.replicate (nv u) 0, true, 0)).filter fun s => s.2.2.2 = nv u := rfl
  have hlen0 : (List.replicate (nv u) (-1 : Int)).length = nv u := by simp
  have hlen1 : (List.replicate (nv u) (0 : Int)).length = nv u := by simp
  simp [-Int.natCast_add, -List.map_replicate, fieldAddr_of fa99_0, fieldAddr_of fa34_3, load_of ld31, len_slice u31, i1, l3]
  generalize List.replicate (nv u) (-1 : Int) = bl0 at *
  generalize List.replicate (nv u) (0 : Int) = pl0 at *
  obtain ⟨LL, hLL⟩ : ∃ LL : Nat, LL = 20000000000000 := ⟨_, rfl⟩
  generalize hB0 : standB u 0 u.2.2.2.1 (bl0, pl0, true, 0) = R0 at *
  refine wsem_loop 62 [62, 84, 114] (fun d E mG => ∃ (b : Nat) (bl pl : List Int) (fst : Bool) (met : Nat), nb u - b = d ∧ b ≤ nb u ∧ CkAt mG u vo bo so r3 cb cf b1 b2 b1 b2 bl pl ∧ bl.length = nv u ∧ pl.length = nv u ∧ Keeps m mG [cf] ∧ met ≤ b * LL ∧ standB u b (u.2.2.2.1.drop b) (bl, pl, fst, met) = R0 ∧
    E = [(0, .pointer (some ⟨cb, 0, none⟩)), (4, .int .i64 (met : Int)), (51, .slice bo (nb u) (nb u)), (52, .int .i64 (nb u)), (53, .int .i64 (b : Int))]) _ ⟨_, ⟨0, bl0, pl0, true, 0, rfl, by omega, hF, hlen0, hlen1, kF, by omega, by rw [List.drop_zero]; exact hB0, rfl⟩, ⟨by rfl, by rfl, by rfl, by rfl, by rfl, trivial⟩⟩ ?_
  clear hF l3 kF hlen0 hlen1 l5
  rintro d E mG ih ⟨b, bl, pl, fst, met, hd, hb, hG, hbll, hpll, kG, hmet, hR, rfl⟩
  have bm : (b : Int) ≤ 9223372036854775807 := by omega
  by_cases hlt : b < nb u
  · have b1' : (b : Int) < nb u := by omega
    have wb : IntKind.i64.wrap ((b : Int) + 1) = ((b + 1 : Nat) : Int) := by rw [wrap_i64 (by omega) (by omega)]; omega
    have hUG := hU.keep kG (by simpa using hq)
    obtain ⟨bb, vo', no', po', hbo, ldb, hvo', hno', hpo'⟩ := blk_at hUG hlt
    have hbx := hbl _ (List.getElem_mem hlt)
    rw [List.drop_eq_getElem_cons hlt, standB] at hR
    generalize u.2.2.2.1[b] = X at *
    obtain ⟨l, hl⟩ : ∃ l : List Int, X.1 = l := ⟨_, rfl⟩
    rw [hl] at hR hbx hvo'
    unfold blkC at ldb
    rw [hl] at ldb
    rw [hbo] at ih ⊢
    obtain ⟨oZ, kZ, nZ⟩ := new_own (m := mG) (cs := [.slice none 0 0, .int .i64 0, .int .i64 0, .slice none 0 0, .slice none 0 0, .int .i64 0]) (e := 40) rfl
    obtain ⟨bx, hbx'⟩ : ∃ bx, mG.next = bx := ⟨_, rfl⟩
    obtain ⟨m3, e3, oX, kX⟩ := store_own (r := _) rfl oZ (off := 0) (vs := [.slice vo' l.length l.length, .int .i64 X.2.1, .int .i64 X.2.2.1, .slice no' X.2.2.2.1.length X.2.2.2.1.length, .slice po' X.2.2.2.2.1.length X.2.2.2.2.1.length, .int .i64 X.2.2.2.2.2.1]) (by simp) (by simp [one_int, one_slice])
    simp [over] at oX
    have k3 := kZ.fresh kX (by simp)
    rw [hbx'] at oX nZ e3
    have x0 := oX.load1 (off := 0) rfl
    simp [-Int.natCast_add, load_of ld36, len_slice u36, index_slice u31 sz40, load_agg ld40, alloc_of zo40, store_of sz40, fieldAddr_of fa40_0, b1', bm, hlt, ldb, hbx', e3, x0]
    have hGX := hG.keep0 k3
    have K3 : Keeps m m3 [cf] := kG.trans k3.nil
    have eR0 : R0 = none → standF u = none := fun h => by rw [hs0, h]; rfl
    refine wsem_loop 62 [62, 84, 114] (fun d2 E mH => ∃ (k : Nat) (bl pl : List Int) (fst : Bool) (met : Nat), l.length - k = d2 ∧ k ≤ l.length ∧ CkAt mH u vo (some ⟨bb, 0, none⟩) so r3 cb cf b1 b2 b1 b2 bl pl ∧ bl.length = nv u ∧ pl.length = nv u ∧ Keeps m mH [cf] ∧ Keeps m3 mH [cf, b1, b2] ∧ met ≤ b * LL + k ∧ (standR u b k (l.drop k) (bl, pl, fst, met)).bind (standB u (b + 1) (u.2.2.2.1.drop (b + 1))) = R0 ∧
      E = [(0, .pointer (some ⟨cb, 0, none⟩)), (4, .int .i64 (met : Int)), (5, .int .i64 (b : Int)), (7, .bool fst), (51, .slice (some ⟨bb, 0, none⟩) (nb u) (nb u)), (52, .int .i64 (nb u)), (53, .int .i64 (b : Int)), (59, .slice vo' l.length l.length), (60, .int .i64 l.length), (61, .int .i64 (k : Int))]) _ ⟨_, ⟨0, bl, pl, true, met, rfl, by omega, by rw [← hbo]; exact hGX, hbll, hpll, K3, .refl _ _, by omega, by rw [List.drop_zero]; exact hR, rfl⟩, ⟨by rfl, by rfl, by rfl, by rfl, by rfl, by rfl, by rfl, by rfl, by rfl, by rfl, trivial⟩⟩ ?_
    clear hR hG hGX hbll hpll hmet bl pl fst met
    rintro d2 E mH ih2 ⟨k, bl, pl, fst, met, hd2, hk, hH, hbll, hpll, kH, k3H, hmet, hR, rfl⟩
    have km : (k : Int) ≤ 9223372036854775807 := by omega
    by_cases hkt : k < l.length
    · have k1 : (k : Int) < l.length := by omega
      have wk : IntKind.i64.wrap ((k : Int) + 1) = ((k + 1 : Nat) : Int) := by rw [wrap_i64 (by omega) (by omega)]; omega
      have wm : IntKind.i64.wrap ((met : Int) + 1) = ((met + 1 : Nat) : Int) := by
        have : b * LL ≤ 1000 * LL := Nat.mul_le_mul_right _ (by omega)
        rw [wrap_i64 (by omega) (by omega)]; omega
      obtain ⟨vb, hvb, lk0⟩ := ((hvo'.keep k3 (by simp)).keep k3H (by simp; exact ⟨hq, fun h => by have := hQ _ h; omega, fun h => by have := hQ _ h; omega⟩)).get hkt
      rw [hvb] at ih2 ⊢
      obtain ⟨v, hv⟩ : ∃ v, l.getD k 0 = v := ⟨_, rfl⟩
      rw [hv] at lk0
      have hdrop : l.drop k = v :: l.drop (k + 1) := by
        rw [List.drop_eq_getElem_cons hkt, ← hv, List.getD_eq_getElem?_getD, List.getElem?_eq_getElem hkt]; rfl
      rw [hdrop, standR] at hR
      have br := fun k n => below_run (m := mH) hB k n
      have hc2 := hH.c.load1 (off := 2) rfl
      have hc5 := hH.c.load1 (off := 5) rfl
      have hc6 := hH.c.load1 (off := 6) rfl
      by_cases hbv : belowF v (nv u) = true
      case neg =>
        have hbv' : belowF v (nv u) = false := by simpa using hbv
        have hno : standF u = none := eR0 (by rw [← hR]; simp [standV, hbv'])
        simp [-Int.natCast_add, fieldAddr_of fa99_0, fieldAddr_of fa34_2, load_of ld30, len_slice u30, fieldAddr_of fa99_1, load_of ld36, index_slice u36 sz3, load_of ld3, k1, km, hkt, lk0, hc2, br, hbv']
        exact ⟨standP_no hno, kH⟩
      have hbv2 := hbv
      unfold belowF at hbv2
      simp only [Bool.and_eq_true, decide_eq_true_eq] at hbv2
      obtain ⟨n, rfl⟩ : ∃ n : Nat, v = (n : Int) := ⟨v.toNat, by omega⟩
      have hn : n < nv u := by omega
      have hn1 : (n : Int) < nv u := by omega
      have hn2 : (n : Int) ≤ 9223372036854775807 := by omega
      have lb1 := hH.o1.load1 (off := n) (ints_at (by omega))
      obtain ⟨w, hw⟩ : ∃ w, bl.getD n 0 = w := ⟨_, rfl⟩
      rw [hw] at lb1
      by_cases hw0 : 0 ≤ w
      · have hno : standF u = none := eR0 (by rw [← hR]; simp [standV, hbv, hw, hw0, -List.getD_eq_getElem?_getD])
        simp [-Int.natCast_add, -List.getD_eq_getElem?_getD, fieldAddr_of fa99_0, fieldAddr_of fa34_2, load_of ld30, len_slice u30, fieldAddr_of fa99_1, load_of ld36, index_slice u36 sz3, load_of ld3, k1, km, hkt, lk0, hc2, hc5, br, hbv, hn2, hn, lb1, hw0]
        exact ⟨standP_no hno, kH⟩
      have hno1 : isHead (valD u (n : Int)).1 && !fst = true ∨ (decide ((valD u (n : Int)).1 = 1) != decide (b = 0)) && isHead (valD u (n : Int)).1 = true → standF u = none := fun h => eR0 (by
        rw [← hR, standV, if_neg (by simp [hbv, hw, hw0, -List.getD_eq_getElem?_getD]), if_pos (by simpa using h)]; rfl)
      have hgo : ¬ (isHead (valD u (n : Int)).1 && !fst = true ∨ (decide ((valD u (n : Int)).1 = 1) != decide (b = 0)) && isHead (valD u (n : Int)).1 = true) → (standR u b (k + 1) (l.drop (k + 1)) (bl.set n b, pl.set n k, isHead (valD u (n : Int)).1, met + 1)).bind (standB u (b + 1) (u.2.2.2.1.drop (b + 1))) = R0 := fun h => by
        rw [← hR, standV, if_neg (by simp [hbv, hw, hw0, -List.getD_eq_getElem?_getD]), if_neg (by simpa using h)]; rfl
      obtain ⟨xb, ao', fa, hxv, ldx, _, _⟩ := val_at (hU.keep kH (by simpa using hq)) hn
      have lop := load_sub (k := 0) ldx rfl
      rw [Nat.add_zero] at lop
      rw [valD_eq hn] at hno1 hgo
      obtain ⟨o, ho⟩ : ∃ o : Int, (u.2.2.1[n]).1 = o := ⟨_, rfl⟩
      rw [ho] at lop
      rw [show (u.2.2.1[n]).1 = o from ho] at hno1 hgo
      obtain ⟨mI, eI, hI, kI⟩ := hH.set1 (i := n) (by omega) b
      obtain ⟨mJ, eJ, hJ, kJ⟩ := hI.set2 (i := n) (by omega) k
      have ic5 := hI.c.load1 (off := 5) rfl
      have ic6 := hI.c.load1 (off := 6) rfl
      have ic2 := hI.c.load1 (off := 2) rfl
      rw [hxv] at hc2 ic2
      clear hv hdrop hbx' nZ
      have hgoal : ∀ (hd : Bool), isHead o = hd → (¬ (isHead o && !fst = true ∨ (decide (o = 1) != decide (b = 0)) && isHead o = true)) → ∃ (k' : Nat) (bl pl : List Int) (fst : Bool) (met' : Nat), l.length - k' = l.length - (k + 1) ∧ k' ≤ l.length ∧ CkAt mJ u vo (some ⟨bb, 0, none⟩) so r3 cb cf b1 b2 b1 b2 bl pl ∧ bl.length = nv u ∧ pl.length = nv u ∧ Keeps m mJ [cf] ∧ Keeps m3 mJ [cf, b1, b2] ∧ met' ≤ b * LL + k' ∧ (standR u b k' (l.drop k') (bl, pl, fst, met')).bind (standB u (b + 1) (u.2.2.2.1.drop (b + 1))) = R0 ∧
          [(0, Value.pointer (some ⟨cb, 0, none⟩)), (4, .int .i64 ((met + 1 : Nat) : Int)), (5, .int .i64 (b : Int)), (7, .bool hd), (51, .slice (some ⟨bb, 0, none⟩) (nb u) (nb u)), (52, .int .i64 (nb u)), (53, .int .i64 (b : Int)), (59, .slice (some ⟨vb, 0, none⟩) l.length l.length), (60, .int .i64 l.length), (61, .int .i64 ((k + 1 : Nat) : Int))] = [(0, Value.pointer (some ⟨cb, 0, none⟩)), (4, .int .i64 (met' : Int)), (5, .int .i64 (b : Int)), (7, .bool fst), (51, .slice (some ⟨bb, 0, none⟩) (nb u) (nb u)), (52, .int .i64 (nb u)), (53, .int .i64 (b : Int)), (59, .slice (some ⟨vb, 0, none⟩) l.length l.length), (60, .int .i64 l.length), (61, .int .i64 (k' : Int))] := by
        intro hd e hn
        exact ⟨k + 1, _, _, hd, met + 1, rfl, by omega, hJ, by simpa using hbll, by simpa using hpll, keeps_mix (keeps_mix kH kI (by simp; omega)) kJ (by simp; omega), (k3H.trans (kI.mono (by simp))).trans (kJ.mono (by simp)), by omega, by rw [← e]; exact hgo hn, rfl⟩
      by_cases c21 : o = 21
      case' pos => have c1 : ¬ o = 1 := by omega
      case' neg => by_cases c1 : o = 1
      all_goals
        by_cases c0 : b = 0
        case' pos => have c0' : b = 0 ↔ True := ⟨fun _ => trivial, fun _ => c0⟩
        case' neg => have c0' := c0
        all_goals
          cases fst
          all_goals
            simp [-Int.natCast_add, -List.getD_eq_getElem?_getD, fieldAddr_of fa99_0, fieldAddr_of fa34_2, load_of ld30, len_slice u30, fieldAddr_of fa99_1, fieldAddr_of fa99_2, load_of ld36, index_slice u36 sz3, store_of sz3, load_of ld3, index_slice u30 sz38, fieldAddr_of fa38_0, bin_bool u4 .neq (Or.inr rfl), k1, km, hkt, lk0, hc2, hc5, hc6, br, hbv, hn2, hn, lb1, hw0, lop, c21, c1, c0', eI, eJ, wm, wk]
            first
              | exact ⟨standP_no (hno1 (by simp [isHead, c21, c1, c0])), kH⟩
              | exact ih2 _ _ _ _ (hgoal true (by simp [isHead, c21, c1]) (by simp [isHead, c21, c1, c0])) (by omega) ⟨by rfl, by rfl, by rfl, by rfl, by rfl, by rfl, by rfl, by rfl, by rfl, by rfl, trivial⟩
              | exact ih2 _ _ _ _ (hgoal false (by simp [isHead, c21, c1]) (by simp [isHead, c21, c1, c0])) (by omega) ⟨by rfl, by rfl, by rfl, by rfl, by rfl, by rfl, by rfl, by rfl, by rfl, by rfl, trivial⟩
    · clear ih2
      have k1 : ¬ (k : Int) < l.length := by omega
      have ek : k = l.length := by omega
      rw [List.drop_of_length_le (by omega), standR, Option.bind_some] at hR
      simp [-Int.natCast_add, -List.getD_eq_getElem?_getD, k1, wb]
      have hmm : met ≤ (b + 1) * LL := by rw [Nat.add_mul]; omega
      exact ih _ _ _ _ ⟨b + 1, bl, pl, fst, met, rfl, by omega, hH, hbll, hpll, kH, hmm, hR, rfl⟩ (by omega) ⟨by rfl, by rfl, by rfl, by rfl, by rfl, trivial⟩
  clear ih
  have b1' : ¬ (b : Int) < nb u := by omega
  have hc2 := hG.c.load1 (off := 2) rfl
  rw [List.drop_of_length_le (Nat.not_lt.1 hlt), standB] at hR
  rw [← hR] at hs0
  simp [-Int.natCast_add, -List.getD_eq_getElem?_getD, fieldAddr_of fa99_0, fieldAddr_of fa34_2, load_of ld30, len_slice u30, b1', hc2]
  refine ⟨?_, kG⟩
  by_cases hme : met = nv u
  · have : standF u = some (bl, pl, fst, met) := by rw [hs0]; simp [Option.filter, hme]
    refine ⟨by rw [this]; simp [hme], fun s hs => ?_⟩
    rw [this, Option.some.injEq] at hs
    subst hs
    exact ⟨b1, b2, b1, b2, hG, hm1, hm2⟩
  · have : standF u = none := by rw [hs0]; simp [Option.filter, hme]
    have hne : ¬ (met : Int) = nv u := by omega
    simp only [hne, decide_false]
    exact standP_no this
end Go.Proofs.YtlogdohlcdhepaaDoor.base

