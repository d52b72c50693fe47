/-
  This text proves what ssa.Check answers, over the abstract run, where the order's way and the dominators' rounds come to an end.
  Condition: nothing is known of the calls ahead ('S f = []') but ssa.Name's answers.
-/
import Derived.Test.YtlogdohlcdhepaaDoorEwQ
set_option maxRecDepth 100000
set_option linter.unusedSimpArgs false
set_option linter.unusedVariables false
namespace Go.Proofs.YtlogdohlcdhepaaDoor.base
open Go.Sh gen
variable {S : Sums} {m : Mem}
def preF (u : UnT.D) : Option StS :=
  if sizeB u && stAll u then (standF u).filter fun s => vlAll u s.1 && enAll u && ldAll u else none
def checkP (u : UnT.D) (O I : List Int) : Bool := match preF u with
  | none => false
  | some s => decide (O.length = nb u) && allF (takenF u s.1 s.2.1 I) 0 (nb u)
structure TermH (u : UnT.D) (O I : List Int) : Prop where
  ord : ∃ D O', ordIt u D (ord0 u) = some O' ∧ O'.reverse = O
  on : O.length = nb u → ∀ x ∈ O, (0 : Int) ≤ x ∧ x < nb u
  dom : O.length = nb u → ∃ J D2 I', DomJ u (placeF (nb u) O) (O.drop 1) J ∧ J 0 ((List.replicate (nb u) (-1)).set 0 0) ∧ domIt u (placeF (nb u) O) (O.drop 1) D2 ((List.replicate (nb u) (-1)).set 0 0, true) = some I' ∧ I = I'.set 0 (-1)
  ii : O.length = nb u → I.length = nb u ∧ ∀ x < nb u, I.getD x 0 < nb u
  up : O.length = nb u → ∀ (a : Int) (b : Nat), b < nb u → ∃ d, d < nb u + 2 ∧ upIt I a d b = some (upF I a (nb u + 2) b)
structure Nk (S : Sums) : Prop where
  check : S 22 = []
  all : S 46 = []
  state : S 47 = []
  stand : S 48 = []
  ends : S 50 = []
  om : S 52 = []
  c : Nc S
  l : Nl S
  d : Nd S
  t : Nt S
theorem om_run (hN : Nk S) {Q : Nat → Prop} {u : UnT.D} {vo bo so : Option Addr} (hU : UAt Q m u vo bo so) (hQ : ∀ f, Q f → f < m.next) (hb0 : 0 < nb u) (hnb : nb u ≤ 1000) (hnx : NxOk u)
    {D : Nat} {O : List Int} (hO : ordIt u D (ord0 u) = some O) {cb cf : Nat} {r1 r2 r3 : Value} (hC : Own m cb (ckC u vo bo so r1 r2 r3) 99 cf) :
    ∃ v m1, callw Tryd.prog TT S 52 [.pointer (some ⟨cb, 0, none⟩)] m = some (v, m1) ∧ OrdP m m1 O.reverse v ∧ Keeps m m1 [] := by
  have lu := hC.load (off := 0) 5 (by simp)
  simp [window] at lu
  have hcu : (uCells u vo bo so).toArray = #[.int .i64 u.1, .int .i64 u.2.1, .slice vo (nv u) (nv u), .slice bo (nb u) (nb u), .slice so (ns u) (ns u)] := rfl
  obtain ⟨v, m1, c1, p1, k1⟩ := order_run hN.d.order hN.d.below hN.d.rev hU hQ hb0 hnb hnx hO
  rw [hcu] at c1
  refine fn_w 3 [] k52 hN.om rfl ?_
  simp [-Int.natCast_add, -List.map_reverse, fieldAddr_of fa99_0, load_agg ld34, lu, c1]
  exact ⟨p1, k1⟩
set_option maxHeartbeats 16000000 in
theorem check_run (hN : Nk S) {Q : Nat → Prop} {u : UnT.D} {vo bo so : Option Addr} (hU : UAt Q m u vo bo so) (hQ : ∀ f, Q f → f < m.next) (hz : SizeOk u) (hzv : nv u ≤ 20000000000000) (hzb : nb u ≤ 20000000000000) (hzs : ns u ≤ 20000000000000) {O I : List Int} (hT : ∀ s, preF u = some s → TermH u O I) :
    ∃ v m1, callw Tryd.prog TT S 22 [.agg (uCells u vo bo so).toArray] m = some (v, m1) ∧ v = .bool (checkP u O I) ∧ Keeps m m1 [] := by
  obtain ⟨oU, kU, nU⟩ := new_own (m := m) (cs := uCells u vo bo so) (e := 34) rfl
  obtain ⟨mB, hmB⟩ : ∃ mB, m.new (uCells u vo bo so) 34 = mB := ⟨_, rfl⟩
  obtain ⟨ub, hub⟩ : ∃ ub, m.next = ub := ⟨_, rfl⟩
  rw [hmB, hub] at oU nU
  rw [hmB] at kU
  have u2 := oU.load1 (off := 2) rfl
  have u3 := oU.load1 (off := 3) rfl
  have u4 := oU.load1 (off := 4) rfl
  have lu := oU.load (off := 0) 5 (by simp)
  simp [window] at lu
  obtain ⟨R, hR⟩ : ∃ R, checkP u O I = R := ⟨_, rfl⟩
  rw [hR]
  have hno : preF u = none → R = false := fun h => by rw [← hR]; unfold checkP; rw [h]
  refine fn_w 5 [26, 72, 80] k22 hN.check rfl ?_
  have hcu : (uCells u vo bo so).toArray = #[.int .i64 u.1, .int .i64 u.2.1, .slice vo (nv u) (nv u), .slice bo (nb u) (nb u), .slice so (ns u) (ns u)] := rfl
  by_cases q1 : 3000 < nv u
  · have q1' : (3000 : Int) < nv u := by omega
    have : R = false := hno (by unfold preF sizeB; simp [q1])
    rw [this]
    simp [-Int.natCast_add, box_of b34, fieldAddr_of fa34_2, load_of ld30, len_slice u30, fieldAddr_of fa34_3, load_of ld31, len_slice u31, fieldAddr_of fa34_4, load_of ld32, len_slice u32, hmB, hub, u2, q1']
    exact kU
  have q1' : ¬ (3000 : Int) < nv u := by omega
  by_cases q2 : 300 < nb u
  · have q2' : (300 : Int) < nb u := by omega
    have : R = false := hno (by unfold preF sizeB; simp [q2])
    rw [this]
    simp [-Int.natCast_add, box_of b34, fieldAddr_of fa34_2, load_of ld30, len_slice u30, fieldAddr_of fa34_3, load_of ld31, len_slice u31, fieldAddr_of fa34_4, load_of ld32, len_slice u32, hmB, hub, u2, u3, q1', q2']
    exact kU
  have q2' : ¬ (300 : Int) < nb u := by omega
  by_cases q3 : 1000 < ns u
  · have q3' : (1000 : Int) < ns u := by omega
    have : R = false := hno (by unfold preF sizeB; simp [q3])
    rw [this]
    simp [-Int.natCast_add, box_of b34, fieldAddr_of fa34_2, load_of ld30, len_slice u30, fieldAddr_of fa34_3, load_of ld31, len_slice u31, fieldAddr_of fa34_4, load_of ld32, len_slice u32, hmB, hub, u2, u3, u4, q1', q2', q3']
    exact kU
  have q3' : ¬ (1000 : Int) < ns u := by omega
  by_cases q4 : nb u = 0
  · have : R = false := hno (by unfold preF sizeB; simp [q4])
    rw [this]
    simp [-Int.natCast_add, box_of b34, fieldAddr_of fa34_2, load_of ld30, len_slice u30, fieldAddr_of fa34_3, load_of ld31, len_slice u31, fieldAddr_of fa34_4, load_of ld32, len_slice u32, hmB, hub, u2, u3, u4, q1', q3', q4]
    exact kU
  have q4' : ¬ (nb u : Int) = 0 := by omega
  have hsz : sizeB u = true := by unfold sizeB; rw [decide_eq_false q1, decide_eq_false q2, decide_eq_false q3, decide_eq_false q4]; rfl
  obtain ⟨oK, kK, nK⟩ := new_own (m := mB) (cs := ckC u vo bo so (.slice none 0 0) (.slice none 0 0) (.slice none 0 0)) (e := 99) rfl
  obtain ⟨mK, hmK⟩ : ∃ mZ, mB.new (ckC u vo bo so (.slice none 0 0) (.slice none 0 0) (.slice none 0 0)) 99 = mZ := ⟨_, rfl⟩
  obtain ⟨cb, hcb⟩ : ∃ ub, mB.next = ub := ⟨_, rfl⟩
  rw [hmK, hcb] at oK nK
  rw [hmK] at kK
  have KK := kU.trans kK
  have hUK := hU.keep KK (by simp)
  have hQK : ∀ f, Q f → f < cb := fun f hf => by have := hQ f hf; omega
  have hqc : ¬ Q cb := fun h => by have := hQK _ h; omega
  have oUK := oU.keep kK (by simp)
  have uK4 := oUK.load1 (off := 4) rfl
  simp [-Int.natCast_add, -w22_4, box_of b34, fieldAddr_of fa34_2, load_of ld30, len_slice u30, fieldAddr_of fa34_3, load_of ld31, len_slice u31, fieldAddr_of fa34_4, load_of ld32, len_slice u32, load_agg ld34, build_of bo99, box_of b99, hmB, hub, u2, u3, u4, q1', q2', q3', q4, lu, hmK, hcb]
  clear u2 u3 u4 lu
  -- the states
  have ubc : ub ≠ cb := by omega
  obtain ⟨_, m1, c1, rfl, k1⟩ := all_run (m := mK) (g := 47) (cb := cb) (n := ns u) hN.all (by omega) (fun i => stateF u (stD u i)) (fun i mF hi kF => by
    obtain ⟨_, mG, cG, rfl, kG⟩ := state_run hN.state hN.c.there hN.c.below (hUK.keep kF (by simp)) (by omega) (oK.keep kF (by simp)) hi (by omega) (stD_eq hi).symm (by rw [stD_eq hi]; exact (hz.s _ (List.getElem_mem hi)).1) (by rw [stD_eq hi]; exact (hz.s _ (List.getElem_mem hi)).2)
    exact ⟨mG, cG, kG⟩)
  have hst : stAll u = allF (fun i => stateF u (stD u i)) 0 (ns u) := rfl
  rw [← hst] at c1
  have K1 := KK.trans k1
  cases hsa : stAll u
  · rw [hsa] at c1
    have : R = false := hno (by unfold preF; rw [hsa]; simp)
    rw [this]
    simp [-Int.natCast_add, fieldAddr_of fa34_2, load_of ld30, len_slice u30, fieldAddr_of fa34_3, load_of ld31, len_slice u31, fieldAddr_of fa34_4, load_of ld32, len_slice u32, uK4, c1]
    exact K1
  rw [hsa] at c1
  -- where values stand
  have o1 := oK.keep k1 (by simp)
  have hU1 := hU.keep K1 (by simp)
  obtain ⟨_, m2, c2, ⟨rfl, hst2⟩, k2⟩ := stand_run hN.stand hN.c.below hU1 (fun f hf => by have := hQ f hf; have := K1.1; omega) (by omega) (by omega) o1 hqc (fun b hb => (hz.b b hb).1)
  have K2 : Keeps m m2 [] := K1.fresh k2 (by simp; omega)
  cases hsf : standF u with
  | none =>
    rw [hsf] at c2
    have : R = false := hno (by unfold preF; rw [hsf]; simp)
    rw [this]
    simp [-Int.natCast_add, fieldAddr_of fa34_2, load_of ld30, len_slice u30, fieldAddr_of fa34_3, load_of ld31, len_slice u31, fieldAddr_of fa34_4, load_of ld32, len_slice u32, uK4, c1, c2]
    exact K2
  | some s =>
    rw [hsf] at c2
    obtain ⟨b1, b2, f1, f2, C2, hf1, hf2⟩ := hst2 s hsf
    have hSo := standF_ok hsf
    have oU2 := (oUK.keep k1 (by simp)).keep k2 (by simp; omega)
    have uu2 := oU2.load1 (off := 2) rfl
    have hU2 := hU.keep K2 (by simp)
    -- the values
    obtain ⟨_, m3, c3, rfl, k3⟩ := all_run (m := m2) (g := 49) (cb := cb) (n := nv u) hN.all (by omega) (valF u s.1) (fun i mF hi kF => by
      obtain ⟨_, mG, cG, rfl, kG⟩ := val_run hN.c (hU2.keep kF (by simp)) (by omega) (by omega) (by omega) (C2.keep0 kF) hSo.lb hSo.bb hi (hz.v _ (valD_mem hi))
      exact ⟨mG, cG, kG⟩)
    have hvl : vlAll u s.1 = allF (valF u s.1) 0 (nv u) := rfl
    rw [← hvl] at c3
    have K3 := K2.trans k3
    cases hva : vlAll u s.1
    · rw [hva] at c3
      have : R = false := hno (by unfold preF; rw [hsf, hsz, hsa]; simp [Option.filter, hva])
      rw [this]
      simp [-Int.natCast_add, fieldAddr_of fa34_2, load_of ld30, len_slice u30, fieldAddr_of fa34_3, load_of ld31, len_slice u31, fieldAddr_of fa34_4, load_of ld32, len_slice u32, uK4, c1, c2, uu2, c3]
      exact K3
    rw [hva] at c3
    have oU3 := oU2.keep k3 (by simp)
    have uu3 := oU3.load1 (off := 3) rfl
    have hU3 := hU.keep K3 (by simp)
    have C3 := C2.keep0 k3
    -- the ends
    obtain ⟨_, m4, c4, rfl, k4⟩ := all_run (m := m3) (g := 50) (cb := cb) (n := nb u) hN.all (by omega) (fun i => endsF u (blkD u i)) (fun i mF hi kF => by
      obtain ⟨_, mG, cG, rfl, kG⟩ := ends_run hN.ends hN.c.there hN.c.below (hU3.keep kF (by simp)) (by omega) (by omega) ((C3.keep0 kF).c) hi (blkD_eq hi).symm (hz.b _ (blkD_mem hi)).2.1
      exact ⟨mG, cG, kG⟩)
    have hel : enAll u = allF (fun i => endsF u (blkD u i)) 0 (nb u) := rfl
    rw [← hel] at c4
    have K4 := K3.trans k4
    cases hea : enAll u
    · rw [hea] at c4
      have : R = false := hno (by unfold preF; rw [hsf, hsz, hsa]; simp [Option.filter, hva, hea])
      rw [this]
      simp [-Int.natCast_add, fieldAddr_of fa34_2, load_of ld30, len_slice u30, fieldAddr_of fa34_3, load_of ld31, len_slice u31, fieldAddr_of fa34_4, load_of ld32, len_slice u32, uK4, c1, c2, uu2, c3, uu3, c4]
      exact K4
    rw [hea] at c4
    have oU4 := oU3.keep k4 (by simp)
    have vv3 := oU4.load1 (off := 3) rfl
    have hU4 := hU.keep K4 (by simp)
    have C4 := C3.keep0 k4
    have hnx := nxOk_of hea
    -- where blocks lead
    obtain ⟨_, m5, c5, rfl, k5⟩ := all_run (m := m4) (g := 51) (cb := cb) (n := nb u) hN.all (by omega) (ledF u) (fun i mF hi kF => by
      obtain ⟨_, mG, cG, rfl, kG⟩ := led_run hN.l (hU4.keep kF (by simp)) (fun f hf => by have := hQ f hf; have := K4.1; have := kF.1; omega) (by omega) hnx (fun b hb => (hz.b b hb).2.2) ((C4.keep0 kF).c) hi
      exact ⟨mG, cG, kG⟩)
    have hll : ldAll u = allF (ledF u) 0 (nb u) := rfl
    rw [← hll] at c5
    have K5 := K4.trans k5
    cases hla : ldAll u
    · rw [hla] at c5
      have : R = false := hno (by unfold preF; rw [hsf, hsz, hsa]; simp [Option.filter, hva, hea, hla])
      rw [this]
      simp [-Int.natCast_add, fieldAddr_of fa34_2, load_of ld30, len_slice u30, fieldAddr_of fa34_3, load_of ld31, len_slice u31, fieldAddr_of fa34_4, load_of ld32, len_slice u32, uK4, c1, c2, uu2, c3, uu3, c4, vv3, c5]
      exact K5
    rw [hla] at c5
    have hpre : preF u = some s := by unfold preF; rw [hsf, hsz, hsa]; simp [Option.filter, hva, hea, hla]
    simp [-Int.natCast_add, -w22_6, fieldAddr_of fa34_2, load_of ld30, len_slice u30, fieldAddr_of fa34_3, load_of ld31, len_slice u31, fieldAddr_of fa34_4, load_of ld32, len_slice u32, uK4, c1, c2, uu2, c3, uu3, c4, vv3, c5]
    clear c1 c2 c3 c4 c5 uK4 uu2 uu3 vv3
    have oU5 := oU4.keep k5 (by simp)
    have hU5 := hU.keep K5 (by simp)
    have C5 := C4.keep0 k5
    have hTm := hT s hpre
    obtain ⟨D, O', hO', hOO⟩ := hTm.ord
    obtain ⟨vO, m6, c6, ⟨po, pf, rfl, _, _⟩, k6⟩ := om_run (O := O') hN hU5 (fun f hf => by have := hQ f hf; have := K5.1; omega) (by omega) (by omega) hnx hO' C5.c
    rw [hOO] at c6
    have oU6 := oU5.keep k6 (by simp)
    have w3 := oU6.load1 (off := 3) rfl
    have wu := oU6.load (off := 0) 5 (by simp)
    simp [window] at wu
    have hU6 := hU5.keep k6 (by simp)
    have C6 := C5.keep0 k6
    have K6 := K5.trans k6
    by_cases hOl : O.length = nb u
    case neg =>
      have hOl' : ¬ (O.length : Int) = nb u := by omega
      have : R = false := by rw [← hR]; unfold checkP; rw [hpre]; simp [hOl]
      rw [this]
      simp [-Int.natCast_add, fieldAddr_of fa34_3, load_of ld31, len_slice u31, len_slice u36, c6, w3, hOl']
      exact K6
    have hOl' : (O.length : Int) = nb u := by omega
    have hOle : ((O.length : Int) = nb u) ↔ True := by simp [hOl']
    obtain ⟨J, D2, I', hJ, hJ0, hD, hI⟩ := hTm.dom hOl
    obtain ⟨hIl, hIi⟩ := hTm.ii hOl
    obtain ⟨vD, m7, c7, ⟨ix, rfl, hix, hixm⟩, k7⟩ := dom_run hN.d hU6 (fun f hf => by have := hQ f hf; have := K6.1; omega) (by omega) (by omega) hnx hO' hOO (hTm.on hOl) (fun e => by rw [e] at hOl; simp at hOl; omega) (by omega) rfl hJ hJ0 hD
    rw [← hI] at hix
    rw [hcu] at c7
    have K7 := K6.trans k7
    have C7 := C6.keep0 k7
    have cb6 : cb < m6.next := C6.c.flt
    obtain ⟨m8, e8, o8, k8⟩ := store_own (r := _) rfl C7.c (off := 7) (vs := [.slice (some ⟨ix, 0, none⟩) (nb u) (nb u)]) (by simp) (by simp [one_slice])
    simp [over] at o8
    have K8 : Keeps m m8 [] := K7.fresh k8 (by simp; omega)
    have C8 : Ck3 m8 u vo bo so cb cb b1 b2 f1 f2 ix s.1 s.2.1 I := ⟨⟨C7.o1.keep k8 (by simpa using C7.n2), C7.o2.keep k8 (by simpa using C7.n3), o8, C7.n1, C7.n2, C7.n3⟩, hix.keep k8 (by simp; omega)⟩
    have hU8 := hU.keep K8 (by simp)
    have oU8 := (oU6.keep k7 (by simp)).keep k8 (by simp; omega)
    have x3 := oU8.load1 (off := 3) rfl
    have hRk : Rok u s.1 s.2.1 I := ⟨hSo.lb, hSo.lp, hIl, hSo.bb, hIi, hTm.up hOl⟩
    have hTk := tkOk_of hz hsz hsa hsf hva hea hla
    obtain ⟨_, m9, c9, rfl, k9⟩ := all_run (m := m8) (g := 54) (cb := cb) (n := nb u) hN.all (by omega) (takenF u s.1 s.2.1 I) (fun i mF hi kF => by
      obtain ⟨_, mG, cG, rfl, kG⟩ := taken_run hN.t (hU8.keep kF (by simp)) (C8.keep0 kF) hRk (by omega) (by omega) (by omega) hTk hi
      exact ⟨mG, cG, kG⟩)
    have hfin : R = allF (takenF u s.1 s.2.1 I) 0 (nb u) := by rw [← hR]; unfold checkP; rw [hpre]; simp [hOl]
    rw [← hfin] at c9
    simp [-Int.natCast_add, fieldAddr_of fa34_3, load_of ld31, len_slice u31, load_agg ld34, len_slice u36, fieldAddr_of fa99_3, store_of sz36, c6, w3, hOle, wu, c7, e8, x3, c9]
    exact K8.trans k9
end Go.Proofs.YtlogdohlcdhepaaDoor.base

