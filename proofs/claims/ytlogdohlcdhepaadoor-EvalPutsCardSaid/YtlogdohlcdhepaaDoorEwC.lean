/-
  This text proves what ssa.checker's 'val' answers, over the abstract run.
  Condition: nothing is known of the calls ahead ('S f = []') but ssa.Name's answers.
-/
import Derived.Test.YtlogdohlcdhepaaDoorEwB
set_option maxRecDepth 100000
set_option linter.unusedSimpArgs false
set_option linter.unusedVariables false
namespace Go.Proofs.YtlogdohlcdhepaaDoor.base
open Go.Sh gen
variable {S : Sums} {m : Mem}
def isOp (op : Int) : Bool := decide (1 ≤ op) && decide (op ≤ 23)
def NmOk (S : Sums) : Prop := ∀ (m : Mem) (op : Int), ∃ s : List UInt8, callw Tryd.prog TT S 66 [.int .i64 op] m = some (.string ⟨s.toArray⟩, m) ∧ (s = [] ↔ isOp op = false)
def predsN (u : UnT.D) (b : Int) : Nat := List.length (blkD u b.toNat).2.2.2.2.1
def valF (u : UnT.D) (bl : List Int) (i : Nat) : Bool :=
  isOp (valD u i).1 && thereF u (usesV (valD u i)) && (!lvs (valD u i).1 || belowF (show Int from (valD u i).2.2.2.2.2.1) (ns u)) &&
  (if (valD u i).1 = 20 then decide (List.length (valD u i).2.2.2.2.1 = 1) else
   if (valD u i).1 = 21 then decide (List.length (valD u i).2.2.2.2.1 = predsN u (bl.getD i 0)) else
   if (valD u i).1 = 1 then decide (0 ≤ (show Int from (valD u i).2.2.2.1)) && decide ((show Int from (valD u i).2.2.2.1) < 40) && !((show List ValT.D from u.2.2.1).take i).any (sameN (show Int from (valD u i).2.2.2.1)) else true)
theorem usesF_len (op a b : Int) (l : List Int) : (usesF op a b l).length ≤ l.length + 2 := by
  rw [usesF_eq, List.length_append]
  have h1 : ([a, b].take (partsF op)).length ≤ 2 := by simp; omega
  have h2 : (if op = 20 then l.take 1 else if op = 21 then l else []).length ≤ l.length := by
    split
    · simp; omega
    · split <;> simp
  omega
structure Nc (S : Sums) : Prop where
  name : NmOk S
  uses : S 58 = []
  parts : S 76 = []
  there : S 64 = []
  below : S 65 = []
  leaves : S 67 = []
  cont : S 68 = []
  idx : S 81 = []
  val1 : S 69 = []
  val : S 49 = []
set_option maxHeartbeats 8000000 in
theorem val_run (hN : Nc S) {Q : Nat → Prop} {u : UnT.D} {vo bo so : Option Addr} (hU : UAt Q m u vo bo so) (hnu : nv u ≤ 1000000) (hnb : nb u ≤ 1000) (hns : ns u ≤ 1000000) {r3 : Value} {cb cf b1 b2 f1 f2 : Nat} {bl pl : List Int} (hC : CkAt m u vo bo so r3 cb cf b1 b2 f1 f2 bl pl)
    (hbl : bl.length = nv u) (hbb : ∀ i < nv u, 0 ≤ bl.getD i 0 ∧ bl.getD i 0 < nb u) {i : Nat} (hi : i < nv u) (hal : (valD u i).2.2.2.2.1.length * 8 ≤ 140737488351232) :
    ∃ v m1, callw Tryd.prog TT S 49 [.pointer (some ⟨cb, 0, none⟩), .int .i64 (i : Int)] m = some (v, m1) ∧ v = .bool (valF u bl i) ∧ Keeps m m1 [] := by
  obtain ⟨xb, ao, fa, hvo, ldx, hra, hqa⟩ := val_at hU hi
  have hb1 := hbb i hi
  have hvi := valD_eq hi
  unfold valF
  rw [hvi] at hal ⊢
  rw [← hvi] at ldx hra hqa hal ⊢
  obtain ⟨X, hX⟩ : ∃ X, valD u (i : Int) = X := ⟨_, rfl⟩
  rw [hX] at ldx hra hqa hal ⊢
  obtain ⟨o, ho⟩ : ∃ o : Int, X.1 = o := ⟨_, rfl⟩
  obtain ⟨a, ha⟩ : ∃ o : Int, X.2.1 = o := ⟨_, rfl⟩
  obtain ⟨b, hb⟩ : ∃ o : Int, X.2.2.1 = o := ⟨_, rfl⟩
  obtain ⟨n, hn⟩ : ∃ o : Int, X.2.2.2.1 = o := ⟨_, rfl⟩
  obtain ⟨l, hl⟩ : ∃ o : List Int, X.2.2.2.2.1 = o := ⟨_, rfl⟩
  obtain ⟨st, hst⟩ : ∃ o : Int, X.2.2.2.2.2.1 = o := ⟨_, rfl⟩
  have hus : usesV X = usesF o a b l := by unfold usesV; rw [ho, ha, hb, hl]
  rw [hus, show (show Int from X.2.2.2.2.2.1) = st from hst, show (show Int from X.2.2.2.1) = n from hn, ho, show List.length X.2.2.2.2.1 = l.length by rw [hl]]
  unfold valC at ldx
  rw [ho, ha, hb, hn, hst, hl] at ldx
  rw [hl] at hra hqa hal
  have c2 := hC.c.load1 (off := 2) rfl
  rw [hvo] at c2
  have i1 : (i : Int) < nv u := by omega
  have i2 : (i : Int) ≤ 9223372036854775807 := by omega
  obtain ⟨oZ, kZ, nZ⟩ := new_own (m := m) (cs := [.int .i64 0, .int .i64 0, .int .i64 0, .int .i64 0, .slice none 0 0, .int .i64 0]) (e := 38) rfl
  obtain ⟨bx, hbx⟩ : ∃ bx, m.next = bx := ⟨_, rfl⟩
  obtain ⟨m3, e3, oX, kX⟩ := store_own (r := _) rfl oZ (off := 0) (vs := [.int .i64 o, .int .i64 a, .int .i64 b, .int .i64 n, .slice ao l.length l.length, .int .i64 st]) (by simp) (by simp [one_int, one_slice])
  simp [over] at oX
  have k3 := kZ.fresh kX (by simp)
  rw [hbx] at oX nZ e3
  have lx := oX.load (off := 0) 6 (by simp)
  simp [window] at lx
  have x0 := oX.load1 (off := 0) rfl
  have x3 := oX.load1 (off := 3) rfl
  have x4 := oX.load1 (off := 4) rfl
  have x5 := oX.load1 (off := 5) rfl
  obtain ⟨s, nm, hs⟩ := hN.name m3 o
  have hC3 := hC.keep0 k3
  have hU3 := hU.keep k3 (by simp)
  obtain ⟨v4, m4, c4, ⟨uo, uf, rfl, hru⟩, k4⟩ := uses_run (m := m3) hN.uses hN.parts (op := o) (a := a) (b := b) (n := n) (st := st) hal (hra.keep k3 (by simp))
  have hC4 := hC3.keep0 k4
  have hU4 := hU3.keep k4 (by simp)
  have hul := usesF_len o a b l
  obtain ⟨L, hL⟩ : ∃ L, usesF o a b l = L := ⟨_, rfl⟩
  rw [hL] at hul
  have hLl : L.length ≤ 20000000000000 := by omega
  rw [hL] at c4 hru ⊢
  have t4 := there_run (m := m4) (Q2 := fun _ => True) hN.there hN.below hU4 hnu (hC4.c.load1 (off := 2) rfl) hLl ⟨uf, hru, fun _ => trivial⟩
  have br := fun k n => below_run (m := m4) hN.below k n
  have lv3 := lvs_run (m := m3) hN.leaves o
  have lv4 := lvs_run (m := m4) hN.leaves o
  have oX4 := oX.keep k4 (by simp)
  have y0 := oX4.load1 (off := 0) rfl
  have y3 := oX4.load1 (off := 3) rfl
  have y4 := oX4.load1 (off := 4) rfl
  have y5 := oX4.load1 (off := 5) rfl
  have ly := oX4.load (off := 0) 6 (by simp)
  simp [window] at ly
  have c4' := hC4.c.load1 (off := 4) rfl
  have c43 := hC3.c.load1 (off := 4) rfl
  refine fn_w 44 [44, 50, 72] k49 hN.val rfl ?_
  by_cases hop : isOp o = true
  case neg =>
    have hop' : isOp o = false := by simpa using hop
    have s0 := hs.2 hop'
    subst s0
    rw [hop']
    simp [-Int.natCast_add, fieldAddr_of fa99_0, fieldAddr_of fa34_2, load_of ld30, index_slice u30 sz38, load_agg ld38, alloc_of zo38, store_of sz38, fieldAddr_of fa38_0, load_of ld3, fieldAddr_of fa38_5, fieldAddr_of fa34_4, load_of ld32, len_slice u32, c2, i2, hi, ldx, hbx, e3, x0, nm]
    exact k3
  have s0 : s.isEmpty = false := by
    cases hse : s.isEmpty
    · rfl
    · rw [hs.1 (List.isEmpty_iff.1 hse)] at hop; cases hop
  rw [hop, Bool.true_and]
  obtain ⟨T, hT⟩ : ∃ T, thereF u L = T := ⟨_, rfl⟩
  rw [hT] at t4 ⊢
  cases T
  · simp [-Int.natCast_add, fieldAddr_of fa99_0, fieldAddr_of fa34_2, load_of ld30, index_slice u30 sz38, load_agg ld38, alloc_of zo38, store_of sz38, fieldAddr_of fa38_0, load_of ld3, fieldAddr_of fa38_5, fieldAddr_of fa34_4, load_of ld32, len_slice u32, c2, i2, hi, ldx, hbx, e3, x0, nm, s0, lx, c4, t4]
    exact k3.trans k4
  obtain ⟨B, hB⟩ : ∃ B, belowF st (ns u) = B := ⟨_, rfl⟩
  obtain ⟨V, hV⟩ : ∃ V, lvs o = V := ⟨_, rfl⟩
  rw [hB, hV]
  rw [hV] at lv3 lv4
  have br4 := br st (ns u)
  rw [hB] at br4
  by_cases hVB : V = true ∧ B = false
  case pos =>
    obtain ⟨rfl, rfl⟩ := hVB
    simp [-Int.natCast_add, fieldAddr_of fa99_0, fieldAddr_of fa34_2, load_of ld30, index_slice u30 sz38, load_agg ld38, alloc_of zo38, store_of sz38, fieldAddr_of fa38_0, load_of ld3, fieldAddr_of fa38_5, fieldAddr_of fa34_4, load_of ld32, len_slice u32, c2, i2, hi, ldx, hbx, e3, x0, nm, s0, lx, y0, y5, c4, t4, lv4, c4', br4]
    exact k3.trans k4
  have hVB' : (!V || B) = true := by cases V <;> cases B <;> simp_all
  rw [hVB', Bool.true_and, Bool.true_and]
  obtain ⟨bi, hbi⟩ : ∃ bi : Nat, bl.getD i 0 = (bi : Int) := ⟨(bl.getD i 0).toNat, by omega⟩
  have hbin : bi < nb u := by omega
  have lb1 := hC4.o1.load1 (off := i) (ints_at (by omega))
  rw [hbi] at lb1 ⊢
  obtain ⟨bb, vo', no', po', hbo, ldb, _, _, _⟩ := blk_at hU4 hbin
  have ldp := load_sub (k := 4) ldb rfl
  have hpN : predsN u (bi : Int) = (u.2.2.2.1[bi]).2.2.2.2.1.length := by unfold predsN; rw [Int.toNat_natCast, blkD_eq hbin]
  rw [hpN]
  obtain ⟨pn, hpn⟩ : ∃ pn : Nat, (u.2.2.2.1[bi]).2.2.2.2.1.length = pn := ⟨_, rfl⟩
  rw [hpn] at ldp ⊢
  have c3' := hC4.c.load1 (off := 3) rfl
  rw [hbo] at c3'
  have c5' := hC4.c.load1 (off := 5) rfl
  have c2' := hC4.c.load1 (off := 2) rfl
  rw [hvo] at c2'
  have bi1 : (bi : Int) < nb u := by omega
  have bi2 : (bi : Int) ≤ 9223372036854775807 := by omega
  obtain ⟨xf, hvX⟩ : ∃ xf, Own m4 bx (valC X ao) 38 xf := ⟨_, by unfold valC; rw [ho, ha, hb, hn, hl, hst]; exact oX4⟩
  obtain ⟨W, hW⟩ : ∃ W, ((show List ValT.D from u.2.2.1).take i).any (sameN n) = W := ⟨_, rfl⟩
  rw [hW]
  have ct := fun c => contv_run (c := c) hN.cont hN.idx hN.val1 hU4 hnu hvX (Nat.le_of_lt hi)
  rw [show (show Int from X.2.2.2.1) = n from hn, hW, hvo] at ct
  have iv : i ≤ nv u := by omega
  obtain ⟨_, m5, c5v, rfl, k5⟩ := ct i
  have q20 : decide (l.length = 1) = decide ((l.length : Int) = 1) := decide_eq_decide.2 (by omega)
  have q21 : decide (l.length = pn) = decide ((l.length : Int) = pn) := decide_eq_decide.2 (by omega)
  rw [q20, q21]
  generalize hR : (if o = 20 then decide ((l.length : Int) = 1) else if o = 21 then decide ((l.length : Int) = pn) else if o = 1 then decide (0 ≤ n) && decide (n < 40) && !W else true) = R
  cases V
  case' true => have hBt : B = true := by simpa using hVB'
  case' true => subst hBt
  all_goals
    simp [-Int.natCast_add, -w49_5, fieldAddr_of fa99_0, fieldAddr_of fa34_2, load_of ld30, index_slice u30 sz38, load_agg ld38, alloc_of zo38, store_of sz38, fieldAddr_of fa38_0, load_of ld3, fieldAddr_of fa38_5, fieldAddr_of fa34_4, load_of ld32, len_slice u32, c2, i2, hi, ldx, hbx, e3, x0, nm, s0, lx, y0, y5, c4, t4, lv4, c4', br4]
    by_cases c20 : o = 20
    · rw [if_pos c20] at hR
      subst hR
      simp [-Int.natCast_add, fieldAddr_of fa38_4, load_of ld36, len_slice u36, y4, c20]
      exact k3.trans k4
    by_cases c21 : o = 21
    · rw [if_neg c20, if_pos c21] at hR
      subst hR
      simp [-Int.natCast_add, fieldAddr_of fa99_0, load_of ld3, fieldAddr_of fa38_4, load_of ld36, len_slice u36, fieldAddr_of fa34_3, load_of ld31, fieldAddr_of fa99_1, index_slice u36 sz3, index_slice u31 sz40, fieldAddr_of fa40_4, c21, y4, c3', c5', lb1, bi2, i2, hi, ldp, hbin]
      exact k3.trans k4
    rw [if_neg c20, if_neg c21] at hR
    by_cases c1 : o = 1
    · rw [if_pos c1] at hR
      by_cases q1 : 0 ≤ n
      case neg =>
        have hRf : R = false := by rw [← hR]; simp [q1]
        rw [hRf]
        simp [-Int.natCast_add, fieldAddr_of fa99_0, fieldAddr_of fa34_2, load_of ld30, fieldAddr_of fa38_3, load_of ld2, slice_sl u30 sz38, c1, y3, q1]
        exact k3.trans k4
      by_cases q2 : n < 40
      case neg =>
        have hRf : R = false := by rw [← hR]; simp [q2]
        rw [hRf]
        simp [-Int.natCast_add, fieldAddr_of fa99_0, fieldAddr_of fa34_2, load_of ld30, fieldAddr_of fa38_3, load_of ld2, slice_sl u30 sz38, c1, y3, q1, q2]
        exact k3.trans k4
      have hRW : R = !W := by rw [← hR]; simp [q1, q2]
      rw [hRW]
      simp [-Int.natCast_add, fieldAddr_of fa99_0, fieldAddr_of fa34_2, load_of ld30, fieldAddr_of fa38_3, load_of ld2, slice_sl u30 sz38, c1, y3, q1, q2, c2', i2, iv, c5v]
      exact (k3.trans k4).trans k5
    rw [if_neg c1] at hR
    subst hR
    simp [-Int.natCast_add, c20, c21, c1]
    exact k3.trans k4
end Go.Proofs.YtlogdohlcdhepaaDoor.base

