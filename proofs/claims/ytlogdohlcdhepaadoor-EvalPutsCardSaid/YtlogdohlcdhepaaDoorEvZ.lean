/-
  This text proves what ssa.checker's 'ends' answers, over the abstract run.
  Condition: nothing is known of the calls ahead ('S f = []').
-/
import Derived.Test.YtlogdohlcdhepaaDoorEvX
set_option maxRecDepth 100000
set_option linter.unusedSimpArgs false
set_option linter.unusedVariables false
namespace Go.Proofs.YtlogdohlcdhepaaDoor.base
open Go.Sh gen
variable {S : Sums} {m : Mem}
def endsF (u : UnT.D) (b : BlkT.D) : Bool := (show List Int from b.2.2.2.1).all (fun k => belowF k (nb u)) &&
  (if b.2.1 = 1 then decide (List.length b.2.2.2.1 = 1) else if b.2.1 = 2 then decide (List.length b.2.2.2.1 = 2) && thereF u [(show Int from b.2.2.1)] else
    if b.2.1 = 3 then decide (List.length b.2.2.2.1 = 0) && belowF (show Int from b.2.2.2.2.2.1) (ns u) else false)
set_option maxHeartbeats 8000000 in
theorem ends_run (hS : S 50 = []) (hT : S 64 = []) (hB : S 65 = []) {Q : Nat → Prop} {u : UnT.D} {vo bo so : Option Addr} (hU : UAt Q m u vo bo so) (hnu : nv u ≤ 1000000) (hnb : nb u ≤ 1000000) {cb cf : Nat} {r1 r2 r3 : Value} (hC : Own m cb (ckC u vo bo so r1 r2 r3) 99 cf)
    {i : Nat} (hi : i < nb u) {b : BlkT.D} (hb : u.2.2.2.1[i] = b) (hbl : List.length b.2.2.2.1 ≤ 20000000000000) :
    ∃ v m1, callw Tryd.prog TT S 50 [.pointer (some ⟨cb, 0, none⟩), .int .i64 (i : Int)] m = some (v, m1) ∧ v = .bool (endsF u b) ∧ Keeps m m1 [] := by
  obtain ⟨bb, vo', no', po', hbo, ldb, hvo', hno', hpo'⟩ := blk_at hU hi
  rw [hb] at ldb hno'
  have l3 := hC.load1 (off := 3) rfl
  rw [hbo] at l3
  have s1 : (i : Int) < nb u := by omega
  have s2 : (i : Int) ≤ 9223372036854775807 := by omega
  obtain ⟨oZ, kZ, nZ⟩ := new_own (m := m) (cs := [.slice none 0 0, .int .i64 0, .int .i64 0, .slice none 0 0, .slice none 0 0, .int .i64 0]) (e := 40) rfl
  obtain ⟨bx, hbx⟩ : ∃ bx, m.next = bx := ⟨_, rfl⟩
  obtain ⟨m3, e3, oX, kX⟩ := store_own (r := _) rfl oZ (off := 0) (vs := blkC b vo' no' po') (by simp) (by simp [one_int, one_slice])
  simp [over] at oX
  have k3 := kZ.fresh kX (by simp)
  rw [hbx] at oX nZ e3
  obtain ⟨nl, hnl⟩ : ∃ nl : List Int, b.2.2.2.1 = nl := ⟨_, rfl⟩
  have x3 := oX.load1 (off := 3) rfl
  rw [hnl] at x3 hbl hno'
  have hC3 := (hC.keep k3 (by simp)).load1 (off := 3) rfl
  have br := fun k n => below_run (m := m3) hB k n
  refine fn_w 35 [35, 41, 54] k50 hS rfl ?_
  simp [-Int.natCast_add, fieldAddr_of fa99_0, fieldAddr_of fa34_3, load_of ld31, index_slice u31 sz40, load_agg ld40, alloc_of zo40, store_of sz40, fieldAddr_of fa40_3, load_of ld36, len_slice u36, l3, s2, hi, ldb, hbx, e3, x3]
  have hn3 := hno'.keep k3 (by simp)
  have eF : endsF u b = (nl.all (fun k => belowF k (nb u)) && (if b.2.1 = 1 then decide (nl.length = 1) else if b.2.1 = 2 then decide (nl.length = 2) && thereF u [(show Int from b.2.2.1)] else if b.2.1 = 3 then decide (nl.length = 0) && belowF (show Int from b.2.2.2.2.2.1) (ns u) else false)) := by unfold endsF; rw [hnl]
  refine wsem_loop 35 [35, 41, 54] (fun d E mF => ∃ (j : Nat), nl.length - j = d ∧ j ≤ nl.length ∧ mF = m3 ∧ (nl.drop j).all (fun k => belowF k (nb u)) = nl.all (fun k => belowF k (nb u)) ∧
    E = [(0, .pointer (some ⟨cb, 0, none⟩)), (5, .pointer (some ⟨bx, 0, none⟩)), (17, .slice no' nl.length nl.length), (18, .int .i64 nl.length), (19, .int .i64 (j : Int))]) _ ⟨_, ⟨0, rfl, by omega, rfl, by rw [List.drop_zero], rfl⟩, ⟨by rfl, by rfl, by rfl, by rfl, by rfl, trivial⟩⟩ ?_
  rintro d E mF ih ⟨j, hd, hj, rfl, ha, rfl⟩
  have jm : (j : Int) ≤ 9223372036854775807 := by omega
  by_cases hlt : j < nl.length
  · have j1 : (j : Int) < nl.length := by omega
    have wj : IntKind.i64.wrap ((j : Int) + 1) = ((j + 1 : Nat) : Int) := by rw [wrap_i64 (by omega) (by omega)]; omega
    obtain ⟨lb, hlb, li⟩ := hn3.get hlt
    rw [hlb] at ih ⊢
    obtain ⟨k, hk⟩ : ∃ k, nl.getD j 0 = k := ⟨_, rfl⟩
    rw [hk] at li
    have hdrop : nl.drop j = k :: nl.drop (j + 1) := by
      rw [List.drop_eq_getElem_cons hlt, ← hk, List.getD_eq_getElem?_getD, List.getElem?_eq_getElem hlt]; rfl
    rw [hdrop, List.all_cons] at ha
    cases hbk : belowF k (nb u)
    · rw [hbk] at ha
      have : endsF u b = false := by rw [eF, ← ha]; rfl
      rw [this]
      simp [-Int.natCast_add, fieldAddr_of fa99_0, fieldAddr_of fa34_3, load_of ld31, index_slice u36 sz3, load_of ld3, len_slice u31, j1, jm, hlt, li, hC3, br, hbk]
      exact k3
    · rw [hbk] at ha
      simp [-Int.natCast_add, fieldAddr_of fa99_0, fieldAddr_of fa34_3, load_of ld31, index_slice u36 sz3, load_of ld3, len_slice u31, j1, jm, hlt, li, hC3, br, hbk, wj]
      exact ih _ _ _ _ ⟨j + 1, rfl, by omega, rfl, by rw [← ha]; rfl, rfl⟩ (by omega) ⟨by rfl, by rfl, by rfl, by rfl, by rfl, trivial⟩
  clear ih
  have j1 : ¬ (j : Int) < nl.length := by omega
  rw [List.drop_of_length_le (by omega), List.all_nil] at ha
  rw [← ha, Bool.true_and] at eF
  have x1 := oX.load1 (off := 1) rfl
  have x2 := oX.load1 (off := 2) rfl
  have x5 := oX.load1 (off := 5) rfl
  obtain ⟨en, hen⟩ : ∃ en : Int, b.2.1 = en := ⟨_, rfl⟩
  obtain ⟨cd, hcd⟩ : ∃ cd : Int, b.2.2.1 = cd := ⟨_, rfl⟩
  obtain ⟨st, hst⟩ : ∃ st : Int, b.2.2.2.2.2.1 = st := ⟨_, rfl⟩
  rw [hen] at x1 eF
  rw [hcd] at x2
  rw [hst] at x5
  rw [show (show Int from b.2.2.1) = cd from hcd, show (show Int from b.2.2.2.2.2.1) = st from hst] at eF
  have hC4 := (hC.keep k3 (by simp)).load1 (off := 4) rfl
  rw [eF]
  by_cases e1 : en = 1
  · simp [-Int.natCast_add, fieldAddr_of fa40_3, load_of ld36, len_slice u36, load_of ld3, fieldAddr_of fa40_1, j1, x1, e1, x3]
    exact ⟨by first | omega | (constructor <;> intro h <;> omega) | rfl, k3⟩
  by_cases e2 : en = 2
  · simp [-Int.natCast_add, -w50_12, load_of ld3, fieldAddr_of fa40_1, j1, x1, e2]
    by_cases q : nl.length = 2
    · have q' : (nl.length : Int) = 2 := by omega
      obtain ⟨oN, kN, nN⟩ := new_own (m := mF) (cs := [.int .i64 cd]) (e := 3) rfl
      have hCN := ((hC.keep k3 (by simp)).keep kN (by simp)).load1 (off := 2) rfl
      have ta := there_run (l := [cd]) (Q2 := fun _ => True) hT hB ((hU.keep k3 (by simp)).keep kN (by simp)) hnu hCN (by simp) ⟨_, ⟨by simp, Or.inr ⟨_, rfl, oN.rdo⟩⟩, fun _ => trivial⟩
      simp only [List.length_cons, List.length_nil, Nat.zero_add] at ta
      simp [-Int.natCast_add, fieldAddr_of fa40_3, load_of ld36, len_slice u36, load_of ld3, fieldAddr_of fa40_2, buildSlice_of u36 bs3 rfl, x3, x2, q, ta]
      exact k3.trans kN
    · have q' : ¬ (nl.length : Int) = 2 := by omega
      simp [-Int.natCast_add, fieldAddr_of fa40_3, load_of ld36, len_slice u36, load_of ld3, fieldAddr_of fa40_2, buildSlice_of u36 bs3 rfl, x3, q, q']
      exact k3
  by_cases e4 : en = 3
  · simp [-Int.natCast_add, -w50_14, load_of ld3, fieldAddr_of fa40_1, j1, x1, e4]
    by_cases q : nl.length = 0
    · have q2 : nl = [] := List.length_eq_zero_iff.1 q
      rw [q2] at x3
      simp [-Int.natCast_add, fieldAddr_of fa99_0, fieldAddr_of fa40_3, load_of ld36, len_slice u36, load_of ld3, fieldAddr_of fa40_5, fieldAddr_of fa34_4, load_of ld32, len_slice u32, x3, x5, hC4, br]
      exact ⟨fun _ => q2, k3⟩
    · have q2 : ¬ nl = [] := fun e => q (by rw [e]; rfl)
      simp [-Int.natCast_add, fieldAddr_of fa99_0, fieldAddr_of fa40_3, load_of ld36, len_slice u36, load_of ld3, fieldAddr_of fa40_5, fieldAddr_of fa34_4, load_of ld32, len_slice u32, x3, q, q2]
      exact k3
  simp [-Int.natCast_add, load_of ld3, fieldAddr_of fa40_1, j1, x1, e1, e2, e4]
  exact k3
end Go.Proofs.YtlogdohlcdhepaaDoor.base

