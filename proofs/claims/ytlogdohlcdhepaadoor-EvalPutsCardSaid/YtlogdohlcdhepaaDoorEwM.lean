/-
  This text proves what ssa.checker's 'seenState' answers, over the abstract run.
  Condition: nothing is known of the calls ahead ('S f = []').
-/
import Derived.Test.YtlogdohlcdhepaaDoorEwL
set_option maxRecDepth 100000
set_option linter.unusedSimpArgs false
set_option linter.unusedVariables false
namespace Go.Proofs.YtlogdohlcdhepaaDoor.base
open Go.Sh gen
variable {S : Sums} {m : Mem}
def seenFr (u : UnT.D) (bl pl I : List Int) (block place : Int) (f : FrmT.D) : Bool := seenF u bl pl I block place f.2.2.1 && seenF u bl pl I block place f.2.2.2.1
def seenStF (u : UnT.D) (bl pl I : List Int) (block place : Int) (fs : List FrmT.D) : Bool := fs.all (seenFr u bl pl I block place)
def FrOk (u : UnT.D) (f : FrmT.D) : Prop := List.length f.2.2.1 ≤ 1000 ∧ List.length f.2.2.2.1 ≤ 1000 ∧ (∀ v ∈ (show List Int from f.2.2.1), (0 : Int) ≤ v ∧ v < nv u) ∧ (∀ v ∈ (show List Int from f.2.2.2.1), (0 : Int) ≤ v ∧ v < nv u)
set_option maxHeartbeats 4000000 in
theorem seenState_run (hS : S 75 = []) (hE : S 74 = []) (hD : S 83 = []) {Q : Nat → Prop} {u : UnT.D} {vo bo so : Option Addr} (hU : UAt Q m u vo bo so) {cb cf b1 b2 f1 f2 ix : Nat} {bl pl I : List Int} (hC : Ck3 m u vo bo so cb cf b1 b2 f1 f2 ix bl pl I) (hR : Rok u bl pl I) (hnb : nb u ≤ 1000) (hnv : nv u ≤ 1000000)
    {i : Nat} (hi : i < ns u) (hns : ns u ≤ 1000000) {fs : List FrmT.D} (hfs : (u.2.2.2.2.1[i]).1 = fs) (hfl : fs.length ≤ 1000) (hfo : ∀ f ∈ fs, FrOk u f) {block : Nat} (hb : block < nb u) {place : Int} :
    ∃ v m1, callw Tryd.prog TT S 75 [.pointer (some ⟨cb, 0, none⟩), .int .i64 (i : Int), .int .i64 (block : Int), .int .i64 place] m = some (v, m1) ∧ v = .bool (seenStF u bl pl I block place fs) ∧ Keeps m m1 [] := by
  obtain ⟨sb, fo, hso, lds, hfA⟩ := state_at hU hi
  rw [hfs] at lds hfA
  have l4 := hC.c.c.load1 (off := 4) rfl
  rw [hso] at l4
  have s1 : (i : Int) < ns u := by omega
  have s2 : (i : Int) ≤ 9223372036854775807 := by omega
  have ld0 := lds m [] (Keeps.refl _ _) (by simp)
  obtain ⟨R, hRe⟩ : ∃ R, seenStF u bl pl I block place fs = R := ⟨_, rfl⟩
  rw [hRe]
  refine fn_w 22 [22, 40] k75 hS rfl ?_
  simp [-Int.natCast_add, fieldAddr_of fa99_0, fieldAddr_of fa34_4, load_of ld32, index_slice u32 sz67, fieldAddr_of fa67_0, load_of ld65, len_slice u65, l4, s2, hi, ld0]
  refine wsem_loop 22 [22, 40] (fun d E mF => ∃ (j : Nat), fs.length - j = d ∧ j ≤ fs.length ∧ (fs.drop j).all (seenFr u bl pl I block place) = R ∧ Keeps m mF [] ∧
    E = [(0, .pointer (some ⟨cb, 0, none⟩)), (2, .int .i64 (block : Int)), (3, .int .i64 place), (19, .slice fo fs.length fs.length), (20, .int .i64 fs.length), (21, .int .i64 (j : Int))]) _ ⟨_, ⟨0, rfl, by omega, by rw [List.drop_zero]; exact hRe, .refl _ _, rfl⟩, ⟨by rfl, by rfl, by rfl, by rfl, by rfl, by rfl, trivial⟩⟩ ?_
  rintro d E mF ih ⟨j, hd, hj, ha, kF, rfl⟩
  have jm : (j : Int) ≤ 9223372036854775807 := by omega
  by_cases hlt : j < fs.length
  · have j1 : (j : Int) < fs.length := by omega
    have wj : IntKind.i64.wrap ((j : Int) + 1) = ((j + 1 : Nat) : Int) := by rw [wrap_i64 (by omega) (by omega)]; omega
    obtain ⟨fb, la, sa, hfb, ldf, hla, hsa⟩ := frame_at (hfA.keep kF (by simp)) hlt
    have hmm := hfo _ (List.getElem_mem hlt)
    rw [List.drop_eq_getElem_cons hlt, List.all_cons] at ha
    rw [hfb] at ih ⊢
    generalize fs[j] = F at *
    obtain ⟨oY, kY, nY⟩ := new_own (m := mF) (cs := [.int .i64 0, .int .i64 0, .slice none 0 0, .slice none 0 0]) (e := 64) rfl
    obtain ⟨zb, hzb⟩ : ∃ zb, mF.next = zb := ⟨_, rfl⟩
    obtain ⟨mG, eG, oG, kG'⟩ := store_own (r := _) rfl oY (off := 0) (vs := frC F la sa) (by simp) (by simp [one_int, one_slice])
    simp [over] at oG
    have kG := kY.fresh kG' (by simp)
    rw [hzb] at oG nY eG
    have K3 : Keeps m mG [] := kF.trans kG
    have g2 := oG.load1 (off := 2) rfl
    have g3 := oG.load1 (off := 3) rfl
    have hC3 := hC.keep0 K3
    have t1 := seen_run (place := place) hE hD hC3 hR hnb hnv (hla.keep kG (by simp)) (by have := hmm.1; omega) hmm.2.2.1 hb
    have t2 := seen_run (place := place) hE hD hC3 hR hnb hnv (hsa.keep kG (by simp)) (by have := hmm.2.1; omega) hmm.2.2.2 hb
    obtain ⟨n1, hn1⟩ : ∃ n1 : Nat, List.length F.2.2.1 = n1 := ⟨_, rfl⟩
    obtain ⟨n2, hn2⟩ : ∃ n2 : Nat, List.length F.2.2.2.1 = n2 := ⟨_, rfl⟩
    obtain ⟨q1, hq1⟩ : ∃ b1, seenF u bl pl I block place F.2.2.1 = b1 := ⟨_, rfl⟩
    obtain ⟨q2, hq2⟩ : ∃ b2, seenF u bl pl I block place F.2.2.2.1 = b2 := ⟨_, rfl⟩
    have eF : seenFr u bl pl I block place F = (q1 && q2) := by unfold seenFr; rw [hq1, hq2]
    rw [hq1] at t1
    rw [hq2] at t2
    rw [eF] at ha
    unfold frC at eG g2 g3 ldf
    rw [hn1] at t1 g2
    rw [hn2] at t2 g3
    rw [hn1, hn2] at ldf eG
    cases q1
    · have : R = false := by rw [← ha]; simp
      rw [this]
      simp [-Int.natCast_add, index_slice u65 sz64, load_agg ld64, alloc_of zo64, store_of sz64, fieldAddr_of fa64_2, load_of ld36, fieldAddr_of fa64_3, j1, jm, hlt, ldf, hzb, eG, g2, t1]
      exact K3
    cases q2
    · have : R = false := by rw [← ha]; simp
      rw [this]
      simp [-Int.natCast_add, index_slice u65 sz64, load_agg ld64, alloc_of zo64, store_of sz64, fieldAddr_of fa64_2, load_of ld36, fieldAddr_of fa64_3, j1, jm, hlt, ldf, hzb, eG, g2, g3, t1, t2]
      exact K3
    simp [-Int.natCast_add, index_slice u65 sz64, load_agg ld64, alloc_of zo64, store_of sz64, fieldAddr_of fa64_2, load_of ld36, fieldAddr_of fa64_3, j1, jm, hlt, ldf, hzb, eG, g2, g3, t1, t2, wj]
    exact ih _ _ _ _ ⟨j + 1, rfl, by omega, by rw [← ha]; simp, K3, rfl⟩ (by omega) ⟨by rfl, by rfl, by rfl, by rfl, by rfl, by rfl, trivial⟩
  have j1 : ¬ (j : Int) < fs.length := by omega
  rw [List.drop_of_length_le (by omega), List.all_nil] at ha
  rw [← ha]
  simp [-Int.natCast_add, j1]
  exact kF
end Go.Proofs.YtlogdohlcdhepaaDoor.base

