/-
  This text proves what ssa.checker's 'state' answers, over the abstract run.
  Condition: nothing is known of the calls ahead ('S f = []').
-/
import Derived.Test.YtlogdohlcdhepaaDoorEvV
set_option maxRecDepth 100000
set_option linter.unusedSimpArgs false
set_option linter.unusedVariables false
namespace Go.Proofs.YtlogdohlcdhepaaDoor.base
open Go.Sh gen
variable {S : Sums} {m : Mem}
abbrev ckC (u : UnT.D) (vo bo so : Option Addr) (r1 r2 r3 : Value) : List Value := [.int .i64 u.1, .int .i64 u.2.1, .slice vo (nv u) (nv u), .slice bo (nb u) (nb u), .slice so (ns u) (ns u), r1, r2, r3]
def frameF (u : UnT.D) (f : FrmT.D) : Bool := !decide (40 < List.length f.2.2.1) && !decide (60 < List.length f.2.2.2.1) && thereF u f.2.2.1 && thereF u f.2.2.2.1
def stateF (u : UnT.D) (fs : List FrmT.D) : Bool := !decide (fs.length = 0) && !decide (30 < fs.length) && fs.all (frameF u)
set_option maxHeartbeats 4000000 in
theorem state_run (hS : S 47 = []) (hT : S 64 = []) (hB : S 65 = []) {Q : Nat → Prop} {u : UnT.D} {vo bo so : Option Addr} (hU : UAt Q m u vo bo so) (hnu : nv u ≤ 1000000) {cb cf : Nat} {r1 r2 r3 : Value} (hC : Own m cb (ckC u vo bo so r1 r2 r3) 99 cf)
    {i : Nat} (hi : i < ns u) (hns : ns u ≤ 1000000) {fs : List FrmT.D} (hfs : (u.2.2.2.2.1[i]).1 = fs) (hfl : fs.length ≤ 20000000000000) (hfi : ∀ f ∈ fs, List.length f.2.2.1 ≤ 20000000000000 ∧ List.length f.2.2.2.1 ≤ 20000000000000) :
    ∃ v m1, callw Tryd.prog TT S 47 [.pointer (some ⟨cb, 0, none⟩), .int .i64 (i : Int)] m = some (v, m1) ∧ v = .bool (stateF u fs) ∧ Keeps m m1 [] := by
  obtain ⟨sb, fo, hso, lds, hfo⟩ := state_at hU hi
  rw [hfs] at lds hfo
  have l4 := hC.load1 (off := 4) rfl
  rw [hso] at l4
  have s1 : (i : Int) < ns u := by omega
  have s2 : (i : Int) ≤ 9223372036854775807 := by omega
  have ld0 := lds m [] (Keeps.refl _ _) (by simp)
  obtain ⟨oZ, kZ, nZ⟩ := new_own (m := m) (cs := [.slice none 0 0]) (e := 67) rfl
  obtain ⟨bx, hbx⟩ : ∃ bx, m.next = bx := ⟨_, rfl⟩
  obtain ⟨m3, e3, oX, kX⟩ := store_own (r := _) rfl oZ (off := 0) (vs := [.slice fo fs.length fs.length]) (by simp) (by simp [one_slice])
  simp [over] at oX
  have k3 := kZ.fresh kX (by simp)
  rw [hbx] at oX nZ e3
  have x0 := oX.load1 (off := 0) rfl
  refine fn_w 30 [30, 56] k47 hS rfl ?_
  simp [-Int.natCast_add, -w47_2, fieldAddr_of fa99_0, fieldAddr_of fa34_4, load_of ld32, index_slice u32 sz67, load_agg ld67, alloc_of zo67, store_of sz67, l4, s2, hi, ld0, hbx, e3]
  by_cases z0 : fs.length = 0
  · have z1 : fs = [] := List.length_eq_zero_iff.1 z0
    have : stateF u fs = false := by rw [z1]; rfl
    rw [this]
    simp [-Int.natCast_add, fieldAddr_of fa67_0, load_of ld65, len_slice u65, x0, z1]
    exact k3
  have z1 : ¬ fs = [] := fun e => z0 (by rw [e]; rfl)
  by_cases z2 : 30 < fs.length
  · have z3 : (30 : Int) < fs.length := by omega
    have : stateF u fs = false := by simp [stateF, z2]
    rw [this]
    simp [-Int.natCast_add, fieldAddr_of fa67_0, load_of ld65, len_slice u65, x0, z0, z3]
    exact k3
  have z3 : ¬ (30 : Int) < fs.length := by omega
  simp [-Int.natCast_add, fieldAddr_of fa67_0, load_of ld65, len_slice u65, x0, z0, z3]
  have hfo3 := hfo.keep k3 (by simp)
  refine wsem_loop 30 [30, 56] (fun d E mF => ∃ (j : Nat), fs.length - j = d ∧ j ≤ fs.length ∧ (fs.drop j).all (frameF u) = fs.all (frameF u) ∧ Keeps m3 mF [] ∧
    E = [(0, .pointer (some ⟨cb, 0, none⟩)), (27, .slice fo fs.length fs.length), (28, .int .i64 fs.length), (29, .int .i64 (j : Int))]) _ ⟨_, ⟨0, rfl, by omega, by rw [List.drop_zero], .refl _ _, rfl⟩, ⟨by rfl, by rfl, by rfl, by rfl, trivial⟩⟩ ?_
  rintro d E mF ih ⟨j, hd, hj, ha, kF, rfl⟩
  have jm : (j : Int) ≤ 9223372036854775807 := by omega
  have eS : stateF u fs = fs.all (frameF u) := by simp [stateF, z1, z2]
  by_cases hlt : j < fs.length
  · have j1 : (j : Int) < fs.length := by omega
    have wj : IntKind.i64.wrap ((j : Int) + 1) = ((j + 1 : Nat) : Int) := by rw [wrap_i64 (by omega) (by omega)]; omega
    obtain ⟨fb, la, sa, hfb, ldf, hla, hsa⟩ := frame_at (hfo3.keep kF (by simp)) hlt
    have hmm := hfi _ (List.getElem_mem hlt)
    rw [List.drop_eq_getElem_cons hlt, List.all_cons] at ha
    rw [hfb] at ih ⊢
    generalize fs[j] = F at *
    obtain ⟨oY, kY, nY⟩ := new_own (m := mF) (cs := [.int .i64 0, .int .i64 0, .slice none 0 0, .slice none 0 0]) (e := 64) rfl
    obtain ⟨zb, hzb⟩ : ∃ zb, mF.next = zb := ⟨_, rfl⟩
    obtain ⟨mG, eG, oG, kG'⟩ := store_own (r := _) rfl oY (off := 0) (vs := frC F la sa) (by simp) (by simp [one_int, one_slice])
    simp [over] at oG
    have kG := kY.fresh kG' (by simp)
    rw [hzb] at oG nY eG
    have K3 : Keeps m mG [] := (k3.trans kF).trans kG
    have g2 := oG.load1 (off := 2) rfl
    have g3 := oG.load1 (off := 3) rfl
    have hCG := (hC.keep K3 (by simp)).load1 (off := 2) rfl
    have t1 := there_run hT hB (hU.keep K3 (by simp)) hnu hCG hmm.1 (hla.keep kG (by simp))
    have t2 := there_run hT hB (hU.keep K3 (by simp)) hnu hCG hmm.2 (hsa.keep kG (by simp))
    obtain ⟨n1, hn1⟩ : ∃ n1 : Nat, List.length F.2.2.1 = n1 := ⟨_, rfl⟩
    obtain ⟨n2, hn2⟩ : ∃ n2 : Nat, List.length F.2.2.2.1 = n2 := ⟨_, rfl⟩
    obtain ⟨b1, hb1⟩ : ∃ b1, thereF u F.2.2.1 = b1 := ⟨_, rfl⟩
    obtain ⟨b2, hb2⟩ : ∃ b2, thereF u F.2.2.2.1 = b2 := ⟨_, rfl⟩
    have eF : frameF u F = (!decide (40 < n1) && !decide (60 < n2) && b1 && b2) := by unfold frameF; rw [hn1, hn2, hb1, hb2]
    rw [hb1] at t1
    rw [hb2] at t2
    rw [eF] at ha
    unfold frC at eG g2 g3 ldf
    rw [hn1] at t1 g2
    rw [hn2] at t2 g3
    rw [hn1, hn2] at ldf eG
    by_cases q1 : 40 < n1
    · have q1' : (40 : Int) < n1 := by omega
      have : stateF u fs = false := by rw [eS, ← ha]; simp [q1]
      rw [this]
      simp [-Int.natCast_add, index_slice u65 sz64, load_agg ld64, alloc_of zo64, store_of sz64, fieldAddr_of fa64_2, load_of ld36, len_slice u36, fieldAddr_of fa64_3, j1, jm, hlt, ldf, hzb, eG, g2, q1']
      exact K3
    have q1' : ¬ (40 : Int) < n1 := by omega
    by_cases q2 : 60 < n2
    · have q2' : (60 : Int) < n2 := by omega
      have : stateF u fs = false := by rw [eS, ← ha]; simp [q2]
      rw [this]
      simp [-Int.natCast_add, index_slice u65 sz64, load_agg ld64, alloc_of zo64, store_of sz64, fieldAddr_of fa64_2, load_of ld36, len_slice u36, fieldAddr_of fa64_3, j1, jm, hlt, ldf, hzb, eG, g2, g3, q1', q2']
      exact K3
    have q2' : ¬ (60 : Int) < n2 := by omega
    cases b1
    · have : stateF u fs = false := by rw [eS, ← ha]; simp
      rw [this]
      simp [-Int.natCast_add, index_slice u65 sz64, load_agg ld64, alloc_of zo64, store_of sz64, fieldAddr_of fa64_2, load_of ld36, len_slice u36, fieldAddr_of fa64_3, j1, jm, hlt, ldf, hzb, eG, g2, g3, q1', q2', t1]
      exact K3
    cases b2
    · have : stateF u fs = false := by rw [eS, ← ha]; simp
      rw [this]
      simp [-Int.natCast_add, index_slice u65 sz64, load_agg ld64, alloc_of zo64, store_of sz64, fieldAddr_of fa64_2, load_of ld36, len_slice u36, fieldAddr_of fa64_3, j1, jm, hlt, ldf, hzb, eG, g2, g3, q1', q2', t1, t2]
      exact K3
    simp [-Int.natCast_add, index_slice u65 sz64, load_agg ld64, alloc_of zo64, store_of sz64, fieldAddr_of fa64_2, load_of ld36, len_slice u36, fieldAddr_of fa64_3, j1, jm, hlt, ldf, hzb, eG, g2, g3, q1', q2', t1, t2, wj]
    exact ih _ _ _ _ ⟨j + 1, rfl, by omega, by rw [← ha]; simp [q1, q2], kF.trans kG, rfl⟩ (by omega) ⟨by rfl, by rfl, by rfl, by rfl, trivial⟩
  have j1 : ¬ (j : Int) < fs.length := by omega
  rw [List.drop_of_length_le (by omega)] at ha
  have : stateF u fs = true := by rw [eS, ← ha]; rfl
  rw [this]
  simp [-Int.natCast_add, j1]
  exact k3.trans kF
end Go.Proofs.YtlogdohlcdhepaaDoor.base

