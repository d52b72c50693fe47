/-
  This text proves what ssa's 'leaves', val's question of other Params, and slices.ContainsFunc of it answer, over the abstract run.
  Condition: nothing is known of the calls ahead ('S f = []').
-/
import Derived.Test.YtlogdohlcdhepaaDoorEwA
set_option maxRecDepth 100000
set_option linter.unusedSimpArgs false
set_option linter.unusedVariables false
namespace Go.Proofs.YtlogdohlcdhepaaDoor.base
open Go.Sh gen
variable {S : Sums} {m : Mem}
def lvs (op : Int) : Bool := decide (op = 22) || decide (op = 23)
theorem lvs_run (hS : S 67 = []) (op : Int) : callw Tryd.prog TT S 67 [.int .i64 op] m = some (.bool (lvs op), m) := by
  refine fn_eq 3 [] k67 hS rfl ?_
  unfold lvs
  by_cases h : op = 22
  · simp [h]
  · simp [h]
def sameN (n : Int) (x : ValT.D) : Bool := decide (x.1 = 1) && decide ((show Int from x.2.2.2.1) = n)
theorem val1_run (hS : S 69 = []) {x y : ValT.D} {ao ay : Option Addr} {vb vf : Nat} (hv : Own m vb (valC y ay) 38 vf) :
    ∃ v m1, callw Tryd.prog TT S 69 [.agg (valC x ao).toArray, .pointer (some ⟨vb, 0, none⟩)] m = some (v, m1) ∧ v = .bool (sameN (show Int from y.2.2.2.1) x) ∧ Keeps m m1 [] := by
  unfold sameN
  obtain ⟨o, ho⟩ : ∃ o : Int, x.1 = o := ⟨_, rfl⟩
  obtain ⟨n, hn⟩ : ∃ n : Int, x.2.2.2.1 = n := ⟨_, rfl⟩
  obtain ⟨n', hn'⟩ : ∃ n : Int, y.2.2.2.1 = n := ⟨_, rfl⟩
  rw [show (show Int from x.2.2.2.1) = n from hn, show (show Int from y.2.2.2.1) = n' from hn']
  unfold valC
  rw [ho, hn]
  obtain ⟨oZ, kZ, nZ⟩ := new_own (m := m) (cs := [.int .i64 o, .int .i64 x.2.1, .int .i64 x.2.2.1, .int .i64 n, .slice ao x.2.2.2.2.1.length x.2.2.2.2.1.length, .int .i64 x.2.2.2.2.2.1]) (e := 38) rfl
  obtain ⟨bx, hbx⟩ : ∃ bx, m.next = bx := ⟨_, rfl⟩
  rw [hbx] at oZ nZ
  have l0 := oZ.load1 (off := 0) rfl
  have l3 := oZ.load1 (off := 3) rfl
  have f3 := (hv.keep kZ (by simp)).load1 (off := 3) rfl
  rw [show y.2.2.2.1 = n' from hn'] at f3
  refine fn_w 4 [] k69 hS rfl ?_
  by_cases h1 : o = 1
  · subst h1
    simp [box_of b38, fieldAddr_of fa38_0, load_of ld3, fieldAddr_of fa38_3, load_of ld2, hbx, l0, l3, f3]
    exact kZ
  · simp [box_of b38, fieldAddr_of fa38_0, load_of ld3, fieldAddr_of fa38_3, load_of ld2, hbx, l0, h1]
    exact kZ
set_option maxHeartbeats 4000000 in
theorem idxv_run (hS : S 81 = []) (h1 : S 69 = []) {Q : Nat → Prop} {u : UnT.D} {vo bo so : Option Addr} (hU : UAt Q m u vo bo so) (hnu : nv u ≤ 1000000) {y : ValT.D} {ay : Option Addr} {vb vf : Nat} (hv : Own m vb (valC y ay) 38 vf) {k c : Nat} (hk : k ≤ nv u) :
    ∃ v m1, callw Tryd.prog TT S 81 [.slice vo k c, .func (.func 69) #[] #[.pointer (some ⟨vb, 0, none⟩)]] m = some (v, m1) ∧ (∃ r : Int, v = .int .i64 r ∧ decide (0 ≤ r) = ((show List ValT.D from u.2.2.1).take k).any (sameN (show Int from y.2.2.2.1))) ∧ Keeps m m1 [] := by
  refine fn_w 9 [9, 16] k81 hS rfl ?_
  obtain ⟨P, hP⟩ : ∃ P, sameN (show Int from y.2.2.2.1) = P := ⟨_, rfl⟩
  rw [hP]
  have hkm : k ≤ 1000000 := by omega
  simp [-Int.natCast_add, -List.any_eq_true, len_slice u30]
  obtain ⟨L, hL⟩ : ∃ L : List ValT.D, L = u.2.2.1.take k := ⟨_, rfl⟩
  have hLl : L.length = k := by rw [hL, List.length_take]; exact Nat.min_eq_left hk
  rw [show (List.take k u.2.2.1 : List ValT.D) = L from hL.symm]
  obtain ⟨A, hA⟩ : ∃ A, L.any P = A := ⟨_, rfl⟩
  rw [hA]
  refine wsem_loop 9 [9, 16] (fun d E mF => ∃ (i : Nat), k - i = d ∧ i ≤ k ∧ Keeps m mF [] ∧ (L.drop i).any P = A ∧
    E = [(0, .slice vo k c), (1, .func (.func 69) #[] #[.pointer (some ⟨vb, 0, none⟩)]), (7, .int .i64 (k : Int)), (8, .int .i64 (i : Int))]) _ ⟨_, ⟨0, rfl, by omega, .refl _ _, by rw [List.drop_zero]; exact hA, rfl⟩, ⟨by rfl, by rfl, by rfl, by rfl, trivial⟩⟩ ?_
  rintro d E mF ih ⟨i, hd, hi, kF, ha, rfl⟩
  have im : (i : Int) ≤ 9223372036854775807 := by omega
  by_cases hlt : i < k
  · have i1 : (i : Int) < k := by omega
    have wi : IntKind.i64.wrap ((i : Int) + 1) = ((i + 1 : Nat) : Int) := by rw [wrap_i64 (by omega) (by omega)]; omega
    have hiu : i < u.2.2.1.length := Nat.lt_of_lt_of_le hlt hk
    obtain ⟨xb, ao, fa, hxv, ldx, _, _⟩ := val_at (hU.keep kF (by simp)) hiu
    have hLi : L.drop i = u.2.2.1[i] :: L.drop (i + 1) := by
      rw [List.drop_eq_getElem_cons (by omega)]
      congr 1
      simp only [hL, List.getElem_take]
    rw [hLi, List.any_cons] at ha
    rw [hxv] at ih ⊢
    obtain ⟨_, mG, cG, rfl, kG⟩ := val1_run (x := u.2.2.1[i]) (ao := ao) h1 (hv.keep kF (by simp))
    rw [hP] at cG
    generalize u.2.2.1[i] = X at *
    cases hp : P X
    · rw [hp] at cG ha
      simp [-Int.natCast_add, -List.any_eq_true, index_slice u30 sz38, load_agg ld38, i1, im, hlt, ldx, cG, wi]
      exact ih _ _ _ _ ⟨i + 1, rfl, by omega, kF.trans kG, by rw [← ha]; rfl, rfl⟩ (by omega) ⟨by rfl, by rfl, by rfl, by rfl, trivial⟩
    · rw [hp, Bool.true_or] at ha
      rw [hp] at cG
      simp [-Int.natCast_add, -List.any_eq_true, index_slice u30 sz38, load_agg ld38, i1, im, hlt, ldx, cG]
      exact ⟨ha.symm, kF.trans kG⟩
  clear ih
  have i1 : ¬ (i : Int) < k := by omega
  rw [List.drop_of_length_le (by omega), List.any_nil] at ha
  simp [-Int.natCast_add, -List.any_eq_true, i1]
  exact ⟨ha.symm, kF⟩
theorem contv_run (hS : S 68 = []) (hI : S 81 = []) (h1 : S 69 = []) {Q : Nat → Prop} {u : UnT.D} {vo bo so : Option Addr} (hU : UAt Q m u vo bo so) (hnu : nv u ≤ 1000000) {y : ValT.D} {ay : Option Addr} {vb vf : Nat} (hv : Own m vb (valC y ay) 38 vf) {k c : Nat} (hk : k ≤ nv u) :
    ∃ v m1, callw Tryd.prog TT S 68 [.slice vo k c, .func (.func 69) #[] #[.pointer (some ⟨vb, 0, none⟩)]] m = some (v, m1) ∧ v = .bool (((show List ValT.D from u.2.2.1).take k).any (sameN (show Int from y.2.2.2.1))) ∧ Keeps m m1 [] := by
  obtain ⟨_, m1, e1, ⟨r, rfl, hr⟩, k1⟩ := idxv_run (c := c) hI h1 hU hnu hv hk
  refine fn_w 5 [] k68 hS rfl ?_
  rw [← hr]
  simp [-Int.natCast_add, -List.any_eq_true, e1]
  exact k1
end Go.Proofs.YtlogdohlcdhepaaDoor.base

