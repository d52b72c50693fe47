/-
  This text proves that kinds.one comes to an answer over the abstract run, and what kind a type has that it accepts.
  Condition: nothing is known of its calls ahead ('S f = []').
-/
import Derived.Test.YtllhpkhbcgfeeaaDoorKinF
set_option maxRecDepth 100000
set_option linter.unusedSimpArgs false
set_option linter.unusedVariables false
namespace Go.Proofs.YtllhpkhbcgfeeaaDoor.base
open Go.Sh gen
variable {S : Sums} {m : Mem}
set_option maxHeartbeats 4000000 in
theorem one1_run (hN : Nk S) (hO : S 22 = []) {to : Option Addr} {n : Nat} {d : TypeT.D} {c : List Value} (hd : TypeT.wf d) (h : At m TypeT d c) :
    ∃ v m1, callw Tryd.prog TT S 22 [.slice to n n, .agg c.toArray] m = some (v, m1) ∧ (∃ b : Bool, v = .bool b ∧ (b = true → d.1 = 5 ∨ d.1 = 6 ∨ d.1 = 7)) ∧ Keeps m m1 [] := by
  obtain ⟨ao, bo, ca, cb, f, g, ty⟩ := type_cells h
  have hc := ty.c
  obtain ⟨k, nm, el, fs, ms, u⟩ := d
  simp only at hc
  have h0 := h
  rw [hc]
  refine fn_w 7 [7, 22, 43] k22 hO rfl ?_
  simp [-Int.natCast_add, -w22_1, -BitVec.toNat_or, -BitVec.toNat_ofInt, -BitVec.toNat_and, box_of b25, fieldAddr_of fa25_0, load_of ld3, fieldAddr_of fa25_1, load_of ld9, fieldAddr_of fa25_2, load_agg ld25, fieldAddr_of fa25_3, load_of ld22, len_slice u22, fieldAddr_of fa25_4, load_of ld23, len_slice u23]
  obtain ⟨o1, k1, n1⟩ := new_own (m := m) (cs := [.int .i64 k, .string ⟨nm.toArray⟩, .int .i64 el, .slice ao fs.length fs.length, .slice bo ms.length ms.length]) (e := 25) rfl
  obtain ⟨xb, hxb⟩ : ∃ xb, m.next = xb := ⟨_, rfl⟩
  rw [hxb] at o1 n1
  obtain ⟨m1, hm1⟩ : ∃ m1, m.new [.int .i64 k, .string ⟨nm.toArray⟩, .int .i64 el, .slice ao fs.length fs.length, .slice bo ms.length ms.length] 25 = m1 := ⟨_, rfl⟩
  simp only [hxb]
  rw [hm1] at o1 k1 n1 ⊢
  have l0 := o1.load1 (off := 0) rfl
  have l1 := o1.load1 (off := 1) rfl
  have l2 := o1.load1 (off := 2) rfl
  have l3 := o1.load1 (off := 3) rfl
  have l4 := o1.load1 (off := 4) rfl
  have lx := o1.load (off := 0) 5 (by simp)
  simp [window] at lx
  obtain ⟨v2, m2, hf, ⟨b, rfl⟩, k2⟩ := fields_run hN (to := to) (n := n) hd (h0.keep k1)
  rw [hc] at hf
  have vr := value_run (m := m1) (to := to) (n := n) hN.value el
  have vr0 : (1 ≤ el ∧ el < n ∧ el ≠ 4) ∨ ¬ (1 ≤ el ∧ el < n ∧ el ≠ 4) := Classical.em _
  have fin : Keeps m m2 [] := k1.trans k2
  have hie : nm = [] ∨ List.isEmpty nm = false := by cases nm <;> simp
  by_cases c5 : k = 5
  · subst c5
    rcases hie with c1 | c1 <;> by_cases c2 : el = 0 <;> cases b <;> (try subst c1) <;> (try subst c2) <;> simp [-Int.natCast_add, -BitVec.toNat_or, -BitVec.toNat_ofInt, -BitVec.toNat_and, box_of b25, fieldAddr_of fa25_0, load_of ld3, fieldAddr_of fa25_1, load_of ld9, fieldAddr_of fa25_2, load_agg ld25, fieldAddr_of fa25_3, load_of ld22, len_slice u22, fieldAddr_of fa25_4, load_of ld23, len_slice u23, l0, l1, l2, lx, hf, *]
  · by_cases c7 : k = 7
    · subst c7
      rcases hie with c1 | c1 <;> by_cases c2 : el = 0 <;> by_cases c3 : fs.length = 0 <;> (try simp only [c3] at hf lx l3) <;> cases b <;> (try subst c1) <;> (try subst c2) <;> simp [-Int.natCast_add, -BitVec.toNat_or, -BitVec.toNat_ofInt, -BitVec.toNat_and, box_of b25, fieldAddr_of fa25_0, load_of ld3, fieldAddr_of fa25_1, load_of ld9, fieldAddr_of fa25_2, load_agg ld25, fieldAddr_of fa25_3, load_of ld22, len_slice u22, fieldAddr_of fa25_4, load_of ld23, len_slice u23, l0, l1, l2, l3, lx, hf, *]
    · by_cases c6 : k = 6
      · subst c6
        rcases vr0 with hv | hv
        · rw [decide_eq_true hv] at vr
          rcases hie with c1 | c1 <;> by_cases c3 : fs.length = 0 <;> by_cases c4 : ms.length = 0 <;> (try subst c1) <;> simp [-Int.natCast_add, -BitVec.toNat_or, -BitVec.toNat_ofInt, -BitVec.toNat_and, box_of b25, fieldAddr_of fa25_0, load_of ld3, fieldAddr_of fa25_1, load_of ld9, fieldAddr_of fa25_2, load_agg ld25, fieldAddr_of fa25_3, load_of ld22, len_slice u22, fieldAddr_of fa25_4, load_of ld23, len_slice u23, l0, l1, l2, l3, l4, vr, k1, *]
        · rw [decide_eq_false hv] at vr
          rcases hie with c1 | c1 <;> (try subst c1) <;> simp [-Int.natCast_add, -BitVec.toNat_or, -BitVec.toNat_ofInt, -BitVec.toNat_and, box_of b25, fieldAddr_of fa25_0, load_of ld3, fieldAddr_of fa25_1, load_of ld9, fieldAddr_of fa25_2, load_agg ld25, fieldAddr_of fa25_3, load_of ld22, len_slice u22, fieldAddr_of fa25_4, load_of ld23, len_slice u23, l0, l1, l2, l3, l4, vr, k1, *]
      · simp [-Int.natCast_add, -BitVec.toNat_or, -BitVec.toNat_ofInt, -BitVec.toNat_and, box_of b25, fieldAddr_of fa25_0, load_of ld3, fieldAddr_of fa25_1, load_of ld9, fieldAddr_of fa25_2, load_agg ld25, fieldAddr_of fa25_3, load_of ld22, len_slice u22, fieldAddr_of fa25_4, load_of ld23, len_slice u23, l0, c5, c6, c7]
        exact k1
end Go.Proofs.YtllhpkhbcgfeeaaDoor.base

