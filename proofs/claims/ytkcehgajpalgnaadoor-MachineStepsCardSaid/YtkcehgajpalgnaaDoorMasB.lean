/-
  This text proves which instructions and code machine.right, machine.Right and the document's RightIns, RightCode take.
  Condition: of their calls nothing is known ahead but Name's at the ops ('nmL').
-/
import Derived.Test.YtkcehgajpalgnaaDoorMacA
set_option maxRecDepth 100000
set_option linter.unusedSimpArgs false
set_option linter.unusedVariables false
namespace Go.Proofs.YtkcehgajpalgnaaDoor.base
open Go.Sh gen
variable {S : Sums} {m : Mem}
structure Nr (S : Sums) : Prop where
  name : S 19 = nmL
  regs : S 43 = []
  number : S 42 = []
  right : S 32 = []
  Right : S 20 = []
  shape : S 41 = []
  ins : S 25 = []
  code : S 23 = []
abbrev icl (x : In5) : List Value := [.int .i64 x.1, .int .i64 x.2.1, .int .i64 x.2.2.1, .int .i64 x.2.2.2.1, .int .i64 x.2.2.2.2]
abbrev icv (l : List In5) : List Value := l.flatMap icl
theorem icv_len (l : List In5) : (icv l).length = l.length * 5 := by
  induction l with
  | nil => rfl
  | cons a l ih => simp only [icv, List.flatMap_cons, List.length_append, List.length_cons, List.length_nil] at ih ⊢; omega
theorem icv_win {l : List In5} {i : Nat} (h : i < l.length) : window (icv l) (i * 5) 5 = icl l[i] := by
  induction l generalizing i with
  | nil => simp at h
  | cons a l ih =>
    cases i with
    | zero => simp [window, icv]
    | succ i =>
      have := ih (i := i) (by simpa using h)
      simp only [window, icv, List.flatMap_cons] at this ⊢
      rw [show (i + 1) * 5 = i * 5 + 5 by omega]
      simpa using this
def regL (x : In5) : List Int := [x.2.1, x.2.2.1, x.2.2.2.1]
set_option maxHeartbeats 4000000 in
theorem right_run (hN : Nr S) (x : In5) {size : Nat} (hs : size ≤ 4611686018427387904) :
    ∃ v m1, callw Tryd.prog TT S 32 [.agg (icl x).toArray, .int .i64 size] m = some (v, m1) ∧ (∃ b : Bool, v = .bool b ∧ (b = true ↔ RightI x size)) ∧ Keeps m m1 [] := by
  have hnm := fun m' => name_run (m := m') hN.name x.1
  obtain ⟨o1, k1, n1⟩ := new_own (m := m) (cs := icl x) (e := 52) rfl
  have l0 := o1.load1 (off := 0) rfl
  have l1 := o1.load1 (off := 1) rfl
  have l2 := o1.load1 (off := 2) rfl
  have l3 := o1.load1 (off := 3) rfl
  have l4 := o1.load1 (off := 4) rfl
  refine fn_w 29 [29, 49] k32 hN.right rfl ?_
  by_cases hop : 1 ≤ x.1 ∧ x.1 ≤ 27
  · have hne : (nameF x.1).isEmpty = false := by cases h : nameF x.1 with
      | nil => exact absurd hop ((nameF_ne x.1).1 h)
      | cons a r => rfl
    obtain ⟨b, hb1, hb2⟩ := number_run (m := m.new (icl x) 52) hN.number hop x.2.2.2.2 hs
    cases b with
    | false =>
      have hno : ¬ RightI x size := fun h => by have := hb2.2 h.2.2.1; simp at this
      simp [-Int.natCast_add, -BitVec.toNat_or, -BitVec.toNat_ofInt, -BitVec.toNat_and, box_of b52, fieldAddr_of fa52_0, load_of ld3, fieldAddr_of fa52_4, load_of ld2, fieldAddr_of fa52_1, fieldAddr_of fa52_2, fieldAddr_of fa52_3, buildSlice_of u82 bs3 rfl, len_slice u82, index_slice u82 sz3, hnm, hne, l0, l4, hb1]
      exact ⟨hno, k1⟩
    | true =>
      have hnum := hb2.1 rfl
      simp [-Int.natCast_add, -BitVec.toNat_or, -BitVec.toNat_ofInt, -BitVec.toNat_and, box_of b52, fieldAddr_of fa52_0, load_of ld3, fieldAddr_of fa52_4, load_of ld2, fieldAddr_of fa52_1, fieldAddr_of fa52_2, fieldAddr_of fa52_3, buildSlice_of u82 bs3 rfl, len_slice u82, index_slice u82 sz3, hnm, hne, l0, l1, l2, l3, l4, hb1]
      obtain ⟨o2, k2, n2⟩ := new_own (m := m.new (icl x) 52) (cs := (regL x).map (Value.int .i64)) (e := 3) rfl
      have k12 := k1.trans k2
      have l0 := (o1.keep k2 (by simp)).load1 (off := 0) rfl
      show Wsem Tryd.prog TT S _ _ _ ((m.new (icl x) 52).new ((regL x).map (Value.int .i64)) 3) _
      generalize (m.new (icl x) 52).new ((regL x).map (Value.int .i64)) 3 = mA at *
      generalize (m.new (icl x) 52).next = sb at *
      refine wsem_loop 29 [29, 49] (fun d E m2 => ∃ i : Nat, 3 - i = d ∧ i ≤ 3 ∧ (∀ j, j < i → regP j x.1 ((regL x).getD j 0)) ∧ m2 = mA ∧ E = [(2, .pointer (some ⟨m.next, 0, none⟩)), (26, .slice (some ⟨sb, 0, none⟩) 3 3), (27, .int .i64 3), (28, .int .i64 i)]) _ ⟨_, ⟨0, rfl, by omega, fun j hj => absurd hj (by omega), rfl, rfl⟩, ⟨by rfl, by rfl, by rfl, by rfl, trivial⟩⟩ ?_
      rintro d E m2 ih ⟨i, hd, hi, hall, rfl, rfl⟩
      by_cases hlt : i < 3
      · have em : (i : Int) ≤ 9223372036854775807 := by omega
        have hlt' : (i : Int) < 3 := by omega
        have wi : IntKind.i64.wrap ((i : Int) + 1) = ((i + 1 : Nat) : Int) := by rw [wrap_i64 (by omega) (by omega)]; omega
        have lr : loadRow m2 ⟨sb, i, none⟩ 1 = some [.int .i64 ((regL x).getD i 0)] := o2.load1 (by
          have : i < (regL x).length := hlt
          simp [List.getD_eq_getElem?_getD, this])
        have cR := regs_run (m := m2) hN.regs hop
        have hR : ¬ regP i x.1 ((regL x).getD i 0) → ¬ RightI x size := fun h hr => h (by
          rcases (by omega : i = 0 ∨ i = 1 ∨ i = 2) with rfl | rfl | rfl
          · exact hr.2.2.2.1
          · exact hr.2.2.2.2.1
          · exact hr.2.2.2.2.2)
        have hnext : regP i x.1 ((regL x).getD i 0) → ∀ j, j < i + 1 → regP j x.1 ((regL x).getD j 0) := fun h j hj => by
          rcases (by omega : j < i ∨ j = i) with h1 | rfl
          · exact hall j h1
          · exact h
        generalize (regL x).getD i 0 = r at *
        by_cases c1 : r < 0
        · simp [-Int.natCast_add, -BitVec.toNat_or, -BitVec.toNat_ofInt, -BitVec.toNat_and, box_of b52, fieldAddr_of fa52_0, load_of ld3, fieldAddr_of fa52_4, load_of ld2, fieldAddr_of fa52_1, fieldAddr_of fa52_2, fieldAddr_of fa52_3, buildSlice_of u82 bs3 rfl, len_slice u82, index_slice u82 sz3, hlt, hlt', em, lr, c1]
          exact ⟨hR (fun h => by have := h.1; omega), k12⟩
        by_cases c2 : 16 ≤ r
        · simp [-Int.natCast_add, -BitVec.toNat_or, -BitVec.toNat_ofInt, -BitVec.toNat_and, box_of b52, fieldAddr_of fa52_0, load_of ld3, fieldAddr_of fa52_4, load_of ld2, fieldAddr_of fa52_1, fieldAddr_of fa52_2, fieldAddr_of fa52_3, buildSlice_of u82 bs3 rfl, len_slice u82, index_slice u82 sz3, hlt, hlt', em, lr, c1, c2]
          exact ⟨hR (fun h => by have := h.2.1; omega), k12⟩
        by_cases c3 : regsP x.1 ≤ i
        · have c3' : ((regsP x.1 : Nat) : Int) ≤ i := by omega
          by_cases c4 : r = 0
          · simp [-Int.natCast_add, -BitVec.toNat_or, -BitVec.toNat_ofInt, -BitVec.toNat_and, box_of b52, fieldAddr_of fa52_0, load_of ld3, fieldAddr_of fa52_4, load_of ld2, fieldAddr_of fa52_1, fieldAddr_of fa52_2, fieldAddr_of fa52_3, buildSlice_of u82 bs3 rfl, len_slice u82, index_slice u82 sz3, hlt, hlt', em, lr, c1, c2, l0, cR, c3, c3', c4, wi]
            exact ih _ _ _ _ ⟨i + 1, rfl, by omega, hnext ⟨by omega, by omega, fun _ => c4⟩, rfl, rfl⟩ (by omega) ⟨by rfl, by rfl, by rfl, by rfl, trivial⟩
          · simp [-Int.natCast_add, -BitVec.toNat_or, -BitVec.toNat_ofInt, -BitVec.toNat_and, box_of b52, fieldAddr_of fa52_0, load_of ld3, fieldAddr_of fa52_4, load_of ld2, fieldAddr_of fa52_1, fieldAddr_of fa52_2, fieldAddr_of fa52_3, buildSlice_of u82 bs3 rfl, len_slice u82, index_slice u82 sz3, hlt, hlt', em, lr, c1, c2, l0, cR, c3, c3', c4]
            exact ⟨hR (fun h => c4 (h.2.2 c3)), k12⟩
        · have c3' : ¬ ((regsP x.1 : Nat) : Int) ≤ i := by omega
          simp [-Int.natCast_add, -BitVec.toNat_or, -BitVec.toNat_ofInt, -BitVec.toNat_and, box_of b52, fieldAddr_of fa52_0, load_of ld3, fieldAddr_of fa52_4, load_of ld2, fieldAddr_of fa52_1, fieldAddr_of fa52_2, fieldAddr_of fa52_3, buildSlice_of u82 bs3 rfl, len_slice u82, index_slice u82 sz3, hlt, hlt', em, lr, c1, c2, l0, cR, c3, c3', wi]
          exact ih _ _ _ _ ⟨i + 1, rfl, by omega, hnext ⟨by omega, by omega, fun h => absurd h c3⟩, rfl, rfl⟩ (by omega) ⟨by rfl, by rfl, by rfl, by rfl, trivial⟩
      · have hlt' : ¬ (i : Int) < 3 := by omega
        have e3 : i = 3 := by omega
        subst e3
        simp [-Int.natCast_add, -BitVec.toNat_or, -BitVec.toNat_ofInt, -BitVec.toNat_and, box_of b52, fieldAddr_of fa52_0, load_of ld3, fieldAddr_of fa52_4, load_of ld2, fieldAddr_of fa52_1, fieldAddr_of fa52_2, fieldAddr_of fa52_3, buildSlice_of u82 bs3 rfl, len_slice u82, index_slice u82 sz3, hlt']
        exact ⟨⟨hop.1, hop.2, hnum, hall 0 (by omega), hall 1 (by omega), hall 2 (by omega)⟩, k12⟩
  · have hne : (nameF x.1).isEmpty = true := by rw [(nameF_ne x.1).2 hop]; rfl
    have hno : ¬ RightI x size := fun h => hop ⟨h.1, h.2.1⟩
    simp [-Int.natCast_add, -BitVec.toNat_or, -BitVec.toNat_ofInt, -BitVec.toNat_and, box_of b52, fieldAddr_of fa52_0, load_of ld3, fieldAddr_of fa52_4, load_of ld2, fieldAddr_of fa52_1, fieldAddr_of fa52_2, fieldAddr_of fa52_3, buildSlice_of u82 bs3 rfl, len_slice u82, index_slice u82 sz3, hnm, hne, l0]
    exact ⟨hno, k1⟩
set_option maxHeartbeats 8000000 in
theorem ins_run (hN : Nr S) (x : In5) {size : Nat} (hs : size ≤ 4611686018427387904) :
    ∃ v m1, callw Tryd.prog TT S 25 [.agg (icl x).toArray, .int .i64 size] m = some (v, m1) ∧ (∃ b : Bool, v = .bool b ∧ (b = true ↔ RightI x size)) ∧ Keeps m m1 [] := by
  have ws : IntKind.i64.wrap (size : Int) = (size : Int) := wrap_i64 (by omega) (by omega)
  obtain ⟨o1, k1, n1⟩ := new_own (m := m) (cs := icl x) (e := 52) rfl
  have l0 := o1.load1 (off := 0) rfl
  have l1 := o1.load1 (off := 1) rfl
  have l2 := o1.load1 (off := 2) rfl
  have l3 := o1.load1 (off := 3) rfl
  have l4 := o1.load1 (off := 4) rfl
  refine fn_w 67 [67, 67, 78, 78, 90, 90, 90] k25 hN.ins rfl ?_
  by_cases hop : 1 ≤ x.1 ∧ x.1 ≤ 27
  · have h1 : ¬ x.1 < 1 := by omega
    have h2 : ¬ 27 < x.1 := by omega
    have cS := shape_run (m := m.new (icl x) 52) hN.shape hop
    simp [-Int.natCast_add, -BitVec.toNat_or, -BitVec.toNat_ofInt, -BitVec.toNat_and, box_of b52, fieldAddr_of fa52_0, load_of ld3, fieldAddr_of fa52_1, fieldAddr_of fa52_2, fieldAddr_of fa52_3, build_arr u80 sz3 zo80, alloc_of zo80, store_of sz80, indexAddr_arr u80 sz3, fieldAddr_of fa52_4, load_of ld2, l0, l1, l2, l3, l4, h1, h2, cS]
    obtain ⟨o2, k2, n2⟩ := new_own (m := m.new (icl x) 52) (cs := [.int .i64 0, .int .i64 0, .int .i64 0]) (e := 80) rfl
    obtain ⟨m3, e3, o3, k3⟩ := store_own (r := _) rfl o2 (off := 0) (vs := (regL x).map (Value.int .i64)) (by simp [regL]) (by simp [one_int, regL])
    simp [over, regL] at o3
    simp [regL] at e3
    have k23 := k2.fresh k3 (by simp)
    have k12 := k1.trans k23
    have l0' := (o1.keep k23 (by simp)).load1 (off := 0) rfl
    have l4' := (o1.keep k23 (by simp)).load1 (off := 4) rfl
    simp [-Int.natCast_add, -BitVec.toNat_or, -BitVec.toNat_ofInt, -BitVec.toNat_and, box_of b52, fieldAddr_of fa52_0, load_of ld3, fieldAddr_of fa52_1, fieldAddr_of fa52_2, fieldAddr_of fa52_3, build_arr u80 sz3 zo80, alloc_of zo80, store_of sz80, indexAddr_arr u80 sz3, fieldAddr_of fa52_4, load_of ld2, e3]
    generalize (m.new (icl x) 52).next = sb at *
    have hx : hasN x.1 = decide (x.1 = 1 ∨ x.1 = 3 ∨ x.1 = 4 ∨ x.1 = 24 ∨ x.1 = 25 ∨ x.1 = 19 ∨ x.1 = 21 ∨ x.1 = 23 ∨ x.1 = 26 ∨ x.1 = 27) := rfl
    refine wsem_loop 67 [67, 67, 78, 78, 90, 90, 90] (fun d E m2 => ∃ i : Nat, 3 - i = d ∧ i ≤ 3 ∧ (∀ j, j < i → regP j x.1 ((regL x).getD j 0)) ∧ m2 = m3 ∧ E = [(1, .int .i64 size), (2, .pointer (some ⟨m.next, 0, none⟩)), (5, .int .i64 (regsP x.1 : Nat)), (6, .bool (hasN x.1)), (7, .pointer (some ⟨sb, 0, none⟩)), (8, .int .i64 i)]) _ ⟨_, ⟨0, rfl, by omega, fun j hj => absurd hj (by omega), rfl, rfl⟩, ⟨by rfl, by rfl, by rfl, by rfl, by rfl, by rfl, trivial⟩⟩ ?_
    rintro d E m2 ih ⟨i, hd, hi, hall, rfl, rfl⟩
    by_cases hlt : i < 3
    · have em : (i : Int) ≤ 9223372036854775807 := by omega
      have hlt' : (i : Int) < 3 := by omega
      have wi : IntKind.i64.wrap ((i : Int) + 1) = ((i + 1 : Nat) : Int) := by rw [wrap_i64 (by omega) (by omega)]; omega
      have lr : loadRow m2 ⟨sb, i, none⟩ 1 = some [.int .i64 ((regL x).getD i 0)] := o3.load1 (by
        rcases (by omega : i = 0 ∨ i = 1 ∨ i = 2) with rfl | rfl | rfl <;> rfl)
      have hR : ¬ regP i x.1 ((regL x).getD i 0) → ¬ RightI x size := fun h hr => h (by
        rcases (by omega : i = 0 ∨ i = 1 ∨ i = 2) with rfl | rfl | rfl
        · exact hr.2.2.2.1
        · exact hr.2.2.2.2.1
        · exact hr.2.2.2.2.2)
      have hnext : regP i x.1 ((regL x).getD i 0) → ∀ j, j < i + 1 → regP j x.1 ((regL x).getD j 0) := fun h j hj => by
        rcases (by omega : j < i ∨ j = i) with h1 | rfl
        · exact hall j h1
        · exact h
      generalize (regL x).getD i 0 = r at *
      by_cases c3 : i < regsP x.1
      · have c3' : (i : Int) < (regsP x.1 : Nat) := by omega
        have c5 : ¬ regsP x.1 ≤ i := by omega
        have c5' : ¬ ((regsP x.1 : Nat) : Int) ≤ i := by omega
        by_cases c1 : r < 0
        · simp [-Int.natCast_add, -BitVec.toNat_or, -BitVec.toNat_ofInt, -BitVec.toNat_and, box_of b52, fieldAddr_of fa52_0, load_of ld3, fieldAddr_of fa52_1, fieldAddr_of fa52_2, fieldAddr_of fa52_3, build_arr u80 sz3 zo80, alloc_of zo80, store_of sz80, indexAddr_arr u80 sz3, fieldAddr_of fa52_4, load_of ld2, hlt, hlt', em, lr, c1, c3, c3']
          exact ⟨hR (fun h => by have := h.1; omega), k12⟩
        by_cases c2 : 15 < r
        · simp [-Int.natCast_add, -BitVec.toNat_or, -BitVec.toNat_ofInt, -BitVec.toNat_and, box_of b52, fieldAddr_of fa52_0, load_of ld3, fieldAddr_of fa52_1, fieldAddr_of fa52_2, fieldAddr_of fa52_3, build_arr u80 sz3 zo80, alloc_of zo80, store_of sz80, indexAddr_arr u80 sz3, fieldAddr_of fa52_4, load_of ld2, hlt, hlt', em, lr, c1, c2, c3, c3']
          exact ⟨hR (fun h => by have := h.2.1; omega), k12⟩
        simp [-Int.natCast_add, -BitVec.toNat_or, -BitVec.toNat_ofInt, -BitVec.toNat_and, box_of b52, fieldAddr_of fa52_0, load_of ld3, fieldAddr_of fa52_1, fieldAddr_of fa52_2, fieldAddr_of fa52_3, build_arr u80 sz3 zo80, alloc_of zo80, store_of sz80, indexAddr_arr u80 sz3, fieldAddr_of fa52_4, load_of ld2, hlt, hlt', em, lr, c1, c2, c3, c3', c5, c5', wi]
        exact ih _ _ _ _ ⟨i + 1, rfl, by omega, hnext ⟨by omega, by omega, fun h => absurd h c5⟩, rfl, rfl⟩ (by omega) ⟨by rfl, by rfl, by rfl, by rfl, by rfl, by rfl, trivial⟩
      · have c3' : ¬ (i : Int) < (regsP x.1 : Nat) := by omega
        have c5 : regsP x.1 ≤ i := by omega
        have c5' : ((regsP x.1 : Nat) : Int) ≤ i := by omega
        by_cases c4 : r = 0
        · simp [-Int.natCast_add, -BitVec.toNat_or, -BitVec.toNat_ofInt, -BitVec.toNat_and, box_of b52, fieldAddr_of fa52_0, load_of ld3, fieldAddr_of fa52_1, fieldAddr_of fa52_2, fieldAddr_of fa52_3, build_arr u80 sz3 zo80, alloc_of zo80, store_of sz80, indexAddr_arr u80 sz3, fieldAddr_of fa52_4, load_of ld2, hlt, hlt', em, lr, c3, c3', c4, c5, c5', wi]
          exact ih _ _ _ _ ⟨i + 1, rfl, by omega, hnext ⟨by omega, by omega, fun _ => c4⟩, rfl, rfl⟩ (by omega) ⟨by rfl, by rfl, by rfl, by rfl, by rfl, by rfl, trivial⟩
        · simp [-Int.natCast_add, -BitVec.toNat_or, -BitVec.toNat_ofInt, -BitVec.toNat_and, box_of b52, fieldAddr_of fa52_0, load_of ld3, fieldAddr_of fa52_1, fieldAddr_of fa52_2, fieldAddr_of fa52_3, build_arr u80 sz3 zo80, alloc_of zo80, store_of sz80, indexAddr_arr u80 sz3, fieldAddr_of fa52_4, load_of ld2, hlt, hlt', em, lr, c3, c3', c4, c5, c5']
          exact ⟨hR (fun h => c4 (h.2.2 c5)), k12⟩
    · have hlt' : ¬ (i : Int) < 3 := by omega
      have e3 : i = 3 := by omega
      subst e3
      have hfin : numP x.1 x.2.2.2.2 size → RightI x size := fun h => ⟨hop.1, hop.2, h, hall 0 (by omega), hall 1 (by omega), hall 2 (by omega)⟩
      have hbad : ¬ numP x.1 x.2.2.2.2 size → ¬ RightI x size := fun h hr => h hr.2.2.1
      clear ih hall
      obtain ⟨n, hn⟩ : ∃ n, x.2.2.2.2 = n := ⟨_, rfl⟩
      obtain ⟨op, hop_⟩ : ∃ op, x.1 = op := ⟨_, rfl⟩
      simp only [hn, hop_] at l0' l4' hfin hbad hx hop ⊢
      by_cases hh : op = 1 ∨ op = 3 ∨ op = 4 ∨ op = 24 ∨ op = 25 ∨ op = 19 ∨ op = 21 ∨ op = 23 ∨ op = 26 ∨ op = 27
      · rw [decide_eq_true hh] at hx
        rcases hh with rfl | rfl | rfl | rfl | rfl | rfl | rfl | rfl | rfl | rfl
        · simp [-Int.natCast_add, -BitVec.toNat_or, -BitVec.toNat_ofInt, -BitVec.toNat_and, box_of b52, fieldAddr_of fa52_0, load_of ld3, fieldAddr_of fa52_1, fieldAddr_of fa52_2, fieldAddr_of fa52_3, build_arr u80 sz3 zo80, alloc_of zo80, store_of sz80, indexAddr_arr u80 sz3, fieldAddr_of fa52_4, load_of ld2, hlt', l0', l4', hx]
          exact ⟨hfin (by simp [numP]), k12⟩
        · by_cases c1 : 0 ≤ n
          · by_cases c2 : n < 400
            · simp [-Int.natCast_add, -BitVec.toNat_or, -BitVec.toNat_ofInt, -BitVec.toNat_and, box_of b52, fieldAddr_of fa52_0, load_of ld3, fieldAddr_of fa52_1, fieldAddr_of fa52_2, fieldAddr_of fa52_3, build_arr u80 sz3 zo80, alloc_of zo80, store_of sz80, indexAddr_arr u80 sz3, fieldAddr_of fa52_4, load_of ld2, hlt', l0', l4', hx, c1, c2, ws]
              exact ⟨hfin (by simp [numP, c1, c2]), k12⟩
            · simp [-Int.natCast_add, -BitVec.toNat_or, -BitVec.toNat_ofInt, -BitVec.toNat_and, box_of b52, fieldAddr_of fa52_0, load_of ld3, fieldAddr_of fa52_1, fieldAddr_of fa52_2, fieldAddr_of fa52_3, build_arr u80 sz3 zo80, alloc_of zo80, store_of sz80, indexAddr_arr u80 sz3, fieldAddr_of fa52_4, load_of ld2, hlt', l0', l4', hx, c1, c2, ws]
              exact ⟨fun h => hbad (by simp [numP, c1, c2]) h, k12⟩
          · simp [-Int.natCast_add, -BitVec.toNat_or, -BitVec.toNat_ofInt, -BitVec.toNat_and, box_of b52, fieldAddr_of fa52_0, load_of ld3, fieldAddr_of fa52_1, fieldAddr_of fa52_2, fieldAddr_of fa52_3, build_arr u80 sz3 zo80, alloc_of zo80, store_of sz80, indexAddr_arr u80 sz3, fieldAddr_of fa52_4, load_of ld2, hlt', l0', l4', hx, c1, ws]
            exact ⟨fun h => hbad (by simp [numP, c1]) h, k12⟩
        · by_cases c1 : 0 ≤ n
          · by_cases c2 : n < 400
            · simp [-Int.natCast_add, -BitVec.toNat_or, -BitVec.toNat_ofInt, -BitVec.toNat_and, box_of b52, fieldAddr_of fa52_0, load_of ld3, fieldAddr_of fa52_1, fieldAddr_of fa52_2, fieldAddr_of fa52_3, build_arr u80 sz3 zo80, alloc_of zo80, store_of sz80, indexAddr_arr u80 sz3, fieldAddr_of fa52_4, load_of ld2, hlt', l0', l4', hx, c1, c2, ws]
              exact ⟨hfin (by simp [numP, c1, c2]), k12⟩
            · simp [-Int.natCast_add, -BitVec.toNat_or, -BitVec.toNat_ofInt, -BitVec.toNat_and, box_of b52, fieldAddr_of fa52_0, load_of ld3, fieldAddr_of fa52_1, fieldAddr_of fa52_2, fieldAddr_of fa52_3, build_arr u80 sz3 zo80, alloc_of zo80, store_of sz80, indexAddr_arr u80 sz3, fieldAddr_of fa52_4, load_of ld2, hlt', l0', l4', hx, c1, c2, ws]
              exact ⟨fun h => hbad (by simp [numP, c1, c2]) h, k12⟩
          · simp [-Int.natCast_add, -BitVec.toNat_or, -BitVec.toNat_ofInt, -BitVec.toNat_and, box_of b52, fieldAddr_of fa52_0, load_of ld3, fieldAddr_of fa52_1, fieldAddr_of fa52_2, fieldAddr_of fa52_3, build_arr u80 sz3 zo80, alloc_of zo80, store_of sz80, indexAddr_arr u80 sz3, fieldAddr_of fa52_4, load_of ld2, hlt', l0', l4', hx, c1, ws]
            exact ⟨fun h => hbad (by simp [numP, c1]) h, k12⟩
        · by_cases c1 : 0 ≤ n
          · by_cases c2 : n ≤ size
            · simp [-Int.natCast_add, -BitVec.toNat_or, -BitVec.toNat_ofInt, -BitVec.toNat_and, box_of b52, fieldAddr_of fa52_0, load_of ld3, fieldAddr_of fa52_1, fieldAddr_of fa52_2, fieldAddr_of fa52_3, build_arr u80 sz3 zo80, alloc_of zo80, store_of sz80, indexAddr_arr u80 sz3, fieldAddr_of fa52_4, load_of ld2, hlt', l0', l4', hx, c1, c2, ws]
              exact ⟨hfin (by simp [numP, c1, c2]), k12⟩
            · simp [-Int.natCast_add, -BitVec.toNat_or, -BitVec.toNat_ofInt, -BitVec.toNat_and, box_of b52, fieldAddr_of fa52_0, load_of ld3, fieldAddr_of fa52_1, fieldAddr_of fa52_2, fieldAddr_of fa52_3, build_arr u80 sz3 zo80, alloc_of zo80, store_of sz80, indexAddr_arr u80 sz3, fieldAddr_of fa52_4, load_of ld2, hlt', l0', l4', hx, c1, c2, ws]
              exact ⟨fun h => hbad (by simp [numP, c1, c2]) h, k12⟩
          · simp [-Int.natCast_add, -BitVec.toNat_or, -BitVec.toNat_ofInt, -BitVec.toNat_and, box_of b52, fieldAddr_of fa52_0, load_of ld3, fieldAddr_of fa52_1, fieldAddr_of fa52_2, fieldAddr_of fa52_3, build_arr u80 sz3 zo80, alloc_of zo80, store_of sz80, indexAddr_arr u80 sz3, fieldAddr_of fa52_4, load_of ld2, hlt', l0', l4', hx, c1, ws]
            exact ⟨fun h => hbad (by simp [numP, c1]) h, k12⟩
        · by_cases c1 : 0 ≤ n
          · by_cases c2 : n ≤ 1048576
            · simp [-Int.natCast_add, -BitVec.toNat_or, -BitVec.toNat_ofInt, -BitVec.toNat_and, box_of b52, fieldAddr_of fa52_0, load_of ld3, fieldAddr_of fa52_1, fieldAddr_of fa52_2, fieldAddr_of fa52_3, build_arr u80 sz3 zo80, alloc_of zo80, store_of sz80, indexAddr_arr u80 sz3, fieldAddr_of fa52_4, load_of ld2, hlt', l0', l4', hx, c1, c2, ws]
              exact ⟨hfin (by simp [numP, c1, c2]), k12⟩
            · simp [-Int.natCast_add, -BitVec.toNat_or, -BitVec.toNat_ofInt, -BitVec.toNat_and, box_of b52, fieldAddr_of fa52_0, load_of ld3, fieldAddr_of fa52_1, fieldAddr_of fa52_2, fieldAddr_of fa52_3, build_arr u80 sz3 zo80, alloc_of zo80, store_of sz80, indexAddr_arr u80 sz3, fieldAddr_of fa52_4, load_of ld2, hlt', l0', l4', hx, c1, c2, ws]
              exact ⟨fun h => hbad (by simp [numP, c1, c2]) h, k12⟩
          · simp [-Int.natCast_add, -BitVec.toNat_or, -BitVec.toNat_ofInt, -BitVec.toNat_and, box_of b52, fieldAddr_of fa52_0, load_of ld3, fieldAddr_of fa52_1, fieldAddr_of fa52_2, fieldAddr_of fa52_3, build_arr u80 sz3 zo80, alloc_of zo80, store_of sz80, indexAddr_arr u80 sz3, fieldAddr_of fa52_4, load_of ld2, hlt', l0', l4', hx, c1, ws]
            exact ⟨fun h => hbad (by simp [numP, c1]) h, k12⟩
        · simp [-Int.natCast_add, -BitVec.toNat_or, -BitVec.toNat_ofInt, -BitVec.toNat_and, box_of b52, fieldAddr_of fa52_0, load_of ld3, fieldAddr_of fa52_1, fieldAddr_of fa52_2, fieldAddr_of fa52_3, build_arr u80 sz3 zo80, alloc_of zo80, store_of sz80, indexAddr_arr u80 sz3, fieldAddr_of fa52_4, load_of ld2, hlt', l0', l4', hx]
          exact ⟨hfin (by simp [numP]), k12⟩
        · simp [-Int.natCast_add, -BitVec.toNat_or, -BitVec.toNat_ofInt, -BitVec.toNat_and, box_of b52, fieldAddr_of fa52_0, load_of ld3, fieldAddr_of fa52_1, fieldAddr_of fa52_2, fieldAddr_of fa52_3, build_arr u80 sz3 zo80, alloc_of zo80, store_of sz80, indexAddr_arr u80 sz3, fieldAddr_of fa52_4, load_of ld2, hlt', l0', l4', hx]
          exact ⟨hfin (by simp [numP]), k12⟩
        · by_cases c1 : 0 ≤ n
          · by_cases c2 : n ≤ size
            · simp [-Int.natCast_add, -BitVec.toNat_or, -BitVec.toNat_ofInt, -BitVec.toNat_and, box_of b52, fieldAddr_of fa52_0, load_of ld3, fieldAddr_of fa52_1, fieldAddr_of fa52_2, fieldAddr_of fa52_3, build_arr u80 sz3 zo80, alloc_of zo80, store_of sz80, indexAddr_arr u80 sz3, fieldAddr_of fa52_4, load_of ld2, hlt', l0', l4', hx, c1, c2, ws]
              exact ⟨hfin (by simp [numP, c1, c2]), k12⟩
            · simp [-Int.natCast_add, -BitVec.toNat_or, -BitVec.toNat_ofInt, -BitVec.toNat_and, box_of b52, fieldAddr_of fa52_0, load_of ld3, fieldAddr_of fa52_1, fieldAddr_of fa52_2, fieldAddr_of fa52_3, build_arr u80 sz3 zo80, alloc_of zo80, store_of sz80, indexAddr_arr u80 sz3, fieldAddr_of fa52_4, load_of ld2, hlt', l0', l4', hx, c1, c2, ws]
              exact ⟨fun h => hbad (by simp [numP, c1, c2]) h, k12⟩
          · simp [-Int.natCast_add, -BitVec.toNat_or, -BitVec.toNat_ofInt, -BitVec.toNat_and, box_of b52, fieldAddr_of fa52_0, load_of ld3, fieldAddr_of fa52_1, fieldAddr_of fa52_2, fieldAddr_of fa52_3, build_arr u80 sz3 zo80, alloc_of zo80, store_of sz80, indexAddr_arr u80 sz3, fieldAddr_of fa52_4, load_of ld2, hlt', l0', l4', hx, c1, ws]
            exact ⟨fun h => hbad (by simp [numP, c1]) h, k12⟩
        · by_cases c1 : 0 ≤ n
          · by_cases c2 : n ≤ 1048576
            · simp [-Int.natCast_add, -BitVec.toNat_or, -BitVec.toNat_ofInt, -BitVec.toNat_and, box_of b52, fieldAddr_of fa52_0, load_of ld3, fieldAddr_of fa52_1, fieldAddr_of fa52_2, fieldAddr_of fa52_3, build_arr u80 sz3 zo80, alloc_of zo80, store_of sz80, indexAddr_arr u80 sz3, fieldAddr_of fa52_4, load_of ld2, hlt', l0', l4', hx, c1, c2, ws]
              exact ⟨hfin (by simp [numP, c1, c2]), k12⟩
            · simp [-Int.natCast_add, -BitVec.toNat_or, -BitVec.toNat_ofInt, -BitVec.toNat_and, box_of b52, fieldAddr_of fa52_0, load_of ld3, fieldAddr_of fa52_1, fieldAddr_of fa52_2, fieldAddr_of fa52_3, build_arr u80 sz3 zo80, alloc_of zo80, store_of sz80, indexAddr_arr u80 sz3, fieldAddr_of fa52_4, load_of ld2, hlt', l0', l4', hx, c1, c2, ws]
              exact ⟨fun h => hbad (by simp [numP, c1, c2]) h, k12⟩
          · simp [-Int.natCast_add, -BitVec.toNat_or, -BitVec.toNat_ofInt, -BitVec.toNat_and, box_of b52, fieldAddr_of fa52_0, load_of ld3, fieldAddr_of fa52_1, fieldAddr_of fa52_2, fieldAddr_of fa52_3, build_arr u80 sz3 zo80, alloc_of zo80, store_of sz80, indexAddr_arr u80 sz3, fieldAddr_of fa52_4, load_of ld2, hlt', l0', l4', hx, c1, ws]
            exact ⟨fun h => hbad (by simp [numP, c1]) h, k12⟩
        · by_cases c1 : 0 ≤ n
          · by_cases c2 : n ≤ 1048576
            · simp [-Int.natCast_add, -BitVec.toNat_or, -BitVec.toNat_ofInt, -BitVec.toNat_and, box_of b52, fieldAddr_of fa52_0, load_of ld3, fieldAddr_of fa52_1, fieldAddr_of fa52_2, fieldAddr_of fa52_3, build_arr u80 sz3 zo80, alloc_of zo80, store_of sz80, indexAddr_arr u80 sz3, fieldAddr_of fa52_4, load_of ld2, hlt', l0', l4', hx, c1, c2, ws]
              exact ⟨hfin (by simp [numP, c1, c2]), k12⟩
            · simp [-Int.natCast_add, -BitVec.toNat_or, -BitVec.toNat_ofInt, -BitVec.toNat_and, box_of b52, fieldAddr_of fa52_0, load_of ld3, fieldAddr_of fa52_1, fieldAddr_of fa52_2, fieldAddr_of fa52_3, build_arr u80 sz3 zo80, alloc_of zo80, store_of sz80, indexAddr_arr u80 sz3, fieldAddr_of fa52_4, load_of ld2, hlt', l0', l4', hx, c1, c2, ws]
              exact ⟨fun h => hbad (by simp [numP, c1, c2]) h, k12⟩
          · simp [-Int.natCast_add, -BitVec.toNat_or, -BitVec.toNat_ofInt, -BitVec.toNat_and, box_of b52, fieldAddr_of fa52_0, load_of ld3, fieldAddr_of fa52_1, fieldAddr_of fa52_2, fieldAddr_of fa52_3, build_arr u80 sz3 zo80, alloc_of zo80, store_of sz80, indexAddr_arr u80 sz3, fieldAddr_of fa52_4, load_of ld2, hlt', l0', l4', hx, c1, ws]
            exact ⟨fun h => hbad (by simp [numP, c1]) h, k12⟩
      · rw [decide_eq_false hh] at hx
        have hnp : numP op n size ↔ n = 0 := by
          unfold numP
          rw [if_neg (by omega), if_neg (by omega), if_neg (by omega), if_neg (by omega)]
        by_cases c1 : n = 0
        · simp [-Int.natCast_add, -BitVec.toNat_or, -BitVec.toNat_ofInt, -BitVec.toNat_and, box_of b52, fieldAddr_of fa52_0, load_of ld3, fieldAddr_of fa52_1, fieldAddr_of fa52_2, fieldAddr_of fa52_3, build_arr u80 sz3 zo80, alloc_of zo80, store_of sz80, indexAddr_arr u80 sz3, fieldAddr_of fa52_4, load_of ld2, hlt', l0', l4', hx, c1]
          exact ⟨hfin (hnp.2 c1), k12⟩
        · simp [-Int.natCast_add, -BitVec.toNat_or, -BitVec.toNat_ofInt, -BitVec.toNat_and, box_of b52, fieldAddr_of fa52_0, load_of ld3, fieldAddr_of fa52_1, fieldAddr_of fa52_2, fieldAddr_of fa52_3, build_arr u80 sz3 zo80, alloc_of zo80, store_of sz80, indexAddr_arr u80 sz3, fieldAddr_of fa52_4, load_of ld2, hlt', l0', l4', hx, c1]
          exact ⟨hbad (fun h => c1 (hnp.1 h)), k12⟩
  · have hno : ¬ RightI x size := fun h => hop ⟨h.1, h.2.1⟩
    by_cases h1 : x.1 < 1
    · simp [-Int.natCast_add, -BitVec.toNat_or, -BitVec.toNat_ofInt, -BitVec.toNat_and, box_of b52, fieldAddr_of fa52_0, load_of ld3, fieldAddr_of fa52_1, fieldAddr_of fa52_2, fieldAddr_of fa52_3, build_arr u80 sz3 zo80, alloc_of zo80, store_of sz80, indexAddr_arr u80 sz3, fieldAddr_of fa52_4, load_of ld2, l0, h1]
      exact ⟨hno, k1⟩
    · have h2 : 27 < x.1 := by omega
      simp [-Int.natCast_add, -BitVec.toNat_or, -BitVec.toNat_ofInt, -BitVec.toNat_and, box_of b52, fieldAddr_of fa52_0, load_of ld3, fieldAddr_of fa52_1, fieldAddr_of fa52_2, fieldAddr_of fa52_3, build_arr u80 sz3 zo80, alloc_of zo80, store_of sz80, indexAddr_arr u80 sz3, fieldAddr_of fa52_4, load_of ld2, l0, h1, h2]
      exact ⟨hno, k1⟩
end Go.Proofs.YtkcehgajpalgnaaDoor.base

