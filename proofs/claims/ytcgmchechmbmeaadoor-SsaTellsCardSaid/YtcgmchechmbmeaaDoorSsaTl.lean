/-
  This text proves what ssa.Uses, Pure, Name and the document's Uses, Pure answer over the abstract run, for any value.
  Condition: of their calls nothing is known ahead but ssa.Name's at the ops ('nmL').
-/
import Derived.Test.YtcgmchechmbmeaaDoorSsaNm
set_option maxRecDepth 100000
set_option linter.unusedSimpArgs false
set_option linter.unusedVariables false
namespace Go.Proofs.YtcgmchechmbmeaaDoor.base
open Go.Sh gen
variable {S : Sums} {m : Mem}
abbrev ValT : Ty := (Ty.pair (Ty.int .i64) (Ty.pair (Ty.int .i64) (Ty.pair (Ty.int .i64) (Ty.pair (Ty.int .i64) (Ty.pair (Ty.slice 3 (Ty.int .i64)) (Ty.pair (Ty.int .i64) Ty.unit))))))
theorem op_cases (op : Int) : op = 1 ∨ op = 2 ∨ op = 3 ∨ op = 4 ∨ op = 5 ∨ op = 6 ∨ op = 7 ∨ op = 8 ∨ op = 9 ∨ op = 10 ∨ op = 11 ∨ op = 12 ∨ op = 13 ∨ op = 14 ∨ op = 15 ∨ op = 16 ∨ op = 17 ∨ op = 18 ∨ op = 19 ∨ op = 20 ∨ op = 21 ∨ op = 22 ∨ op = 23 ∨ (op < 1 ∨ 23 < op) := by omega
theorem emod_tmod (x k : Int) (hk : 0 < k) : x % k = if x.tmod k < 0 then x.tmod k + k else x.tmod k := by
  have hx := Int.emod_nonneg x (by omega : k ≠ 0)
  have hx2 := Int.emod_lt_of_pos x hk
  split
  · rename_i h
    have : (x.tmod k + k) % k = x % k := by
      rw [Int.add_emod_right]
      have h3 := Int.tmod_add_mul_tdiv x k
      have : x.tmod k = x - k * x.tdiv k := by omega
      rw [this, Int.sub_mul_emod_self_left]
    rw [← this]
    have := Int.lt_tmod_of_pos x hk
    exact Int.emod_eq_of_lt (by omega) (by omega)
  · rename_i h
    have : (x.tmod k) % k = x % k := by
      have h3 := Int.tmod_add_mul_tdiv x k
      have : x.tmod k = x - k * x.tdiv k := by omega
      rw [this, Int.sub_mul_emod_self_left]
    rw [← this]
    have := Int.tmod_lt_of_pos x hk
    exact Int.emod_eq_of_lt (by omega) (by omega)
theorem pick_run (hS : S 16 = []) (x k : Int) (hk : 0 < k) (hk2 : k < 1000000) : callw Tryd.prog TT S 16 [.int .i64 x, .int .i64 k] m = some (.int .i64 (x % k), m) := by
  have hx := Int.emod_nonneg x (by omega : k ≠ 0)
  have hx2 := Int.emod_lt_of_pos x hk
  have hk0 : k ≠ 0 := by omega
  have hw : IntKind.i64.wrap (x % k) = x % k := wrap_i64 (by omega) (by omega)
  have e := emod_tmod x k hk
  refine fn_eq 5 [9] k16 hS rfl ?_
  by_cases h : x.tmod k < 0
  · rw [if_pos h] at e
    rw [e] at hw ⊢
    simp [-BitVec.toNat_or, -BitVec.toNat_ofInt, -BitVec.toNat_and, id, hk0, h, hw]
  · rw [if_neg h] at e
    rw [e]
    simp [-BitVec.toNat_or, -BitVec.toNat_ofInt, -BitVec.toNat_and, id, hk0, h]
/-- an op's name -/
def nameF (op : Int) : List UInt8 := if 1 ≤ op ∧ op ≤ 23 then opsL.getD op.toNat [] else []
theorem nameF_ne (op : Int) : (nameF op = []) ↔ ¬ (1 ≤ op ∧ op ≤ 23) := by
  rcases op_cases op with (rfl | rfl | rfl | rfl | rfl | rfl | rfl | rfl | rfl | rfl | rfl | rfl | rfl | rfl | rfl | rfl | rfl | rfl | rfl | rfl | rfl | rfl | rfl | hno)
  all_goals first
    | (simp [nameF, opsL]; done)
    | (unfold nameF; rw [if_neg (by omega)]; simp; omega)
theorem name_run (hS : S 15 = nmL) (op : Int) : callw Tryd.prog TT S 15 [.int .i64 op] m = some (.string ⟨(nameF op).toArray⟩, m) := by
  rcases op_cases op with (rfl | rfl | rfl | rfl | rfl | rfl | rfl | rfl | rfl | rfl | rfl | rfl | rfl | rfl | rfl | rfl | rfl | rfl | rfl | rfl | rfl | rfl | rfl | hno)
  · exact sum_at (p := ([.int .i64 1], .string ⟨(nameF 1).toArray⟩)) (by rw [hS]; rfl)
  · exact sum_at (p := ([.int .i64 2], .string ⟨(nameF 2).toArray⟩)) (by rw [hS]; rfl)
  · exact sum_at (p := ([.int .i64 3], .string ⟨(nameF 3).toArray⟩)) (by rw [hS]; rfl)
  · exact sum_at (p := ([.int .i64 4], .string ⟨(nameF 4).toArray⟩)) (by rw [hS]; rfl)
  · exact sum_at (p := ([.int .i64 5], .string ⟨(nameF 5).toArray⟩)) (by rw [hS]; rfl)
  · exact sum_at (p := ([.int .i64 6], .string ⟨(nameF 6).toArray⟩)) (by rw [hS]; rfl)
  · exact sum_at (p := ([.int .i64 7], .string ⟨(nameF 7).toArray⟩)) (by rw [hS]; rfl)
  · exact sum_at (p := ([.int .i64 8], .string ⟨(nameF 8).toArray⟩)) (by rw [hS]; rfl)
  · exact sum_at (p := ([.int .i64 9], .string ⟨(nameF 9).toArray⟩)) (by rw [hS]; rfl)
  · exact sum_at (p := ([.int .i64 10], .string ⟨(nameF 10).toArray⟩)) (by rw [hS]; rfl)
  · exact sum_at (p := ([.int .i64 11], .string ⟨(nameF 11).toArray⟩)) (by rw [hS]; rfl)
  · exact sum_at (p := ([.int .i64 12], .string ⟨(nameF 12).toArray⟩)) (by rw [hS]; rfl)
  · exact sum_at (p := ([.int .i64 13], .string ⟨(nameF 13).toArray⟩)) (by rw [hS]; rfl)
  · exact sum_at (p := ([.int .i64 14], .string ⟨(nameF 14).toArray⟩)) (by rw [hS]; rfl)
  · exact sum_at (p := ([.int .i64 15], .string ⟨(nameF 15).toArray⟩)) (by rw [hS]; rfl)
  · exact sum_at (p := ([.int .i64 16], .string ⟨(nameF 16).toArray⟩)) (by rw [hS]; rfl)
  · exact sum_at (p := ([.int .i64 17], .string ⟨(nameF 17).toArray⟩)) (by rw [hS]; rfl)
  · exact sum_at (p := ([.int .i64 18], .string ⟨(nameF 18).toArray⟩)) (by rw [hS]; rfl)
  · exact sum_at (p := ([.int .i64 19], .string ⟨(nameF 19).toArray⟩)) (by rw [hS]; rfl)
  · exact sum_at (p := ([.int .i64 20], .string ⟨(nameF 20).toArray⟩)) (by rw [hS]; rfl)
  · exact sum_at (p := ([.int .i64 21], .string ⟨(nameF 21).toArray⟩)) (by rw [hS]; rfl)
  · exact sum_at (p := ([.int .i64 22], .string ⟨(nameF 22).toArray⟩)) (by rw [hS]; rfl)
  · exact sum_at (p := ([.int .i64 23], .string ⟨(nameF 23).toArray⟩)) (by rw [hS]; rfl)
  · have hf : (S 15).find? (fun p => eqL p.1 [Value.int .i64 op]) = none := by
      rw [hS, List.find?_eq_none]
      intro p hp
      simp only [nmL, List.mem_cons, List.not_mem_nil, or_false] at hp
      rcases hp with rfl | rfl | rfl | rfl | rfl | rfl | rfl | rfl | rfl | rfl | rfl | rfl | rfl | rfl | rfl | rfl | rfl | rfl | rfl | rfl | rfl | rfl | rfl
      all_goals (simp [eqL, eqV]; omega)
    have e0 : nameF op = [] := by unfold nameF; rw [if_neg (by omega)]
    rw [e0]
    refine fn_eq2 3 [8] k15 hf rfl ?_
    rcases hno with h | h
    · simp [-BitVec.toNat_or, -BitVec.toNat_ofInt, -BitVec.toNat_and, index_slice u74 sz9, load_of ld9, h]
    · have h1 : ¬ op < 1 := by omega
      simp [-BitVec.toNat_or, -BitVec.toNat_ofInt, -BitVec.toNat_and, index_slice u74 sz9, load_of ld9, h, h1]
def pureF (op : Int) : Bool := decide (2 ≤ op ∧ op ≤ 16)
theorem pure_run (hS : S 14 = []) (op : Int) : callw Tryd.prog TT S 14 [.int .i64 op] m = some (.bool (pureF op), m) := by
  refine fn_eq 3 [] k14 hS rfl ?_
  by_cases h1 : 2 ≤ op
  · by_cases h2 : op ≤ 16
    · simp [-BitVec.toNat_or, -BitVec.toNat_ofInt, -BitVec.toNat_and, id, h1, h2, pureF]
    · simp [-BitVec.toNat_or, -BitVec.toNat_ofInt, -BitVec.toNat_and, id, h1, h2, pureF]
  · simp [-BitVec.toNat_or, -BitVec.toNat_ofInt, -BitVec.toNat_and, id, h1, pureF]
theorem rpure_run (hS : S 18 = []) (op : Int) : callw Tryd.prog TT S 18 [.int .i64 op] m = some (.bool (pureF op), m) := by
  refine fn_eq 3 [] k18 hS rfl ?_
  by_cases h1 : 2 ≤ op
  · by_cases h2 : op ≤ 16
    · simp [-BitVec.toNat_or, -BitVec.toNat_ofInt, -BitVec.toNat_and, id, h1, h2, pureF]
    · simp [-BitVec.toNat_or, -BitVec.toNat_ofInt, -BitVec.toNat_and, id, h1, h2, pureF]
  · simp [-BitVec.toNat_or, -BitVec.toNat_ofInt, -BitVec.toNat_and, id, h1, pureF]
def isTwo (op : Int) : Bool := [3, 4, 5, 6, 7, 10, 11, 12, 13, 14, 18, 19, 20].contains op
def isOne (op : Int) : Bool := [8, 9, 15, 16, 17, 22].contains op
def partsF (op : Int) : Nat := if isTwo op = true then 2 else if isOne op = true then 1 else 0
theorem parts_run (hS : S 42 = []) (op : Int) : callw Tryd.prog TT S 42 [.int .i64 op] m = some (.int .i64 (partsF op), m) := by
  refine fn_eq 4 [4, 4, 4, 4, 4, 4, 4, 4, 4, 4, 4, 4, 4, 18, 18, 18, 18, 18, 18] k42 hS rfl ?_
  rcases op_cases op with (rfl | rfl | rfl | rfl | rfl | rfl | rfl | rfl | rfl | rfl | rfl | rfl | rfl | rfl | rfl | rfl | rfl | rfl | rfl | rfl | rfl | rfl | rfl | hno)
  · simp [-Int.natCast_add, -BitVec.toNat_or, -BitVec.toNat_ofInt, -BitVec.toNat_and, id, partsF, isTwo, isOne]
  · simp [-Int.natCast_add, -BitVec.toNat_or, -BitVec.toNat_ofInt, -BitVec.toNat_and, id, partsF, isTwo, isOne]
  · simp [-Int.natCast_add, -BitVec.toNat_or, -BitVec.toNat_ofInt, -BitVec.toNat_and, id, partsF, isTwo, isOne]
  · simp [-Int.natCast_add, -BitVec.toNat_or, -BitVec.toNat_ofInt, -BitVec.toNat_and, id, partsF, isTwo, isOne]
  · simp [-Int.natCast_add, -BitVec.toNat_or, -BitVec.toNat_ofInt, -BitVec.toNat_and, id, partsF, isTwo, isOne]
  · simp [-Int.natCast_add, -BitVec.toNat_or, -BitVec.toNat_ofInt, -BitVec.toNat_and, id, partsF, isTwo, isOne]
  · simp [-Int.natCast_add, -BitVec.toNat_or, -BitVec.toNat_ofInt, -BitVec.toNat_and, id, partsF, isTwo, isOne]
  · simp [-Int.natCast_add, -BitVec.toNat_or, -BitVec.toNat_ofInt, -BitVec.toNat_and, id, partsF, isTwo, isOne]
  · simp [-Int.natCast_add, -BitVec.toNat_or, -BitVec.toNat_ofInt, -BitVec.toNat_and, id, partsF, isTwo, isOne]
  · simp [-Int.natCast_add, -BitVec.toNat_or, -BitVec.toNat_ofInt, -BitVec.toNat_and, id, partsF, isTwo, isOne]
  · simp [-Int.natCast_add, -BitVec.toNat_or, -BitVec.toNat_ofInt, -BitVec.toNat_and, id, partsF, isTwo, isOne]
  · simp [-Int.natCast_add, -BitVec.toNat_or, -BitVec.toNat_ofInt, -BitVec.toNat_and, id, partsF, isTwo, isOne]
  · simp [-Int.natCast_add, -BitVec.toNat_or, -BitVec.toNat_ofInt, -BitVec.toNat_and, id, partsF, isTwo, isOne]
  · simp [-Int.natCast_add, -BitVec.toNat_or, -BitVec.toNat_ofInt, -BitVec.toNat_and, id, partsF, isTwo, isOne]
  · simp [-Int.natCast_add, -BitVec.toNat_or, -BitVec.toNat_ofInt, -BitVec.toNat_and, id, partsF, isTwo, isOne]
  · simp [-Int.natCast_add, -BitVec.toNat_or, -BitVec.toNat_ofInt, -BitVec.toNat_and, id, partsF, isTwo, isOne]
  · simp [-Int.natCast_add, -BitVec.toNat_or, -BitVec.toNat_ofInt, -BitVec.toNat_and, id, partsF, isTwo, isOne]
  · simp [-Int.natCast_add, -BitVec.toNat_or, -BitVec.toNat_ofInt, -BitVec.toNat_and, id, partsF, isTwo, isOne]
  · simp [-Int.natCast_add, -BitVec.toNat_or, -BitVec.toNat_ofInt, -BitVec.toNat_and, id, partsF, isTwo, isOne]
  · simp [-Int.natCast_add, -BitVec.toNat_or, -BitVec.toNat_ofInt, -BitVec.toNat_and, id, partsF, isTwo, isOne]
  · simp [-Int.natCast_add, -BitVec.toNat_or, -BitVec.toNat_ofInt, -BitVec.toNat_and, id, partsF, isTwo, isOne]
  · simp [-Int.natCast_add, -BitVec.toNat_or, -BitVec.toNat_ofInt, -BitVec.toNat_and, id, partsF, isTwo, isOne]
  · simp [-Int.natCast_add, -BitVec.toNat_or, -BitVec.toNat_ofInt, -BitVec.toNat_and, id, partsF, isTwo, isOne]
  · have n1 : ¬ op = 1 := by omega
    have n2 : ¬ op = 2 := by omega
    have n3 : ¬ op = 3 := by omega
    have n4 : ¬ op = 4 := by omega
    have n5 : ¬ op = 5 := by omega
    have n6 : ¬ op = 6 := by omega
    have n7 : ¬ op = 7 := by omega
    have n8 : ¬ op = 8 := by omega
    have n9 : ¬ op = 9 := by omega
    have n10 : ¬ op = 10 := by omega
    have n11 : ¬ op = 11 := by omega
    have n12 : ¬ op = 12 := by omega
    have n13 : ¬ op = 13 := by omega
    have n14 : ¬ op = 14 := by omega
    have n15 : ¬ op = 15 := by omega
    have n16 : ¬ op = 16 := by omega
    have n17 : ¬ op = 17 := by omega
    have n18 : ¬ op = 18 := by omega
    have n19 : ¬ op = 19 := by omega
    have n20 : ¬ op = 20 := by omega
    have n21 : ¬ op = 21 := by omega
    have n22 : ¬ op = 22 := by omega
    have n23 : ¬ op = 23 := by omega
    simp [-Int.natCast_add, -BitVec.toNat_or, -BitVec.toNat_ofInt, -BitVec.toNat_and, id, partsF, isTwo, isOne, n1, n2, n3, n4, n5, n6, n7, n8, n9, n10, n11, n12, n13, n14, n15, n16, n17, n18, n19, n20, n21, n22, n23]
theorem partsF_le (op : Int) : partsF op ≤ 2 := by
  unfold partsF; split
  · omega
  · split <;> omega
/-- what a value takes -/
def usesF (op a b : Int) (l : List Int) : List Int := (if isTwo op = true then [a, b] else if isOne op = true then [a] else []) ++ (if op = 20 then l.take 1 else if op = 21 then l else [])
theorem ints_cells {l : List Int} {e : TypeId} {css : List (List Value)} (h2 : css.length = l.length) (h3 : ∀ (i : Nat) (d : (Ty.int .i64).D) c, l[i]? = some d → css[i]? = some c → At m (Ty.int .i64) d c) : css.flatten = l.map (Value.int .i64) := by
  have : css = l.map fun n => [Value.int .i64 n] := by
    apply List.ext_getElem?
    intro i
    by_cases hi : i < l.length
    · have hc : i < css.length := by omega
      have := h3 i l[i] css[i] (List.getElem?_eq_getElem hi) (List.getElem?_eq_getElem hc)
      simp only [At] at this
      simp [hi, hc, this]
    · rw [List.getElem?_eq_none (by omega), List.getElem?_eq_none (by simp; omega)]
  rw [this, ← List.flatMap_def]
  exact List.map_eq_flatMap.symm
theorem val_cells {x : ValT.D} {c : List Value} (h : At m ValT x c) : ∃ ao f, c = [.int .i64 x.1, .int .i64 x.2.1, .int .i64 x.2.2.1, .int .i64 x.2.2.2.1, .slice ao x.2.2.2.2.1.length x.2.2.2.2.1.length, .int .i64 x.2.2.2.2.2.1] ∧ Rs m ao x.2.2.2.2.1.length ((show List Int from x.2.2.2.2.1).map (Value.int .i64)) 3 1 f := by
  obtain ⟨_, _, rfl, rfl, _, _, rfl, rfl, _, _, rfl, rfl, _, _, rfl, rfl, _, _, rfl, ⟨ao, css, f, rfl, h2, h3, h4⟩, _, _, rfl, rfl, rfl⟩ := h
  rw [ints_cells (e := 3) h2 h3] at h4
  exact ⟨ao, f, rfl, h4⟩
theorem usesF_eq (op a b : Int) (l : List Int) : usesF op a b l = [a, b].take (partsF op) ++ (if op = 20 then l.take 1 else if op = 21 then l else []) := by
  unfold usesF partsF
  by_cases h1 : isTwo op = true
  · simp [h1]
  · by_cases h2 : isOne op = true
    · simp [h1, h2]
    · simp [h1, h2]
theorem uses_run (hS : S 13 = []) (hP : S 42 = []) {op a b n st : Int} {l : List Int} {ao : Option Addr} {f : Nat} (hl : l.length * 8 ≤ 140737488351232) (hr : Rs m ao l.length (l.map (Value.int .i64)) 3 1 f) (h20 : op = 20 → 0 < l.length) :
    ∃ v m1, callw Tryd.prog TT S 13 [.agg #[.int .i64 op, .int .i64 a, .int .i64 b, .int .i64 n, .slice ao l.length l.length, .int .i64 st]] m = some (v, m1) ∧ (∃ ao' f', v = .slice ao' (usesF op a b l).length (usesF op a b l).length ∧ Rs m1 ao' (usesF op a b l).length ((usesF op a b l).map (Value.int .i64)) 3 1 f') ∧ Keeps m m1 [] := by
  refine fn_w 17 [17, 28] k13 hS rfl ?_
  have pr := fun m' => parts_run (m := m') hP op
  simp [-Int.natCast_add, -w13_1, -BitVec.toNat_or, -BitVec.toNat_ofInt, -BitVec.toNat_and, box_of b43, buildSlice_of u22 bs3 rfl, fieldAddr_of fa43_1, load_of ld3, fieldAddr_of fa43_2, fieldAddr_of fa43_0, slice_sl u22 sz3, append_s u22 sz3, fieldAddr_of fa43_4, load_of ld22, len_slice u22]
  obtain ⟨o1, k1, n1⟩ := new_own (m := m) (cs := [.int .i64 op, .int .i64 a, .int .i64 b, .int .i64 n, .slice ao l.length l.length, .int .i64 st]) (e := 43) rfl
  generalize m.new _ 43 = m1 at *
  obtain ⟨vb, hvb⟩ : ∃ vb, m.next = vb := ⟨_, rfl⟩
  rw [hvb] at o1 n1 ⊢
  have l0 := o1.load1 (off := 0) rfl
  have l1 := o1.load1 (off := 1) rfl
  have l2 := o1.load1 (off := 2) rfl
  obtain ⟨bb, hbb⟩ : ∃ bb, m1.next = bb := ⟨_, rfl⟩
  obtain ⟨p, hp⟩ : ∃ p, partsF op = p := ⟨_, rfl⟩
  have hp2 : p ≤ 2 := by
    rw [← hp]; unfold partsF; split
    · omega
    · split <;> omega
  have hpi : (p : Int) ≤ 9223372036854775807 := by omega
  rw [hp] at pr
  apply cut2_ (fun (mX : Mem) (bX : Nat) => ∃ fX, Own mX bX (([a, b].take p).map (Value.int .i64)) 3 fX ∧ Own mX vb [.int .i64 op, .int .i64 a, .int .i64 b, .int .i64 n, .slice ao l.length l.length, .int .i64 st] 43 vb ∧ fX ≠ vb ∧ m.next ≤ fX ∧ Keeps m mX [])
  case main =>
    obtain ⟨o2, k2, n2⟩ := new_own (m := m1) (cs := [.int .i64 a, .int .i64 b]) (e := 3) rfl
    obtain ⟨o3, k3, n3⟩ := new_own (m := m1.new [.int .i64 a, .int .i64 b] 3) (cs := []) (e := 3) rfl
    have o23 := o2.keep k3 (by simp)
    rw [hbb] at o23 o2
    have ld := o23.load (off := 0) p (by simp; omega)
    have el : elemIs (m1.new [Value.int IntKind.i64 a, Value.int IntKind.i64 b] 3) bb 3 = true := by unfold elemIs; rw [o2.blk]; simp
    obtain ⟨cb, hcb⟩ : ∃ cb, (m1.new [Value.int IntKind.i64 a, Value.int IntKind.i64 b] 3).next = cb := ⟨_, rfl⟩
    have ncb : m1.next < cb := by rw [← hcb]; exact n2
    rw [hcb] at o3
    have news : window [Value.int IntKind.i64 a, Value.int IntKind.i64 b] 0 p = ([a, b].take p).map (Value.int .i64) := by simp only [window, List.drop_zero, List.map_take, List.map_cons, List.map_nil]
    rw [news] at ld
    have ha2 : (([a, b].take p).map (Value.int .i64)).all one = true := by
      rw [List.all_eq_true]
      intro x hx
      obtain ⟨y, _, rfl⟩ := List.mem_map.1 hx
      rfl
    have ff : m.next ≤ cb := by have := k1.1; omega
    have ov3 := (o1.keep k2 (by simp)).keep k3 (by simp)
    have K3 := (k1.trans k2).trans k3
    have l0b := (o1.keep k2 (by simp)).load1 (off := 0) rfl
    have l1b := (o1.keep k2 (by simp)).load1 (off := 1) rfl
    have l2b := (o1.keep k2 (by simp)).load1 (off := 2) rfl
    have l0c := ov3.load1 (off := 0) rfl
    have l1c := ov3.load1 (off := 1) rfl
    have l2c := ov3.load1 (off := 2) rfl
    have el3 : elemIs ((m1.new [Value.int IntKind.i64 a, Value.int IntKind.i64 b] 3).new [] 3) bb 3 = true := by unfold elemIs; rw [o23.blk]; simp
    by_cases hp0 : p = 0
    case' pos =>
      have hp0' : (p : Int) = 0 := by omega
      have tk0 : ([a, b].take p).map (Value.int .i64) = [] := by rw [hp0]; rfl
      intro meth
      simp [-Int.natCast_add, -w13_2, -BitVec.toNat_or, -BitVec.toNat_ofInt, -BitVec.toNat_and, box_of b43, buildSlice_of u22 bs3 rfl, fieldAddr_of fa43_1, load_of ld3, fieldAddr_of fa43_2, fieldAddr_of fa43_0, slice_sl u22 sz3, append_s u22 sz3, fieldAddr_of fa43_4, load_of ld22, len_slice u22, pr, l0, l1, l2, hbb, hp2, hpi, el, ld, hcb, hp0]
      generalize hra : sappend _ _ _ _ _ _ = ra
      obtain ⟨m4, b4, rfl, o4, k4⟩ := app_own hra u22 ap3 o3 (by simp) (by simp) (by simp) (by omega) (by omega)
    case' neg =>
      have tk0 : p ≠ 0 := by omega
      intro meth
      simp [-Int.natCast_add, -w13_2, -BitVec.toNat_or, -BitVec.toNat_ofInt, -BitVec.toNat_and, box_of b43, buildSlice_of u22 bs3 rfl, fieldAddr_of fa43_1, load_of ld3, fieldAddr_of fa43_2, fieldAddr_of fa43_0, slice_sl u22 sz3, append_s u22 sz3, fieldAddr_of fa43_4, load_of ld22, len_slice u22, pr, l0, l1, l2, hbb, hp2, hpi, el, ld, hcb, hp0]
      generalize hra : sappend _ _ _ _ _ _ = ra
      obtain ⟨m4, b4, rfl, o4, k4⟩ := app_own hra u22 ap3 o3 (by simp) (by simp; omega) (by simpa [List.map_take] using ha2) (by omega) (by omega)
    all_goals
      simp [-Int.natCast_add, -w13_2, -BitVec.toNat_or, -BitVec.toNat_ofInt, -BitVec.toNat_and, box_of b43, buildSlice_of u22 bs3 rfl, fieldAddr_of fa43_1, load_of ld3, fieldAddr_of fa43_2, fieldAddr_of fa43_0, slice_sl u22 sz3, append_s u22 sz3, fieldAddr_of fa43_4, load_of ld22, len_slice u22, pr, l0, l1, l2, l0b, l1b, l2b, l0c, l1c, l2c, hbb, hp2, hpi, el, el3, ld, hcb, hp0]
      exact w_sub (E := [(1, .pointer (some ⟨vb, 0, none⟩)), (3, .slice (some ⟨b4, 0, none⟩) p p)]) (meth m4 b4 ⟨cb, by simpa [tk0] using o4, ov3.keep k4 (by simp; omega), by omega, ff, K3.fresh k4 (by simpa using ff)⟩) ⟨by rfl, by simp [lget, hp0], trivial⟩
  intro mX bX ⟨fX, oX, ov, hfX, hfm, kX⟩
  have l0 := ov.load1 (off := 0) rfl
  have l4 := ov.load1 (off := 4) rfl
  have lp : ([a, b].take p).length = p := by simp; omega
  have eu := usesF_eq op a b l
  rw [hp] at eu
  have hrX := hr.keep kX (by simp)
  have pl : p ≤ 2 ∧ l.length ≤ 17592186044404 := ⟨hp2, by omega⟩
  by_cases c20 : op = 20
  · have hl0 := h20 c20
    obtain ⟨rb, rfl, hrb⟩ := hrX.rdo (by omega)
    have ldr := hrb.load (off := 0) 1 (by simp; omega)
    have wn : window (l.map (Value.int .i64)) 0 1 = (l.take 1).map (Value.int .i64) := by simp only [window, List.drop_zero, List.map_take]
    rw [wn] at ldr
    have i1 : ¬ (l.length : Int) < 1 := by omega
    have i2 : 1 ≤ l.length := by omega
    have i3 : (l.length : Int) ≤ 9223372036854775807 := by omega
    simp [-Int.natCast_add, -BitVec.toNat_or, -BitVec.toNat_ofInt, -BitVec.toNat_and, box_of b43, buildSlice_of u22 bs3 rfl, fieldAddr_of fa43_1, load_of ld3, fieldAddr_of fa43_2, fieldAddr_of fa43_0, slice_sl u22 sz3, append_s u22 sz3, fieldAddr_of fa43_4, load_of ld22, len_slice u22, l0, l4, c20, i1, i2, i3, ldr]
    generalize hra : sappend _ _ _ _ _ _ = ra
    obtain ⟨m4, b4, rfl, o4, k4⟩ := app_own hra u22 ap3 oX (by simp; omega) (by simp; omega) (by simp [one_int, ← List.map_take]) (by omega) (by omega)
    simp [-Int.natCast_add, -BitVec.toNat_or, -BitVec.toNat_ofInt, -BitVec.toNat_and, box_of b43, buildSlice_of u22 bs3 rfl, fieldAddr_of fa43_1, load_of ld3, fieldAddr_of fa43_2, fieldAddr_of fa43_0, slice_sl u22 sz3, append_s u22 sz3, fieldAddr_of fa43_4, load_of ld22, len_slice u22]
    rw [if_pos c20] at eu
    have el : (usesF op a b l).length = p + 1 := by rw [eu, List.length_append, lp]; simp; omega
    rw [c20] at eu el
    rw [el]
    exact ⟨⟨_, ⟨rfl, rfl⟩, fX, by rw [eu]; exact (Sl.of (by simpa [List.map_take] using o4) (by simp; omega)).rs⟩, kX.fresh k4 (by simpa using hfm)⟩
  · by_cases c21 : op = 21
    · by_cases hl0 : l.length = 0
      · have e0 : (l.length : Int) = 0 := by omega
        have el : l = [] := List.length_eq_zero_iff.1 hl0
        rw [if_neg c20, if_pos c21, el, List.append_nil, c21] at eu
        have elen : (usesF 21 a b l).length = p := by rw [el, eu]; exact lp
        cases ao
        all_goals
          simp [-Int.natCast_add, -BitVec.toNat_or, -BitVec.toNat_ofInt, -BitVec.toNat_and, box_of b43, buildSlice_of u22 bs3 rfl, fieldAddr_of fa43_1, load_of ld3, fieldAddr_of fa43_2, fieldAddr_of fa43_0, slice_sl u22 sz3, append_s u22 sz3, fieldAddr_of fa43_4, load_of ld22, len_slice u22, l0, l4, c20, c21, hl0, e0]
          generalize hra : sappend _ _ _ _ _ _ = ra
          obtain ⟨m4, b4, rfl, o4, k4⟩ := app_own hra u22 ap3 oX (by simp; omega) (by simp) (by simp) (by omega) (by omega)
          simp [-Int.natCast_add, -BitVec.toNat_or, -BitVec.toNat_ofInt, -BitVec.toNat_and, box_of b43, buildSlice_of u22 bs3 rfl, fieldAddr_of fa43_1, load_of ld3, fieldAddr_of fa43_2, fieldAddr_of fa43_0, slice_sl u22 sz3, append_s u22 sz3, fieldAddr_of fa43_4, load_of ld22, len_slice u22]
          rw [elen, el]
          exact ⟨⟨_, ⟨rfl, rfl⟩, fX, by rw [eu]; exact (Sl.of (by simpa [List.map_take] using o4) (by simp; omega)).rs⟩, kX.fresh k4 (by simpa using hfm)⟩
      · obtain ⟨rb, rfl, hrb⟩ := hrX.rdo hl0
        have ldr := hrb.load (off := 0) l.length (by simp)
        have wn : window (l.map (Value.int .i64)) 0 l.length = l.map (Value.int .i64) := by simp [window, ← List.map_take]
        rw [wn] at ldr
        simp [-Int.natCast_add, -BitVec.toNat_or, -BitVec.toNat_ofInt, -BitVec.toNat_and, box_of b43, buildSlice_of u22 bs3 rfl, fieldAddr_of fa43_1, load_of ld3, fieldAddr_of fa43_2, fieldAddr_of fa43_0, slice_sl u22 sz3, append_s u22 sz3, fieldAddr_of fa43_4, load_of ld22, len_slice u22, l0, l4, c20, c21, hl0, ldr]
        generalize hra : sappend _ _ _ _ _ _ = ra
        obtain ⟨m4, b4, rfl, o4, k4⟩ := app_own hra u22 ap3 oX (by simp; omega) (by simp) (by simp [List.all_eq_true, one_int]) (by omega) (by omega)
        simp [-Int.natCast_add, -BitVec.toNat_or, -BitVec.toNat_ofInt, -BitVec.toNat_and, box_of b43, buildSlice_of u22 bs3 rfl, fieldAddr_of fa43_1, load_of ld3, fieldAddr_of fa43_2, fieldAddr_of fa43_0, slice_sl u22 sz3, append_s u22 sz3, fieldAddr_of fa43_4, load_of ld22, len_slice u22]
        rw [if_neg c20, if_pos c21, c21] at eu
        have elen : (usesF 21 a b l).length = p + l.length := by rw [eu, List.length_append, lp]
        rw [elen]
        exact ⟨⟨_, ⟨rfl, rfl⟩, fX, by rw [eu]; exact (Sl.of (by simpa [List.map_take] using o4) (by simp; omega)).rs⟩, kX.fresh k4 (by simpa using hfm)⟩
    · simp [-Int.natCast_add, -BitVec.toNat_or, -BitVec.toNat_ofInt, -BitVec.toNat_and, box_of b43, buildSlice_of u22 bs3 rfl, fieldAddr_of fa43_1, load_of ld3, fieldAddr_of fa43_2, fieldAddr_of fa43_0, slice_sl u22 sz3, append_s u22 sz3, fieldAddr_of fa43_4, load_of ld22, len_slice u22, l0, c20, c21]
      rw [if_neg c20, if_neg c21, List.append_nil] at eu
      rw [eu, lp]
      exact ⟨⟨_, ⟨rfl, rfl⟩, fX, (Sl.of oX (by simp; omega)).rs⟩, kX⟩
theorem uses2 {op a b : Int} {l : List Int} (h : isTwo op = true) (c20 : ¬ op = 20) (c21 : ¬ op = 21) : usesF op a b l = [a, b] := by simp [usesF, h, c20, c21]
theorem uses1 {op a b : Int} {l : List Int} (h : isTwo op = false) (h1 : isOne op = true) (c20 : ¬ op = 20) (c21 : ¬ op = 21) : usesF op a b l = [a] := by simp [usesF, h, h1, c20, c21]
theorem uses0 {op a b : Int} {l : List Int} (h : isTwo op = false) (h1 : isOne op = false) (c20 : ¬ op = 20) (c21 : ¬ op = 21) : usesF op a b l = [] := by simp [usesF, h, h1, c20, c21]
theorem new_rs {m : Mem} (cs : List Int) (n : Nat) (hn : n = cs.length) : Rs (m.new (cs.map (Value.int .i64)) 3) (some ⟨m.next, 0, none⟩) n (cs.map (Value.int .i64)) 3 1 m.next := (Sl.of (Own.new _ _ _) (by rw [hn]; simp)).rs
set_option maxHeartbeats 4000000 in
theorem ruses_run (hS : S 17 = []) {op a b n st : Int} {l : List Int} {ao : Option Addr} {f : Nat} (hl : l.length * 8 ≤ 140737488351232) (hr : Rs m ao l.length (l.map (Value.int .i64)) 3 1 f) (h20 : op = 20 → 0 < l.length) :
    ∃ v m1, callw Tryd.prog TT S 17 [.agg #[.int .i64 op, .int .i64 a, .int .i64 b, .int .i64 n, .slice ao l.length l.length, .int .i64 st]] m = some (v, m1) ∧ (∃ ao' f', v = .slice ao' (usesF op a b l).length (usesF op a b l).length ∧ Rs m1 ao' (usesF op a b l).length ((usesF op a b l).map (Value.int .i64)) 3 1 f') ∧ Keeps m m1 [] := by
  refine fn_w 5 [5, 5, 5, 5, 5, 5, 5, 5, 5, 5, 5, 5, 23, 23, 23, 23, 23, 23, 33, 38, 53] k17 hS rfl ?_
  simp [-Int.natCast_add, -w17_1, -BitVec.toNat_or, -BitVec.toNat_ofInt, -BitVec.toNat_and, box_of b43, fieldAddr_of fa43_0, load_of ld3, fieldAddr_of fa43_1, fieldAddr_of fa43_2, buildSlice_of u22 bs3 rfl, fieldAddr_of fa43_4, load_of ld22, len_slice u22, index_slice u22 sz3]
  obtain ⟨o1, k1, n1⟩ := new_own (m := m) (cs := [.int .i64 op, .int .i64 a, .int .i64 b, .int .i64 n, .slice ao l.length l.length, .int .i64 st]) (e := 43) rfl
  generalize m.new _ 43 = m1 at *
  obtain ⟨vb, hvb⟩ : ∃ vb, m.next = vb := ⟨_, rfl⟩
  rw [hvb] at o1 n1 ⊢
  have l0 := o1.load1 (off := 0) rfl
  have l1 := o1.load1 (off := 1) rfl
  have l2 := o1.load1 (off := 2) rfl
  have l4 := o1.load1 (off := 4) rfl
  have hrX := hr.keep k1 (by simp)
  by_cases c20 : op = 20
  · have hl0 := h20 c20
    obtain ⟨rb, rfl, hrb⟩ := hrX.rdo (by omega)
    have i1 : ¬ l.length = 0 := by omega
    have i2 : ¬ (l.length : Int) = 0 := by omega
    have e0 : l = l[0] :: l.drop 1 := by
      cases l with
      | nil => simp at hl0
      | cons x r => rfl
    obtain ⟨x, hx⟩ : ∃ x, l[0] = x := ⟨_, rfl⟩
    have ld : loadRow m1 ⟨rb, 0, none⟩ 1 = some [.int .i64 x] := by
      rw [hrb.load (off := 0) 1 (by simp; omega), ← hx]
      simp only [window, List.drop_zero, ← List.map_take]
      rw [show l.take 1 = [l[0]] by conv => lhs; rw [e0]
                                    rfl]
      rfl
    have eu : usesF 20 a b l = [a, b, x] := by rw [e0, hx]; rfl
    rw [c20, eu]
    simp [-Int.natCast_add, -BitVec.toNat_or, -BitVec.toNat_ofInt, -BitVec.toNat_and, box_of b43, fieldAddr_of fa43_0, load_of ld3, fieldAddr_of fa43_1, fieldAddr_of fa43_2, buildSlice_of u22 bs3 rfl, fieldAddr_of fa43_4, load_of ld22, len_slice u22, index_slice u22 sz3, l0, l1, l2, l4, i1, i2, hl0, ld, c20]
    exact ⟨⟨_, new_rs [a, b, x] 3 rfl⟩, k1.trans (keeps_new _ _ _ _)⟩
  · by_cases c21 : op = 21
    · have eu : usesF 21 a b l = l := rfl
      rw [c21, eu]
      simp [-Int.natCast_add, -BitVec.toNat_or, -BitVec.toNat_ofInt, -BitVec.toNat_and, box_of b43, fieldAddr_of fa43_0, load_of ld3, fieldAddr_of fa43_1, fieldAddr_of fa43_2, buildSlice_of u22 bs3 rfl, fieldAddr_of fa43_4, load_of ld22, len_slice u22, index_slice u22 sz3, l0, l1, l2, l4, c21]
      exact ⟨⟨_, hrX⟩, k1⟩
    · rcases op_cases op with (rfl | rfl | rfl | rfl | rfl | rfl | rfl | rfl | rfl | rfl | rfl | rfl | rfl | rfl | rfl | rfl | rfl | rfl | rfl | rfl | rfl | rfl | rfl | hno)
      all_goals first
        | exact absurd rfl c20
        | exact absurd rfl c21
        | (rw [uses2 rfl c20 c21]
           simp [-Int.natCast_add, -BitVec.toNat_or, -BitVec.toNat_ofInt, -BitVec.toNat_and, box_of b43, fieldAddr_of fa43_0, load_of ld3, fieldAddr_of fa43_1, fieldAddr_of fa43_2, buildSlice_of u22 bs3 rfl, fieldAddr_of fa43_4, load_of ld22, len_slice u22, index_slice u22 sz3, l0, l1, l2, l4]
           exact ⟨⟨_, new_rs [a, b] 2 rfl⟩, k1.trans (keeps_new _ _ _ _)⟩)
        | (rw [uses1 rfl rfl c20 c21]
           simp [-Int.natCast_add, -BitVec.toNat_or, -BitVec.toNat_ofInt, -BitVec.toNat_and, box_of b43, fieldAddr_of fa43_0, load_of ld3, fieldAddr_of fa43_1, fieldAddr_of fa43_2, buildSlice_of u22 bs3 rfl, fieldAddr_of fa43_4, load_of ld22, len_slice u22, index_slice u22 sz3, l0, l1, l2, l4]
           exact ⟨⟨_, new_rs [a] 1 rfl⟩, k1.trans (keeps_new _ _ _ _)⟩)
        | (rw [uses0 rfl rfl c20 c21]
           simp [-Int.natCast_add, -BitVec.toNat_or, -BitVec.toNat_ofInt, -BitVec.toNat_and, box_of b43, fieldAddr_of fa43_0, load_of ld3, fieldAddr_of fa43_1, fieldAddr_of fa43_2, buildSlice_of u22 bs3 rfl, fieldAddr_of fa43_4, load_of ld22, len_slice u22, index_slice u22 sz3, l0, l1, l2, l4]
           exact ⟨⟨_, (Sl.nil _ _ _ 0).rs⟩, k1⟩)
        | skip
      have n1 : ¬ op = 1 := by omega
      have n2 : ¬ op = 2 := by omega
      have n3 : ¬ op = 3 := by omega
      have n4 : ¬ op = 4 := by omega
      have n5 : ¬ op = 5 := by omega
      have n6 : ¬ op = 6 := by omega
      have n7 : ¬ op = 7 := by omega
      have n8 : ¬ op = 8 := by omega
      have n9 : ¬ op = 9 := by omega
      have n10 : ¬ op = 10 := by omega
      have n11 : ¬ op = 11 := by omega
      have n12 : ¬ op = 12 := by omega
      have n13 : ¬ op = 13 := by omega
      have n14 : ¬ op = 14 := by omega
      have n15 : ¬ op = 15 := by omega
      have n16 : ¬ op = 16 := by omega
      have n17 : ¬ op = 17 := by omega
      have n18 : ¬ op = 18 := by omega
      have n19 : ¬ op = 19 := by omega
      have n20 : ¬ op = 20 := by omega
      have n21 : ¬ op = 21 := by omega
      have n22 : ¬ op = 22 := by omega
      have n23 : ¬ op = 23 := by omega
      have t2 : isTwo op = false := by simp [isTwo, n1, n2, n3, n4, n5, n6, n7, n8, n9, n10, n11, n12, n13, n14, n15, n16, n17, n18, n19, n20, n21, n22, n23]
      have t1 : isOne op = false := by simp [isOne, n1, n2, n3, n4, n5, n6, n7, n8, n9, n10, n11, n12, n13, n14, n15, n16, n17, n18, n19, n20, n21, n22, n23]
      rw [uses0 t2 t1 c20 c21]
      simp [-Int.natCast_add, -BitVec.toNat_or, -BitVec.toNat_ofInt, -BitVec.toNat_and, box_of b43, fieldAddr_of fa43_0, load_of ld3, fieldAddr_of fa43_1, fieldAddr_of fa43_2, buildSlice_of u22 bs3 rfl, fieldAddr_of fa43_4, load_of ld22, len_slice u22, index_slice u22 sz3, l0, l1, l2, l4, n1, n2, n3, n4, n5, n6, n7, n8, n9, n10, n11, n12, n13, n14, n15, n16, n17, n18, n19, n20, n21, n22, n23]
      exact ⟨⟨_, (Sl.nil _ _ _ 0).rs⟩, k1⟩
end Go.Proofs.YtcgmchechmbmeaaDoor.base

