/-
  This text proves what ssa.Uses answers over the abstract run, for any value.
  Condition: nothing is known of its calls ahead ('S f = []').
-/
import Derived.Test.YtlogdohlcdhepaaDoorEvJ
set_option maxRecDepth 100000
set_option linter.unusedSimpArgs false
set_option linter.unusedVariables false
namespace Go.Proofs.YtlogdohlcdhepaaDoor.base
open Go.Sh gen
variable {S : Sums} {m : Mem}
abbrev ValT : Ty := (Ty.pair (Ty.int .i64) (Ty.pair (Ty.int .i64) (Ty.pair (Ty.int .i64) (Ty.pair (Ty.int .i64) (Ty.pair (Ty.slice 3 (Ty.int .i64)) (Ty.pair (Ty.int .i64) Ty.unit))))))
theorem op_cases (op : Int) : op = 1 ∨ op = 2 ∨ op = 3 ∨ op = 4 ∨ op = 5 ∨ op = 6 ∨ op = 7 ∨ op = 8 ∨ op = 9 ∨ op = 10 ∨ op = 11 ∨ op = 12 ∨ op = 13 ∨ op = 14 ∨ op = 15 ∨ op = 16 ∨ op = 17 ∨ op = 18 ∨ op = 19 ∨ op = 20 ∨ op = 21 ∨ op = 22 ∨ op = 23 ∨ (op < 1 ∨ 23 < op) := by omega
def isTwo (op : Int) : Bool := [3, 4, 5, 6, 7, 10, 11, 12, 13, 14, 18, 19, 20].contains op
def isOne (op : Int) : Bool := [8, 9, 15, 16, 17, 22].contains op
def partsF (op : Int) : Nat := if isTwo op = true then 2 else if isOne op = true then 1 else 0
theorem parts_run (hS : S 76 = []) (op : Int) : callw Tryd.prog TT S 76 [.int .i64 op] m = some (.int .i64 (partsF op), m) := by
  refine fn_eq 4 [4, 4, 4, 4, 4, 4, 4, 4, 4, 4, 4, 4, 4, 18, 18, 18, 18, 18, 18] k76 hS rfl ?_
  rcases op_cases op with (rfl | rfl | rfl | rfl | rfl | rfl | rfl | rfl | rfl | rfl | rfl | rfl | rfl | rfl | rfl | rfl | rfl | rfl | rfl | rfl | rfl | rfl | rfl | hno)
  · simp [-Int.natCast_add, partsF, isTwo, isOne]
  · simp [-Int.natCast_add, partsF, isTwo, isOne]
  · simp [-Int.natCast_add, partsF, isTwo]
  · simp [-Int.natCast_add, partsF, isTwo]
  · simp [-Int.natCast_add, partsF, isTwo]
  · simp [-Int.natCast_add, partsF, isTwo]
  · simp [-Int.natCast_add, partsF, isTwo]
  · simp [-Int.natCast_add, partsF, isTwo, isOne]
  · simp [-Int.natCast_add, partsF, isTwo, isOne]
  · simp [-Int.natCast_add, partsF, isTwo]
  · simp [-Int.natCast_add, partsF, isTwo]
  · simp [-Int.natCast_add, partsF, isTwo]
  · simp [-Int.natCast_add, partsF, isTwo]
  · simp [-Int.natCast_add, partsF, isTwo]
  · simp [-Int.natCast_add, partsF, isTwo, isOne]
  · simp [-Int.natCast_add, partsF, isTwo, isOne]
  · simp [-Int.natCast_add, partsF, isTwo, isOne]
  · simp [-Int.natCast_add, partsF, isTwo]
  · simp [-Int.natCast_add, partsF, isTwo]
  · simp [-Int.natCast_add, partsF, isTwo]
  · simp [-Int.natCast_add, partsF, isTwo, isOne]
  · simp [-Int.natCast_add, partsF, isTwo, isOne]
  · simp [-Int.natCast_add, partsF, isTwo, isOne]
  · have n1 : ¬ op = 1 := by omega
    have n2 : ¬ op = 2 := by omega
    have n3 : ¬ op = 3 := by omega
    have n4 : ¬ op = 4 := by omega
    have n5 : ¬ op = 5 := by omega
    have n6 : ¬ op = 6 := by omega
    have n7 : ¬ op = 7 := by omega
    have n8 : ¬ op = 8 := by omega
    have n9 : ¬ op = 9 := by omega
    have n10 : ¬ op = 10 := by omega
    have n11 : ¬ op = 11 := by omega
    have n12 : ¬ op = 12 := by omega
    have n13 : ¬ op = 13 := by omega
    have n14 : ¬ op = 14 := by omega
    have n15 : ¬ op = 15 := by omega
    have n16 : ¬ op = 16 := by omega
    have n17 : ¬ op = 17 := by omega
    have n18 : ¬ op = 18 := by omega
    have n19 : ¬ op = 19 := by omega
    have n20 : ¬ op = 20 := by omega
    have n21 : ¬ op = 21 := by omega
    have n22 : ¬ op = 22 := by omega
    have n23 : ¬ op = 23 := by omega
    simp [-Int.natCast_add, partsF, isTwo, isOne, n3, n4, n5, n6, n7, n8, n9, n10, n11, n12, n13, n14, n15, n16, n17, n18, n19, n20, n22]
def usesF (op a b : Int) (l : List Int) : List Int := (if isTwo op = true then [a, b] else if isOne op = true then [a] else []) ++ (if op = 20 then l.take 1 else if op = 21 then l else [])
theorem ints_cells {l : List Int} {e : TypeId} {css : List (List Value)} (h2 : css.length = l.length) (h3 : ∀ (i : Nat) (d : (Ty.int .i64).D) c, l[i]? = some d → css[i]? = some c → At m (Ty.int .i64) d c) : css.flatten = l.map (Value.int .i64) := by
  have : css = l.map fun n => [Value.int .i64 n] := by
    apply List.ext_getElem?
    intro i
    by_cases hi : i < l.length
    · have hc : i < css.length := by omega
      have := h3 i l[i] css[i] (List.getElem?_eq_getElem hi) (List.getElem?_eq_getElem hc)
      simp only [At] at this
      simp [hi, hc, this]
    · rw [List.getElem?_eq_none (by omega), List.getElem?_eq_none (by simp; omega)]
  rw [this, ← List.flatMap_def]
  exact List.map_eq_flatMap.symm
theorem usesF_eq (op a b : Int) (l : List Int) : usesF op a b l = [a, b].take (partsF op) ++ (if op = 20 then l.take 1 else if op = 21 then l else []) := by
  unfold usesF partsF
  by_cases h1 : isTwo op = true
  · simp [h1]
  · by_cases h2 : isOne op = true
    · simp [h1, h2]
    · simp [h1, h2]
theorem uses_run (hS : S 58 = []) (hP : S 76 = []) {op a b n st : Int} {l : List Int} {ao : Option Addr} {f : Nat} (hl : l.length * 8 ≤ 140737488351232) (hr : Rs m ao l.length (l.map (Value.int .i64)) 3 1 f) :
    ∃ v m1, callw Tryd.prog TT S 58 [.agg #[.int .i64 op, .int .i64 a, .int .i64 b, .int .i64 n, .slice ao l.length l.length, .int .i64 st]] m = some (v, m1) ∧ (∃ ao' f', v = .slice ao' (usesF op a b l).length (usesF op a b l).length ∧ Rs m1 ao' (usesF op a b l).length ((usesF op a b l).map (Value.int .i64)) 3 1 f') ∧ Keeps m m1 [] := by
  refine fn_w 17 [17, 28] k58 hS rfl ?_
  have pr := fun m' => parts_run (m := m') hP op
  simp [-Int.natCast_add, -w58_1, box_of b38]
  obtain ⟨o1, k1, n1⟩ := new_own (m := m) (cs := [.int .i64 op, .int .i64 a, .int .i64 b, .int .i64 n, .slice ao l.length l.length, .int .i64 st]) (e := 38) rfl
  generalize m.new _ 38 = m1 at *
  obtain ⟨vb, hvb⟩ : ∃ vb, m.next = vb := ⟨_, rfl⟩
  rw [hvb] at o1 n1 ⊢
  have l0 := o1.load1 (off := 0) rfl
  have l1 := o1.load1 (off := 1) rfl
  have l2 := o1.load1 (off := 2) rfl
  obtain ⟨bb, hbb⟩ : ∃ bb, m1.next = bb := ⟨_, rfl⟩
  obtain ⟨p, hp⟩ : ∃ p, partsF op = p := ⟨_, rfl⟩
  have hp2 : p ≤ 2 := by
    rw [← hp]; unfold partsF; split
    · omega
    · split <;> omega
  have hpi : (p : Int) ≤ 9223372036854775807 := by omega
  rw [hp] at pr
  apply cut2_ (fun (mX : Mem) (bX : Nat) => ∃ fX, Own mX bX (([a, b].take p).map (Value.int .i64)) 3 fX ∧ Own mX vb [.int .i64 op, .int .i64 a, .int .i64 b, .int .i64 n, .slice ao l.length l.length, .int .i64 st] 38 vb ∧ fX ≠ vb ∧ m.next ≤ fX ∧ Keeps m mX [])
  case main =>
    obtain ⟨o2, k2, n2⟩ := new_own (m := m1) (cs := [.int .i64 a, .int .i64 b]) (e := 3) rfl
    obtain ⟨o3, k3, n3⟩ := new_own (m := m1.new [.int .i64 a, .int .i64 b] 3) (cs := []) (e := 3) rfl
    have o23 := o2.keep k3 (by simp)
    rw [hbb] at o23 o2
    have ld := o23.load (off := 0) p (by simp; omega)
    have el : elemIs (m1.new [Value.int IntKind.i64 a, Value.int IntKind.i64 b] 3) bb 3 = true := by unfold elemIs; rw [o2.blk]; simp
    obtain ⟨cb, hcb⟩ : ∃ cb, (m1.new [Value.int IntKind.i64 a, Value.int IntKind.i64 b] 3).next = cb := ⟨_, rfl⟩
    have ncb : m1.next < cb := by rw [← hcb]; exact n2
    rw [hcb] at o3
    have news : window [Value.int IntKind.i64 a, Value.int IntKind.i64 b] 0 p = ([a, b].take p).map (Value.int .i64) := by simp only [window, List.drop_zero, List.map_take, List.map_cons, List.map_nil]
    rw [news] at ld
    have ha2 : (([a, b].take p).map (Value.int .i64)).all one = true := by
      rw [List.all_eq_true]
      intro x hx
      obtain ⟨y, _, rfl⟩ := List.mem_map.1 hx
      rfl
    have ff : m.next ≤ cb := by have := k1.1; omega
    have ov3 := (o1.keep k2 (by simp)).keep k3 (by simp)
    have K3 := (k1.trans k2).trans k3
    have l0b := (o1.keep k2 (by simp)).load1 (off := 0) rfl
    have l1b := (o1.keep k2 (by simp)).load1 (off := 1) rfl
    have l2b := (o1.keep k2 (by simp)).load1 (off := 2) rfl
    have l0c := ov3.load1 (off := 0) rfl
    have l1c := ov3.load1 (off := 1) rfl
    have l2c := ov3.load1 (off := 2) rfl
    have el3 : elemIs ((m1.new [Value.int IntKind.i64 a, Value.int IntKind.i64 b] 3).new [] 3) bb 3 = true := by unfold elemIs; rw [o23.blk]; simp
    by_cases hp0 : p = 0
    case' pos =>
      have hp0' : (p : Int) = 0 := by omega
      have tk0 : ([a, b].take p).map (Value.int .i64) = [] := by rw [hp0]; rfl
      intro meth
      simp [-Int.natCast_add, -w58_2, buildSlice_of u36 bs3 rfl, fieldAddr_of fa38_1, load_of ld3, fieldAddr_of fa38_2, fieldAddr_of fa38_0, slice_sl u36 sz3, append_s u36 sz3, pr, l0, l1, l2, hbb, el, hcb, hp0]
      generalize hra : sappend _ _ _ _ _ _ = ra
      obtain ⟨m4, b4, rfl, o4, k4⟩ := app_own hra u36 ap3 o3 (by simp) (by simp) (by simp) (by omega) (by omega)
    case' neg =>
      have tk0 : p ≠ 0 := by omega
      intro meth
      simp [-Int.natCast_add, -w58_2, buildSlice_of u36 bs3 rfl, fieldAddr_of fa38_1, load_of ld3, fieldAddr_of fa38_2, fieldAddr_of fa38_0, slice_sl u36 sz3, append_s u36 sz3, pr, l0, l1, l2, hbb, hp2, hpi, el, ld, hcb, hp0]
      generalize hra : sappend _ _ _ _ _ _ = ra
      obtain ⟨m4, b4, rfl, o4, k4⟩ := app_own hra u36 ap3 o3 (by simp) (by simp; omega) (by simpa [List.map_take] using ha2) (by omega) (by omega)
    all_goals
      simp [-Int.natCast_add, -w58_2, load_of ld3, slice_sl u36 sz3, l0, l1, l2, hp2, hpi, el]
      exact w_sub (E := [(1, .pointer (some ⟨vb, 0, none⟩)), (3, .slice (some ⟨b4, 0, none⟩) p p)]) (meth m4 b4 ⟨cb, by simpa [tk0] using o4, ov3.keep k4 (by simp; omega), by omega, ff, K3.fresh k4 (by simpa using ff)⟩) ⟨by rfl, by simp [lget, hp0], trivial⟩
  intro mX bX ⟨fX, oX, ov, hfX, hfm, kX⟩
  have l0 := ov.load1 (off := 0) rfl
  have l4 := ov.load1 (off := 4) rfl
  have lp : ([a, b].take p).length = p := by simp; omega
  have eu := usesF_eq op a b l
  rw [hp] at eu
  have hrX := hr.keep kX (by simp)
  have pl : p ≤ 2 ∧ l.length ≤ 17592186044404 := ⟨hp2, by omega⟩
  by_cases c20 : op = 20
  · by_cases hl00 : l.length = 0
    · have e0 : (l.length : Int) < 1 := by omega
      have el : l = [] := List.length_eq_zero_iff.1 hl00
      rw [if_pos c20, el, c20] at eu
      have elen : (usesF 20 a b l).length = p := by rw [el, eu]; simp; omega
      have hsp := hr.spot
      cases ao
      case' some a => have hsp' := hsp a rfl
      case' none => have hsp' : True := trivial
      all_goals
        simp [-Int.natCast_add, load_of ld3, fieldAddr_of fa38_0, slice_sl u36 sz3, append_s u36 sz3, fieldAddr_of fa38_4, load_of ld36, len_slice u36, l0, l4, c20, hl00, hsp']
        generalize hra : sappend _ _ _ _ _ _ = ra
        obtain ⟨m4, b4, rfl, o4, k4⟩ := app_own hra u36 ap3 oX (by simp; omega) (by simp) (by simp) (by omega) (by omega)
        simp [-Int.natCast_add]
        rw [elen, el]
        exact ⟨⟨_, ⟨rfl, rfl⟩, fX, by rw [eu]; exact (Sl.of (by simpa [List.map_take] using o4) (by simp; omega)).rs⟩, kX.fresh k4 (by simpa using hfm)⟩
    · have hl0 : 0 < l.length := by omega
      obtain ⟨rb, rfl, hrb⟩ := hrX.rdo (by omega)
      have ldr := hrb.load (off := 0) 1 (by simp; omega)
      have wn : window (l.map (Value.int .i64)) 0 1 = (l.take 1).map (Value.int .i64) := by simp only [window, List.drop_zero, List.map_take]
      rw [wn] at ldr
      have i1 : ¬ (l.length : Int) < 1 := by omega
      have i2 : 1 ≤ l.length := by omega
      have i3 : (l.length : Int) ≤ 9223372036854775807 := by omega
      simp [-Int.natCast_add, load_of ld3, fieldAddr_of fa38_0, slice_sl u36 sz3, append_s u36 sz3, fieldAddr_of fa38_4, load_of ld36, len_slice u36, l0, l4, c20, i1, i2, ldr]
      generalize hra : sappend _ _ _ _ _ _ = ra
      obtain ⟨m4, b4, rfl, o4, k4⟩ := app_own hra u36 ap3 oX (by simp; omega) (by simp; omega) (by simp [one_int, ← List.map_take]) (by omega) (by omega)
      simp [-Int.natCast_add]
      rw [if_pos c20] at eu
      have el : (usesF op a b l).length = p + 1 := by rw [eu, List.length_append, lp]; simp; omega
      rw [c20] at eu el
      rw [el]
      exact ⟨⟨_, ⟨rfl, rfl⟩, fX, by rw [eu]; exact (Sl.of (by simpa [List.map_take] using o4) (by simp; omega)).rs⟩, kX.fresh k4 (by simpa using hfm)⟩
  · by_cases c21 : op = 21
    · by_cases hl0 : l.length = 0
      · have e0 : (l.length : Int) = 0 := by omega
        have el : l = [] := List.length_eq_zero_iff.1 hl0
        rw [if_neg c20, if_pos c21, el, List.append_nil, c21] at eu
        have elen : (usesF 21 a b l).length = p := by rw [el, eu]; exact lp
        cases ao
        all_goals
          simp [-Int.natCast_add, load_of ld3, fieldAddr_of fa38_0, append_s u36 sz3, fieldAddr_of fa38_4, load_of ld36, l0, l4, c21, hl0]
          generalize hra : sappend _ _ _ _ _ _ = ra
          obtain ⟨m4, b4, rfl, o4, k4⟩ := app_own hra u36 ap3 oX (by simp; omega) (by simp) (by simp) (by omega) (by omega)
          simp [-Int.natCast_add]
          rw [elen, el]
          exact ⟨⟨_, ⟨rfl, rfl⟩, fX, by rw [eu]; exact (Sl.of (by simpa [List.map_take] using o4) (by simp; omega)).rs⟩, kX.fresh k4 (by simpa using hfm)⟩
      · obtain ⟨rb, rfl, hrb⟩ := hrX.rdo hl0
        have ldr := hrb.load (off := 0) l.length (by simp)
        have wn : window (l.map (Value.int .i64)) 0 l.length = l.map (Value.int .i64) := by simp [window, ← List.map_take]
        rw [wn] at ldr
        simp [-Int.natCast_add, load_of ld3, fieldAddr_of fa38_0, append_s u36 sz3, fieldAddr_of fa38_4, load_of ld36, l0, l4, c21, hl0, ldr]
        generalize hra : sappend _ _ _ _ _ _ = ra
        obtain ⟨m4, b4, rfl, o4, k4⟩ := app_own hra u36 ap3 oX (by simp; omega) (by simp) (by simp [List.all_eq_true, one_int]) (by omega) (by omega)
        simp [-Int.natCast_add]
        rw [if_neg c20, if_pos c21, c21] at eu
        have elen : (usesF 21 a b l).length = p + l.length := by rw [eu, List.length_append, lp]
        rw [elen]
        exact ⟨⟨_, ⟨rfl, rfl⟩, fX, by rw [eu]; exact (Sl.of (by simpa [List.map_take] using o4) (by simp; omega)).rs⟩, kX.fresh k4 (by simpa using hfm)⟩
    · simp [-Int.natCast_add, load_of ld3, fieldAddr_of fa38_0, l0, c20, c21]
      rw [if_neg c20, if_neg c21, List.append_nil] at eu
      rw [eu, lp]
      exact ⟨⟨_, ⟨rfl, rfl⟩, fX, (Sl.of oX (by simp; omega)).rs⟩, kX⟩
end Go.Proofs.YtlogdohlcdhepaaDoor.base

