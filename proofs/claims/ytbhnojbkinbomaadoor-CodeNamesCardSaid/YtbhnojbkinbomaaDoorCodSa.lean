/-
  This text proves which name an op has, by the program and by the document.
  Condition: what is known of code.Name's calls ahead is its names.
-/
import Derived.Test.YtbhnojbkinbomaaDoorCodeNm
set_option maxRecDepth 100000
set_option linter.unusedSimpArgs false
set_option linter.unusedVariables false
namespace Go.Proofs.YtbhnojbkinbomaaDoor.base
open Go.Sh gen
variable {S : Sums} {m : Mem}
theorem emod_tmod (x k : Int) (hk : 0 < k) : x % k = if x.tmod k < 0 then x.tmod k + k else x.tmod k := by
  have hx := Int.emod_nonneg x (by omega : k ≠ 0)
  have hx2 := Int.emod_lt_of_pos x hk
  split
  · rename_i h
    have : (x.tmod k + k) % k = x % k := by
      rw [Int.add_emod_right]
      have h3 := Int.tmod_add_mul_tdiv x k
      have : x.tmod k = x - k * x.tdiv k := by omega
      rw [this, Int.sub_mul_emod_self_left]
    rw [← this]
    have := Int.lt_tmod_of_pos x hk
    exact Int.emod_eq_of_lt (by omega) (by omega)
  · rename_i h
    have : (x.tmod k) % k = x % k := by
      have h3 := Int.tmod_add_mul_tdiv x k
      have : x.tmod k = x - k * x.tdiv k := by omega
      rw [this, Int.sub_mul_emod_self_left]
    rw [← this]
    have := Int.tmod_lt_of_pos x hk
    exact Int.emod_eq_of_lt (by omega) (by omega)
theorem pick_run (hS : S 7 = []) (x k : Int) (hk : 0 < k) (hk2 : k < 1000000) : callw Tryd.prog TT S 7 [.int .i64 x, .int .i64 k] m = some (.int .i64 (x % k), m) := by
  have hx := Int.emod_nonneg x (by omega : k ≠ 0)
  have hx2 := Int.emod_lt_of_pos x hk
  have hk0 : k ≠ 0 := by omega
  have hw : IntKind.i64.wrap (x % k) = x % k := wrap_i64 (by omega) (by omega)
  have e := emod_tmod x k hk
  refine fn_eq 5 [9] k7 hS rfl ?_
  by_cases h : x.tmod k < 0
  · rw [if_pos h] at e
    rw [e] at hw ⊢
    simp [-BitVec.toNat_or, -BitVec.toNat_ofInt, -BitVec.toNat_and, id, hk0, h, hw]
  · rw [if_neg h] at e
    rw [e]
    simp [-BitVec.toNat_or, -BitVec.toNat_ofInt, -BitVec.toNat_and, id, hk0, h]

theorem op_cases (op : Int) : (op = 1 ∨ op = 2 ∨ op = 3 ∨ op = 4 ∨ op = 5 ∨ op = 6 ∨ op = 7 ∨ op = 8 ∨ op = 9 ∨ op = 10 ∨ op = 11 ∨ op = 12 ∨ op = 13 ∨ op = 14 ∨ op = 15 ∨ op = 16 ∨ op = 17 ∨ op = 18 ∨ op = 19 ∨ op = 20 ∨ op = 21 ∨ op = 22 ∨ op = 23 ∨ op = 24 ∨ op = 25 ∨ op = 26 ∨ op = 27 ∨ op = 28 ∨ op = 29 ∨ op = 30 ∨ op = 31 ∨ op = 32 ∨ op = 33 ∨ op = 34 ∨ op = 35 ∨ op = 36 ∨ op = 37 ∨ op = 38 ∨ op = 39 ∨ op = 40 ∨ op = 41) ∨ (op < 1 ∨ 41 < op) := by omega
def nameF (op : Int) : List UInt8 := if 1 ≤ op ∧ op ≤ 41 then opsL.getD op.toNat [] else []
def opsC : List Value := opsL.map fun l => .string ⟨l.toArray⟩
theorem name_run (hS : S 13 = nmL) (op : Int) : callw Tryd.prog TT S 13 [.int .i64 op] m = some (.string ⟨(nameF op).toArray⟩, m) := by
  rcases op_cases op with (rfl | rfl | rfl | rfl | rfl | rfl | rfl | rfl | rfl | rfl | rfl | rfl | rfl | rfl | rfl | rfl | rfl | rfl | rfl | rfl | rfl | rfl | rfl | rfl | rfl | rfl | rfl | rfl | rfl | rfl | rfl | rfl | rfl | rfl | rfl | rfl | rfl | rfl | rfl | rfl | rfl) | hne
  · exact sum_at (p := ([.int .i64 1], .string ⟨(nameF 1).toArray⟩)) (by rw [hS]; rfl)
  · exact sum_at (p := ([.int .i64 2], .string ⟨(nameF 2).toArray⟩)) (by rw [hS]; rfl)
  · exact sum_at (p := ([.int .i64 3], .string ⟨(nameF 3).toArray⟩)) (by rw [hS]; rfl)
  · exact sum_at (p := ([.int .i64 4], .string ⟨(nameF 4).toArray⟩)) (by rw [hS]; rfl)
  · exact sum_at (p := ([.int .i64 5], .string ⟨(nameF 5).toArray⟩)) (by rw [hS]; rfl)
  · exact sum_at (p := ([.int .i64 6], .string ⟨(nameF 6).toArray⟩)) (by rw [hS]; rfl)
  · exact sum_at (p := ([.int .i64 7], .string ⟨(nameF 7).toArray⟩)) (by rw [hS]; rfl)
  · exact sum_at (p := ([.int .i64 8], .string ⟨(nameF 8).toArray⟩)) (by rw [hS]; rfl)
  · exact sum_at (p := ([.int .i64 9], .string ⟨(nameF 9).toArray⟩)) (by rw [hS]; rfl)
  · exact sum_at (p := ([.int .i64 10], .string ⟨(nameF 10).toArray⟩)) (by rw [hS]; rfl)
  · exact sum_at (p := ([.int .i64 11], .string ⟨(nameF 11).toArray⟩)) (by rw [hS]; rfl)
  · exact sum_at (p := ([.int .i64 12], .string ⟨(nameF 12).toArray⟩)) (by rw [hS]; rfl)
  · exact sum_at (p := ([.int .i64 13], .string ⟨(nameF 13).toArray⟩)) (by rw [hS]; rfl)
  · exact sum_at (p := ([.int .i64 14], .string ⟨(nameF 14).toArray⟩)) (by rw [hS]; rfl)
  · exact sum_at (p := ([.int .i64 15], .string ⟨(nameF 15).toArray⟩)) (by rw [hS]; rfl)
  · exact sum_at (p := ([.int .i64 16], .string ⟨(nameF 16).toArray⟩)) (by rw [hS]; rfl)
  · exact sum_at (p := ([.int .i64 17], .string ⟨(nameF 17).toArray⟩)) (by rw [hS]; rfl)
  · exact sum_at (p := ([.int .i64 18], .string ⟨(nameF 18).toArray⟩)) (by rw [hS]; rfl)
  · exact sum_at (p := ([.int .i64 19], .string ⟨(nameF 19).toArray⟩)) (by rw [hS]; rfl)
  · exact sum_at (p := ([.int .i64 20], .string ⟨(nameF 20).toArray⟩)) (by rw [hS]; rfl)
  · exact sum_at (p := ([.int .i64 21], .string ⟨(nameF 21).toArray⟩)) (by rw [hS]; rfl)
  · exact sum_at (p := ([.int .i64 22], .string ⟨(nameF 22).toArray⟩)) (by rw [hS]; rfl)
  · exact sum_at (p := ([.int .i64 23], .string ⟨(nameF 23).toArray⟩)) (by rw [hS]; rfl)
  · exact sum_at (p := ([.int .i64 24], .string ⟨(nameF 24).toArray⟩)) (by rw [hS]; rfl)
  · exact sum_at (p := ([.int .i64 25], .string ⟨(nameF 25).toArray⟩)) (by rw [hS]; rfl)
  · exact sum_at (p := ([.int .i64 26], .string ⟨(nameF 26).toArray⟩)) (by rw [hS]; rfl)
  · exact sum_at (p := ([.int .i64 27], .string ⟨(nameF 27).toArray⟩)) (by rw [hS]; rfl)
  · exact sum_at (p := ([.int .i64 28], .string ⟨(nameF 28).toArray⟩)) (by rw [hS]; rfl)
  · exact sum_at (p := ([.int .i64 29], .string ⟨(nameF 29).toArray⟩)) (by rw [hS]; rfl)
  · exact sum_at (p := ([.int .i64 30], .string ⟨(nameF 30).toArray⟩)) (by rw [hS]; rfl)
  · exact sum_at (p := ([.int .i64 31], .string ⟨(nameF 31).toArray⟩)) (by rw [hS]; rfl)
  · exact sum_at (p := ([.int .i64 32], .string ⟨(nameF 32).toArray⟩)) (by rw [hS]; rfl)
  · exact sum_at (p := ([.int .i64 33], .string ⟨(nameF 33).toArray⟩)) (by rw [hS]; rfl)
  · exact sum_at (p := ([.int .i64 34], .string ⟨(nameF 34).toArray⟩)) (by rw [hS]; rfl)
  · exact sum_at (p := ([.int .i64 35], .string ⟨(nameF 35).toArray⟩)) (by rw [hS]; rfl)
  · exact sum_at (p := ([.int .i64 36], .string ⟨(nameF 36).toArray⟩)) (by rw [hS]; rfl)
  · exact sum_at (p := ([.int .i64 37], .string ⟨(nameF 37).toArray⟩)) (by rw [hS]; rfl)
  · exact sum_at (p := ([.int .i64 38], .string ⟨(nameF 38).toArray⟩)) (by rw [hS]; rfl)
  · exact sum_at (p := ([.int .i64 39], .string ⟨(nameF 39).toArray⟩)) (by rw [hS]; rfl)
  · exact sum_at (p := ([.int .i64 40], .string ⟨(nameF 40).toArray⟩)) (by rw [hS]; rfl)
  · exact sum_at (p := ([.int .i64 41], .string ⟨(nameF 41).toArray⟩)) (by rw [hS]; rfl)
  · have n1 : ¬ op = 1 := by omega
    have n2 : ¬ op = 2 := by omega
    have n3 : ¬ op = 3 := by omega
    have n4 : ¬ op = 4 := by omega
    have n5 : ¬ op = 5 := by omega
    have n6 : ¬ op = 6 := by omega
    have n7 : ¬ op = 7 := by omega
    have n8 : ¬ op = 8 := by omega
    have n9 : ¬ op = 9 := by omega
    have n10 : ¬ op = 10 := by omega
    have n11 : ¬ op = 11 := by omega
    have n12 : ¬ op = 12 := by omega
    have n13 : ¬ op = 13 := by omega
    have n14 : ¬ op = 14 := by omega
    have n15 : ¬ op = 15 := by omega
    have n16 : ¬ op = 16 := by omega
    have n17 : ¬ op = 17 := by omega
    have n18 : ¬ op = 18 := by omega
    have n19 : ¬ op = 19 := by omega
    have n20 : ¬ op = 20 := by omega
    have n21 : ¬ op = 21 := by omega
    have n22 : ¬ op = 22 := by omega
    have n23 : ¬ op = 23 := by omega
    have n24 : ¬ op = 24 := by omega
    have n25 : ¬ op = 25 := by omega
    have n26 : ¬ op = 26 := by omega
    have n27 : ¬ op = 27 := by omega
    have n28 : ¬ op = 28 := by omega
    have n29 : ¬ op = 29 := by omega
    have n30 : ¬ op = 30 := by omega
    have n31 : ¬ op = 31 := by omega
    have n32 : ¬ op = 32 := by omega
    have n33 : ¬ op = 33 := by omega
    have n34 : ¬ op = 34 := by omega
    have n35 : ¬ op = 35 := by omega
    have n36 : ¬ op = 36 := by omega
    have n37 : ¬ op = 37 := by omega
    have n38 : ¬ op = 38 := by omega
    have n39 : ¬ op = 39 := by omega
    have n40 : ¬ op = 40 := by omega
    have n41 : ¬ op = 41 := by omega
    have hf : (S 13).find? (fun p => eqL p.1 [.int .i64 op]) = none := by
      rw [hS, List.find?_eq_none]
      intro p hp
      simp only [nmL, List.mem_cons, List.not_mem_nil, or_false] at hp
      rcases hp with rfl | rfl | rfl | rfl | rfl | rfl | rfl | rfl | rfl | rfl | rfl | rfl | rfl | rfl | rfl | rfl | rfl | rfl | rfl | rfl | rfl | rfl | rfl | rfl | rfl | rfl | rfl | rfl | rfl | rfl | rfl | rfl | rfl | rfl | rfl | rfl | rfl | rfl | rfl | rfl | rfl
      all_goals (simp [eqL, eqV]; omega)
    have e0 : nameF op = [] := by unfold nameF; rw [if_neg (by omega)]
    rw [e0]
    refine fn_eq2 3 [8] k13 hf rfl ?_
    rcases hne with h | h
    · simp [-BitVec.toNat_or, -BitVec.toNat_ofInt, -BitVec.toNat_and, index_slice u39 sz9, load_of ld9, h]
    · have h1 : ¬ op < 1 := by omega
      simp [-BitVec.toNat_or, -BitVec.toNat_ofInt, -BitVec.toNat_and, index_slice u39 sz9, load_of ld9, h, h1]
theorem rname_run (hS : S 14 = []) {e : TypeId} (hg : Rdo m 0 opsC e 0) (op : Int) : callw Tryd.prog TT S 14 [.int .i64 op] m = some (.string ⟨(nameF op).toArray⟩, m) := by
  refine fn_eq 3 [8] k14 hS rfl ?_
  by_cases h0 : op < 0
  · have e0 : nameF op = [] := by unfold nameF; rw [if_neg (by omega)]
    simp [-BitVec.toNat_or, -BitVec.toNat_ofInt, -BitVec.toNat_and, indexAddr_arr u41 sz9, load_of ld9, h0, e0]
  · by_cases h1 : 42 ≤ op
    · have e0 : nameF op = [] := by unfold nameF; rw [if_neg (by omega)]
      simp [-BitVec.toNat_or, -BitVec.toNat_ofInt, -BitVec.toNat_and, indexAddr_arr u41 sz9, load_of ld9, h0, h1, e0]
    · have hw : opsL.length = 42 := by rfl
      have hk : op.toNat < opsL.length := by omega
      have hl : opsC.length = 42 := by rfl
      have ld : loadRow m ⟨0, op.toNat, none⟩ 1 = some [.string ⟨(nameF op).toArray⟩] := by
        rw [hg.load (off := op.toNat) 1 (by omega)]
        have e0 : nameF op = opsL[op.toNat] := by
          unfold nameF
          split
          · rw [List.getD_eq_getElem?_getD, List.getElem?_eq_getElem hk]; rfl
          · have : op.toNat = 0 := by omega
            simp only [this]; rfl
        rw [e0]
        simp only [window, opsC, ← List.map_drop, ← List.map_take]
        rw [List.drop_eq_getElem_cons hk]
        rfl
      have i0 : 0 ≤ op := by omega
      have i1 : op < 42 := by omega
      have i2 : op ≤ 9223372036854775807 := by omega
      generalize nameF op = nm at ld
      simp [-BitVec.toNat_or, -BitVec.toNat_ofInt, -BitVec.toNat_and, indexAddr_arr u41 sz9, load_of ld9, h0, h1, ld, i0, i1, i2]

end Go.Proofs.YtbhnojbkinbomaaDoor.base

