/-
  This text proves what turnstonehand.Words does over the abstract run.
  Condition: nothing is known of its calls ahead ('S f = []').
-/
import Derived.Test.YtgomgdbapgibjaaDoorTokA
set_option maxRecDepth 100000
set_option linter.unusedSimpArgs false
set_option linter.unusedVariables false
namespace Go.Proofs.YtgomgdbapgibjaaDoor.base
open Go.Sh gen
variable {S : Sums} {m : Mem}
theorem emod_tmod (x k : Int) (hk : 0 < k) : x % k = if x.tmod k < 0 then x.tmod k + k else x.tmod k := by
  have hx := Int.emod_nonneg x (by omega : k ≠ 0)
  have hx2 := Int.emod_lt_of_pos x hk
  split
  · rename_i h
    have : (x.tmod k + k) % k = x % k := by
      rw [Int.add_emod_right]
      have h3 := Int.tmod_add_mul_tdiv x k
      have : x.tmod k = x - k * x.tdiv k := by omega
      rw [this, Int.sub_mul_emod_self_left]
    rw [← this]
    have := Int.lt_tmod_of_pos x hk
    exact Int.emod_eq_of_lt (by omega) (by omega)
  · rename_i h
    have : (x.tmod k) % k = x % k := by
      have h3 := Int.tmod_add_mul_tdiv x k
      have : x.tmod k = x - k * x.tdiv k := by omega
      rw [this, Int.sub_mul_emod_self_left]
    rw [← this]
    have := Int.tmod_lt_of_pos x hk
    exact Int.emod_eq_of_lt (by omega) (by omega)
theorem pick_run (hS : S 7 = []) (x k : Int) (hk : 0 < k) (hk2 : k < 1000000) : callw Tryd.prog TT S 7 [.int .i64 x, .int .i64 k] m = some (.int .i64 (x % k), m) := by
  have hx := Int.emod_nonneg x (by omega : k ≠ 0)
  have hx2 := Int.emod_lt_of_pos x hk
  have hk0 : k ≠ 0 := by omega
  have hw : IntKind.i64.wrap (x % k) = x % k := wrap_i64 (by omega) (by omega)
  have e := emod_tmod x k hk
  refine fn_eq 5 [9] k7 hS rfl ?_
  by_cases h : x.tmod k < 0
  · rw [if_pos h] at e
    rw [e] at hw ⊢
    simp [-BitVec.toNat_or, -BitVec.toNat_ofInt, -BitVec.toNat_and, id, hk0, h, hw]
  · rw [if_neg h] at e
    rw [e]
    simp [-BitVec.toNat_or, -BitVec.toNat_ofInt, -BitVec.toNat_and, id, hk0, h]
def handW : List (List UInt8) := [[116, 121, 112, 101], [115, 116, 114, 117, 99, 116], [105, 110, 116, 101, 114, 102, 97, 99, 101], [102, 117, 110, 99], [118, 97, 114], [105, 102], [101, 108, 115, 101], [102, 111, 114], [98, 114, 101, 97, 107], [99, 111, 110, 116, 105, 110, 117, 101], [114, 101, 116, 117, 114, 110], [112, 114, 105, 110, 116], [108, 101, 110], [109, 97, 107, 101], [110, 101, 119], [105, 110, 112, 117, 116], [116, 114, 117, 101], [102, 97, 108, 115, 101], [110, 105, 108], [105, 110, 116], [98, 111, 111, 108], [115, 116, 114, 105, 110, 103], [58, 61], [61, 61], [38, 38], [124, 124], [43], [45], [42], [60], [61], [33], [40], [41], [91], [93], [123], [125], [44], [46], [59], [10], [97], [55]]
def handC : List Value := handW.map fun l => .string ⟨l.toArray⟩
def handAt (x : Int) : List UInt8 := handW.getD (x % 44).toNat []
def wordsT (l : List Int) : List UInt8 := l.flatMap fun x => handAt x ++ [32]
theorem handAt_len (x : Int) : (handAt x).length ≤ 9 := by
  unfold handAt
  have h : ∀ l ∈ handW, l.length ≤ 9 := by decide
  rw [List.getD_eq_getElem?_getD]
  cases hk : handW[(x % 44).toNat]? with
  | none => simp
  | some l => exact h l (List.mem_of_getElem? hk)
theorem wordsT_len : ∀ l : List Int, (wordsT l).length ≤ 10 * l.length
  | [] => by simp [wordsT]
  | x :: l => by
    have h1 := wordsT_len l
    have h2 := handAt_len x
    simp only [wordsT, List.flatMap_cons, List.length_append, List.length_cons, List.length_nil] at h1 ⊢
    omega
theorem hand_load {e : TypeId} (hg : Rdo m 0 handC e 0) (x : Int) : loadRow m ⟨0, (x % 44).toNat, none⟩ 1 = some [.string ⟨(handAt x).toArray⟩] := by
  have hx := Int.emod_nonneg x (by omega : (44 : Int) ≠ 0)
  have hx2 := Int.emod_lt_of_pos x (by omega : (0 : Int) < 44)
  have hl : handC.length = 44 := by rfl
  have h1 := hg.load (off := (x % 44).toNat) 1 (by omega)
  rw [h1]
  have hw : handW.length = 44 := by rfl
  have hk : (x % 44).toNat < handW.length := by omega
  unfold handAt
  rw [List.getD_eq_getElem?_getD, List.getElem?_eq_getElem hk]
  simp only [window, handC, ← List.map_drop, ← List.map_take]
  rw [List.drop_eq_getElem_cons hk]
  rfl
theorem words_run (hS : S 8 = []) (hP : S 7 = []) {e : TypeId} (hg : Rdo m 0 handC e 0) {ls : List Int} {ao : Option Addr} {c e2 f0 : Nat} (h0 : Rs m ao ls.length (ls.flatMap fun n : Int => [Value.int .i64 n]) e2 1 f0) (hl0 : ls.length ≤ 9223372036854775807) {k : Nat} (hk : k ≤ ls.length) :
    ∃ v m', callw Tryd.prog TT S 8 [.slice ao k c] m = some (v, m') ∧ v = .string ⟨(wordsT ((ls.take k).take 200)).toArray⟩ ∧ m' = m := by
  refine fn_w 5 [12] k8 hS rfl ?_
  simp [-Int.natCast_add, -BitVec.toNat_or, -BitVec.toNat_ofInt, -BitVec.toNat_and, len_slice u22, index_slice u22 sz3, load_of ld3, indexAddr_arr u38 sz9, load_of ld9, bin_str u9 .add (Or.inl rfl)]
  refine wsem_loop 5 [12] (fun d E m2 => ∃ i : Nat, 200 - i = d ∧ i ≤ 200 ∧ i ≤ k ∧ E = [(0, .slice ao k c), (3, .string ⟨(wordsT (ls.take i)).toArray⟩), (4, .int .i64 i)] ∧ m2 = m) _ ⟨_, ⟨0, rfl, by omega, by omega, rfl, rfl⟩, ⟨by rfl, by rfl, by rfl, trivial⟩⟩ ?_
  rintro d E m2 ih ⟨i, hd, hi, hi2, rfl, rfl⟩
  have hlen := wordsT_len (ls.take i)
  have hlt := List.length_take_le i ls
  by_cases hgo : i < k ∧ i < 200
  · obtain ⟨g0, g2⟩ := hgo
    have g1 : i < ls.length := by omega
    have e1 : (i : Int) < k := by omega
    have e2 : (i : Int) < 200 := by omega
    have em : (i : Int) ≤ 9223372036854775807 := by omega
    have w1 : IntKind.i64.wrap ((i : Int) + 1) = ((i + 1 : Nat) : Int) := by rw [wrap_i64 (by omega) (by omega)]; omega
    obtain ⟨b0, rfl, ob⟩ := h0.rdo (by omega)
    have ld : loadRow m2 ⟨b0, i, none⟩ 1 = some [.int .i64 ls[i]] := by
      have hf : (ls.flatMap fun n : Int => [Value.int .i64 n]) = ls.map (Value.int .i64) := List.map_eq_flatMap.symm
      have hl := ob.load (off := i) 1 (by rw [hf]; simp; omega)
      rw [hl, hf]
      simp only [window, ← List.map_drop, ← List.map_take]
      rw [List.drop_eq_getElem_cons g1]
      rfl
    have pk := fun m' => pick_run (m := m') hP ls[i] 44 (by omega) (by omega)
    have hl2 := hand_load hg ls[i]
    have hx := Int.emod_nonneg ls[i] (by omega : (44 : Int) ≠ 0)
    have hx2 := Int.emod_lt_of_pos ls[i] (by omega : (0 : Int) < 44)
    have hx3 : ls[i] % 44 ≤ 9223372036854775807 := by omega
    have hal := handAt_len ls[i]
    have hnext : wordsT (ls.take (i + 1)) = wordsT (ls.take i) ++ (handAt ls[i] ++ [32]) := by
      rw [List.take_succ_eq_append_getElem g1]
      simp only [wordsT, List.flatMap_append, List.flatMap_cons, List.flatMap_nil, List.append_nil]
    generalize handAt ls[i] = hw at hl2 hnext hal
    generalize ls[i] % 44 = y at pk hl2 hx hx2 hx3
    generalize wordsT (ls.take i) = s at hlen hnext
    have z1 : ((s.length + hw.length : Nat) : Int) ≤ 9223372036854775807 := by omega
    have z2 : ((s.length + hw.length + 1 : Nat) : Int) ≤ 9223372036854775807 := by omega
    have z3 : ((s.length + (hw.length + 1) : Nat) : Int) ≤ 9223372036854775807 := by omega
    have z4 : ((hw.length + 1 : Nat) : Int) ≤ 9223372036854775807 := by omega
    simp [-Int.natCast_add, -BitVec.toNat_or, -BitVec.toNat_ofInt, -BitVec.toNat_and, len_slice u22, index_slice u22 sz3, load_of ld3, indexAddr_arr u38 sz9, load_of ld9, bin_str u9 .add (Or.inl rfl), e1, e2, em, g0, g2, ld, pk, hl2, hx, hx2, hx3, z1, z2, z3, z4, w1]
    exact ih _ _ _ _ ⟨i + 1, rfl, by omega, by omega, rfl, rfl⟩ (by omega) ⟨by rfl, by simp [lget, hnext], by simp [lget], trivial⟩
  · have hend : ls.take i = (ls.take k).take 200 := by
      rw [List.take_take]
      rcases (by omega : i = 200 ∨ i = k) with h | h
      · rw [h, Nat.min_eq_left (by omega)]
      · rw [h, Nat.min_eq_right (by omega)]
    rw [hend]
    generalize wordsT ((ls.take k).take 200) = s
    by_cases a1 : i < k
    · have e1 : (i : Int) < k := by omega
      have e2 : ¬ (i : Int) < 200 := by omega
      simp [-Int.natCast_add, -BitVec.toNat_or, -BitVec.toNat_ofInt, -BitVec.toNat_and, len_slice u22, index_slice u22 sz3, load_of ld3, indexAddr_arr u38 sz9, load_of ld9, bin_str u9 .add (Or.inl rfl), e1, e2, a1]
    · have e1 : ¬ (i : Int) < k := by omega
      simp [-Int.natCast_add, -BitVec.toNat_or, -BitVec.toNat_ofInt, -BitVec.toNat_and, len_slice u22, index_slice u22 sz3, load_of ld3, indexAddr_arr u38 sz9, load_of ld9, bin_str u9 .add (Or.inl rfl), e1, a1]
end Go.Proofs.YtgomgdbapgibjaaDoor.base

