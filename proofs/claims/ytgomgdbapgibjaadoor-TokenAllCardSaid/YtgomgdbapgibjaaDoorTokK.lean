/-
  This text proves what 'text' and 'one' of the document's chapter 3 do over the abstract run.
  Condition: nothing is known of their calls ahead ('S f = []').
-/
import Derived.Test.YtgomgdbapgibjaaDoorTokJ
set_option maxRecDepth 100000
set_option linter.unusedSimpArgs false
set_option linter.unusedVariables false
namespace Go.Proofs.YtgomgdbapgibjaaDoor.base
open Go.Sh gen
variable {S : Sums} {m : Mem} {b f fo : Nat} {ao : Option Addr} {σ : St}
def Rd.val : Rd → Value
  | .tok k t v n => .tuple #[.agg #[.int .i64 k, .string ⟨t.toArray⟩, .int .i64 v, .int .i64 0, .int .i64 0], .int .i64 n, .int .i64 0]
  | .err e => .tuple #[.agg #[.int .i64 0, .string ⟨#[]⟩, .int .i64 0, .int .i64 0, .int .i64 0], .int .i64 0, .int .i64 e]
def textRd (r : List UInt8) : Rd := match textGo (r.drop 1) [] with
  | some (x, t) => .tok 5 x 0 (r.length - t.length)
  | none => .err 11
theorem rtext_run (hS : S 44 = []) (r : List UInt8) (hr0 : r ≠ []) (hrl : r.length ≤ 16384) :
    ∃ v m1, callw Tryd.prog TT S 44 [.string ⟨r.toArray⟩] m = some (v, m1) ∧ v = (textRd r).val ∧ Keeps m m1 [] := by
  obtain ⟨oz, kz, nz⟩ := new_own (m := m) (cs := [Value.int .i64 0, .string ⟨#[]⟩, .int .i64 0, .int .i64 0, .int .i64 0]) (e := 31) rfl
  have hr1 : 1 ≤ r.length := by cases r with | nil => exact absurd rfl hr0 | cons _ _ => simp
  unfold textRd
  generalize hT : textGo (r.drop 1) [] = T
  refine fn_w 48 [48, 50, 52, 54, 57, 62] k44 hS rfl ?_
  obtain ⟨mz, hmz⟩ : ∃ mz, m.new [Value.int .i64 0, .string ⟨#[]⟩, .int .i64 0, .int .i64 0, .int .i64 0] 31 = mz := ⟨_, rfl⟩
  rw [hmz] at oz kz nz
  simp [-BitVec.toNat_or, -BitVec.toNat_ofInt, -BitVec.toNat_and, lres_agg ld31, alloc_of zo31, len_string u9, index_str u9, build_of bo31, store_of sz31, bin_str u9 .add (Or.inl rfl), slice_str u9, hmz]
  refine wsem_loop 48 [48, 50, 52, 54, 57, 62] (fun d E m2 => ∃ (n : Nat) (acc : List UInt8), r.length - n = d ∧ acc.length ≤ n ∧ n ≤ r.length + 1 ∧ textGo (r.drop n) acc = T ∧ E = [(0, .string ⟨r.toArray⟩), (2, .pointer (some ⟨m.next, 0, none⟩)), (5, .string ⟨acc.toArray⟩), (6, .int .i64 n)] ∧ m2 = mz) _ ⟨_, ⟨1, [], rfl, by simp, by omega, hT, rfl, rfl⟩, ⟨rfl, rfl, rfl, rfl, trivial⟩⟩ ?_
  rintro d E m2 ih ⟨n, acc, hd, hacc, hn1, hg, rfl, rfl⟩
  -- the answer of a fault
  by_cases hlt : n < r.length
  · have e1 : (n : Int) < r.length := by omega
    have em : (n : Int) ≤ 9223372036854775807 := by omega
    have w1 : IntKind.i64.wrap ((n : Int) + 1) = ((n + 1 : Nat) : Int) := by rw [wrap_i64 (by omega) (by omega)]; omega
    rw [List.drop_eq_getElem_cons hlt, textGo_cons] at hg
    have hc := (r[n]).toNat_lt
    by_cases c34 : (r[n]).toNat = 34
    · rw [if_pos c34] at hg
      have c34' : ((r[n]).toNat : Int) = 34 := by omega
      by_cases ha : acc.length ≤ 2000
      · rw [if_pos ha] at hg
        have ha' : ¬ (2000 : Int) < acc.length := by omega
        subst hg
        have hlen : r.length - (r.drop (n + 1)).length = n + 1 := by simp; omega
        simp only [hlen]
        simp [-Int.natCast_add, -BitVec.toNat_or, -BitVec.toNat_ofInt, -BitVec.toNat_and, lres_agg ld31, alloc_of zo31, len_string u9, index_str u9, build_of bo31, store_of sz31, bin_str u9 .add (Or.inl rfl), slice_str u9, e1, hlt, em, c34', ha', w1]
        generalize hrr : storeRow _ _ _ = rr
        obtain ⟨m3, rfl, o3, k3⟩ := store_own hrr oz (by simp) (by simp [one_int, one_str])
        have l3 := o3.load (off := 0) 5 (by simp [over])
        simp [over, window] at l3
        simp [-Int.natCast_add, -BitVec.toNat_or, -BitVec.toNat_ofInt, -BitVec.toNat_and, lres_agg ld31, alloc_of zo31, len_string u9, index_str u9, build_of bo31, store_of sz31, bin_str u9 .add (Or.inl rfl), slice_str u9, w1, l3]
        exact ⟨by simp [Rd.val], kz.mono2 k3 (Nat.le_refl _)⟩
      · rw [if_neg ha] at hg
        have ha' : (2000 : Int) < acc.length := by omega
        subst hg
        simp [-BitVec.toNat_or, -BitVec.toNat_ofInt, -BitVec.toNat_and, lres_agg ld31, alloc_of zo31, len_string u9, index_str u9, build_of bo31, store_of sz31, bin_str u9 .add (Or.inl rfl), slice_str u9, e1, hlt, em, c34', ha']
        generalize hrr : storeRow _ _ _ = rr
        obtain ⟨m3, rfl, o3, k3⟩ := store_own hrr oz (by simp) (by simp [one_int, one_str])
        have l3 := o3.load (off := 0) 5 (by simp [over])
        simp [over, window] at l3
        simp [-BitVec.toNat_or, -BitVec.toNat_ofInt, -BitVec.toNat_and, lres_agg ld31, alloc_of zo31, len_string u9, index_str u9, build_of bo31, store_of sz31, bin_str u9 .add (Or.inl rfl), slice_str u9, l3]
        exact ⟨by simp [Rd.val], kz.mono2 k3 (Nat.le_refl _)⟩
    · rw [if_neg c34] at hg
      have c34' : ¬ ((r[n]).toNat : Int) = 34 := by omega
      by_cases c92 : (r[n]).toNat = 92
      · rw [if_pos c92] at hg
        have c92' : ((r[n]).toNat : Int) = 92 := by omega
        by_cases hl2 : n + 1 < r.length
        · have e2 : ((n + 1 : Nat) : Int) < r.length := by omega
          have hsum : ((acc.length + 1 : Nat) : Int) ≤ 9223372036854775807 := by omega
          have em2 : ((n + 1 : Nat) : Int) ≤ 9223372036854775807 := by omega
          have w2 : IntKind.i64.wrap (((n + 1 : Nat) : Int) + 1) = ((n + 2 : Nat) : Int) := by rw [wrap_i64 (by omega) (by omega)]; omega
          rw [List.drop_eq_getElem_cons hl2] at hg
          simp only [escB] at hg
          have go : ∀ k : UInt8, Option.map UInt8.ofNat (esc (r[n + 1]).toNat) = some k → textGo (r.drop (n + 2)) (acc ++ [k]) = T := by
            intro k hk; rw [hk] at hg; exact hg
          have no : esc (r[n + 1]).toNat = none → T = none := by intro hk; rw [hk] at hg; exact hg.symm
          by_cases x1 : (r[n + 1]).toNat = 110
          · have x1' : ((r[n + 1]).toNat : Int) = 110 := by omega
            have he10 : esc (r[n + 1]).toNat = some 10 := by rw [x1]; decide
            have g10 : textGo (r.drop (n + 2)) (acc ++ [10]) = T := go 10 (by rw [he10]; rfl)
            simp [-Int.natCast_add, -BitVec.toNat_or, -BitVec.toNat_ofInt, -BitVec.toNat_and, lres_agg ld31, alloc_of zo31, len_string u9, index_str u9, build_of bo31, store_of sz31, bin_str u9 .add (Or.inl rfl), slice_str u9, e1, hlt, em, c34', c92', e2, hl2, em2, w1, w2, x1', hsum]
            exact ih _ _ _ _ ⟨n + 2, acc ++ [10], rfl, by simp; omega, by omega, g10, rfl, rfl⟩ (by omega) ⟨rfl, rfl, by simp [lget], by simp [lget], trivial⟩
          have x1' : ¬ ((r[n + 1]).toNat : Int) = 110 := by omega
          by_cases x2 : (r[n + 1]).toNat = 116
          · have x2' : ((r[n + 1]).toNat : Int) = 116 := by omega
            have he9 : esc (r[n + 1]).toNat = some 9 := by rw [x2]; decide
            have g9 : textGo (r.drop (n + 2)) (acc ++ [9]) = T := go 9 (by rw [he9]; rfl)
            simp [-Int.natCast_add, -BitVec.toNat_or, -BitVec.toNat_ofInt, -BitVec.toNat_and, lres_agg ld31, alloc_of zo31, len_string u9, index_str u9, build_of bo31, store_of sz31, bin_str u9 .add (Or.inl rfl), slice_str u9, e1, hlt, em, c34', c92', e2, hl2, em2, w1, w2, x1', x2', hsum]
            exact ih _ _ _ _ ⟨n + 2, acc ++ [9], rfl, by simp; omega, by omega, g9, rfl, rfl⟩ (by omega) ⟨rfl, rfl, by simp [lget], by simp [lget], trivial⟩
          have x2' : ¬ ((r[n + 1]).toNat : Int) = 116 := by omega
          by_cases x3 : (r[n + 1]).toNat = 34
          · have x3' : ((r[n + 1]).toNat : Int) = 34 := by omega
            have he34 : esc (r[n + 1]).toNat = some 34 := by rw [x3]; decide
            have g34 : textGo (r.drop (n + 2)) (acc ++ [34]) = T := go 34 (by rw [he34]; rfl)
            simp [-Int.natCast_add, -BitVec.toNat_or, -BitVec.toNat_ofInt, -BitVec.toNat_and, lres_agg ld31, alloc_of zo31, len_string u9, index_str u9, build_of bo31, store_of sz31, bin_str u9 .add (Or.inl rfl), slice_str u9, e1, hlt, em, c34', c92', e2, hl2, em2, w1, w2, x1', x2', x3', hsum]
            exact ih _ _ _ _ ⟨n + 2, acc ++ [34], rfl, by simp; omega, by omega, g34, rfl, rfl⟩ (by omega) ⟨rfl, rfl, by simp [lget], by simp [lget], trivial⟩
          have x3' : ¬ ((r[n + 1]).toNat : Int) = 34 := by omega
          by_cases x4 : (r[n + 1]).toNat = 92
          · have x4' : ((r[n + 1]).toNat : Int) = 92 := by omega
            have he92 : esc (r[n + 1]).toNat = some 92 := by rw [x4]; decide
            have g92 : textGo (r.drop (n + 2)) (acc ++ [92]) = T := go 92 (by rw [he92]; rfl)
            simp [-Int.natCast_add, -BitVec.toNat_or, -BitVec.toNat_ofInt, -BitVec.toNat_and, lres_agg ld31, alloc_of zo31, len_string u9, index_str u9, build_of bo31, store_of sz31, bin_str u9 .add (Or.inl rfl), slice_str u9, e1, hlt, em, c34', c92', e2, hl2, em2, w1, w2, x1', x2', x3', x4', hsum]
            exact ih _ _ _ _ ⟨n + 2, acc ++ [92], rfl, by simp; omega, by omega, g92, rfl, rfl⟩ (by omega) ⟨rfl, rfl, by simp [lget], by simp [lget], trivial⟩
          have x4' : ¬ ((r[n + 1]).toNat : Int) = 92 := by omega
          have hTn := no (by simp [esc, x1, x2, x3, x4])
          subst hTn
          simp [-Int.natCast_add, -BitVec.toNat_or, -BitVec.toNat_ofInt, -BitVec.toNat_and, lres_agg ld31, alloc_of zo31, len_string u9, index_str u9, build_of bo31, store_of sz31, bin_str u9 .add (Or.inl rfl), slice_str u9, e1, hlt, em, c34', c92', e2, hl2, em2, w1, w2, x1', x2', x3', x4']
          generalize hrr : storeRow _ _ _ = rr
          obtain ⟨m3, rfl, o3, k3⟩ := store_own hrr oz (by simp) (by simp [one_int, one_str])
          have l3 := o3.load (off := 0) 5 (by simp [over])
          simp [over, window] at l3
          simp [-BitVec.toNat_or, -BitVec.toNat_ofInt, -BitVec.toNat_and, lres_agg ld31, alloc_of zo31, len_string u9, index_str u9, build_of bo31, store_of sz31, bin_str u9 .add (Or.inl rfl), slice_str u9, l3]
          exact ⟨by simp [Rd.val], kz.mono2 k3 (Nat.le_refl _)⟩
        · have e2 : ¬ ((n + 1 : Nat) : Int) < r.length := by omega
          rw [List.drop_eq_nil_of_le (by omega)] at hg
          subst hg
          simp [-Int.natCast_add, -BitVec.toNat_or, -BitVec.toNat_ofInt, -BitVec.toNat_and, lres_agg ld31, alloc_of zo31, len_string u9, index_str u9, build_of bo31, store_of sz31, bin_str u9 .add (Or.inl rfl), slice_str u9, e1, hlt, em, c34', c92', e2, hl2, w1]
          generalize hrr : storeRow _ _ _ = rr
          obtain ⟨m3, rfl, o3, k3⟩ := store_own hrr oz (by simp) (by simp [one_int, one_str])
          have l3 := o3.load (off := 0) 5 (by simp [over])
          simp [over, window] at l3
          simp [-BitVec.toNat_or, -BitVec.toNat_ofInt, -BitVec.toNat_and, lres_agg ld31, alloc_of zo31, len_string u9, index_str u9, build_of bo31, store_of sz31, bin_str u9 .add (Or.inl rfl), slice_str u9, l3]
          exact ⟨by simp [Rd.val], kz.mono2 k3 (Nat.le_refl _)⟩
      · rw [if_neg c92] at hg
        have c92' : ¬ ((r[n]).toNat : Int) = 92 := by omega
        by_cases cbad : (r[n]).toNat < 32 ∨ 126 < (r[n]).toNat
        · rw [if_pos cbad] at hg
          subst hg
          by_cases c32 : (r[n]).toNat < 32
          · have c32' : ((r[n]).toNat : Int) < 32 := by omega
            simp [-BitVec.toNat_or, -BitVec.toNat_ofInt, -BitVec.toNat_and, lres_agg ld31, alloc_of zo31, len_string u9, index_str u9, build_of bo31, store_of sz31, bin_str u9 .add (Or.inl rfl), slice_str u9, e1, hlt, em, c34', c92', c32', c32]
            generalize hrr : storeRow _ _ _ = rr
            obtain ⟨m3, rfl, o3, k3⟩ := store_own hrr oz (by simp) (by simp [one_int, one_str])
            have l3 := o3.load (off := 0) 5 (by simp [over])
            simp [over, window] at l3
            simp [-BitVec.toNat_or, -BitVec.toNat_ofInt, -BitVec.toNat_and, lres_agg ld31, alloc_of zo31, len_string u9, index_str u9, build_of bo31, store_of sz31, bin_str u9 .add (Or.inl rfl), slice_str u9, l3]
            exact ⟨by simp [Rd.val], kz.mono2 k3 (Nat.le_refl _)⟩
          · have c32' : ¬ ((r[n]).toNat : Int) < 32 := by omega
            have c126' : (126 : Int) < ((r[n]).toNat : Int) := by omega
            have c126 : 126 < (r[n]).toNat := by omega
            simp [-BitVec.toNat_or, -BitVec.toNat_ofInt, -BitVec.toNat_and, lres_agg ld31, alloc_of zo31, len_string u9, index_str u9, build_of bo31, store_of sz31, bin_str u9 .add (Or.inl rfl), slice_str u9, e1, hlt, em, c34', c92', c32', c32, c126', c126]
            generalize hrr : storeRow _ _ _ = rr
            obtain ⟨m3, rfl, o3, k3⟩ := store_own hrr oz (by simp) (by simp [one_int, one_str])
            have l3 := o3.load (off := 0) 5 (by simp [over])
            simp [over, window] at l3
            simp [-BitVec.toNat_or, -BitVec.toNat_ofInt, -BitVec.toNat_and, lres_agg ld31, alloc_of zo31, len_string u9, index_str u9, build_of bo31, store_of sz31, bin_str u9 .add (Or.inl rfl), slice_str u9, l3]
            exact ⟨by simp [Rd.val], kz.mono2 k3 (Nat.le_refl _)⟩
        · rw [if_neg cbad] at hg
          have c32 : ¬ (r[n]).toNat < 32 := by omega
          have c126 : ¬ 126 < (r[n]).toNat := by omega
          have c32' : ¬ ((r[n]).toNat : Int) < 32 := by omega
          have c126' : ¬ (126 : Int) < ((r[n]).toNat : Int) := by omega
          have em2 : ((n + 1 : Nat) : Int) ≤ 9223372036854775807 := by omega
          have hle2 : n + 1 ≤ r.length := by omega
          have htk : (r.drop n).take 1 = [r[n]] := by
            rw [List.drop_eq_getElem_cons hlt]; rfl
          have hsum : ((acc.length + 1 : Nat) : Int) ≤ 9223372036854775807 := by omega
          simp [-Int.natCast_add, -BitVec.toNat_or, -BitVec.toNat_ofInt, -BitVec.toNat_and, lres_agg ld31, alloc_of zo31, len_string u9, index_str u9, build_of bo31, store_of sz31, bin_str u9 .add (Or.inl rfl), slice_str u9, e1, hlt, em, c34', c92', c32', c32, c126', c126, w1, em2, hle2, htk, hsum]
          exact ih _ _ _ _ ⟨n + 1, acc ++ [r[n]], rfl, by simp; omega, by omega, hg, rfl, rfl⟩ (by omega) ⟨rfl, rfl, by simp [lget], by simp [lget], trivial⟩
  · have e1 : ¬ (n : Int) < r.length := by omega
    rw [List.drop_eq_nil_of_le (by omega)] at hg
    simp only [textGo] at hg
    subst hg
    simp [-BitVec.toNat_or, -BitVec.toNat_ofInt, -BitVec.toNat_and, lres_agg ld31, alloc_of zo31, len_string u9, index_str u9, build_of bo31, store_of sz31, bin_str u9 .add (Or.inl rfl), slice_str u9, e1, hlt]
    generalize hrr : storeRow _ _ _ = rr
    obtain ⟨m3, rfl, o3, k3⟩ := store_own hrr oz (by simp) (by simp [one_int, one_str])
    have l3 := o3.load (off := 0) 5 (by simp [over])
    simp [over, window] at l3
    simp [-BitVec.toNat_or, -BitVec.toNat_ofInt, -BitVec.toNat_and, lres_agg ld31, alloc_of zo31, len_string u9, index_str u9, build_of bo31, store_of sz31, bin_str u9 .add (Or.inl rfl), slice_str u9, l3]
    exact ⟨by simp [Rd.val], kz.mono2 k3 (Nat.le_refl _)⟩
end Go.Proofs.YtgomgdbapgibjaaDoor.base

