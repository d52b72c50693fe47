/-
  This text proves 'Rows.TokenNamesCardSaid': the law 'TokenNames' returns true at any text and any words, in whatever memory and on every tape, and its input reads as it did.
  The condition is the card's own: the listed package-level variable holds what the program's text lays.
-/
import Derived.Test.YtgomgdbapgibjaaDoorCards
import Derived.Test.YtgomgdbapgibjaaDoorTie
import Derived.Deep.DeepHandedRow
import Derived.Lib.LaidTab
import Derived.Test.YtgomgdbapgibjaaDoorTokJ
import Derived.Test.YtgomgdbapgibjaaDoorTokW
set_option maxRecDepth 100000
set_option linter.unusedSimpArgs false
set_option linter.unusedVariables false
namespace Go.Proofs.YtgomgdbapgibjaaDoor.tokenNames
open Go.Sh gen base
variable {S : Sums} {m : Mem}
def nameB : List UInt8 → Bool
  | [] => false
  | c :: r => ltr c.toNat && r.all (fun c => lod c.toNat) && !decide (c :: r ∈ wordL)

theorem nameB_no {s : List UInt8} {i : Nat} (h : i < s.length) (h1 : ltr (s[i]).toNat = false) (h2 : i = 0 ∨ dgt (s[i]).toNat = false) : nameB s = false := by
  cases s with
  | nil => rfl
  | cons c r =>
    cases i with
    | zero => simp only [List.getElem_cons_zero] at h1; simp [nameB, h1]
    | succ i =>
      simp only [List.getElem_cons_succ] at h1 h2
      have h3 : r.all (fun c => lod c.toNat) = false := by
        rw [List.all_eq_false]
        refine ⟨r[i]'(by simpa using h), List.getElem_mem _, ?_⟩
        simp [lod, h1]
        rcases h2 with h2 | h2
        · cases h2
        · exact h2
      simp [nameB, h3]
theorem nameB_yes {s : List UInt8} (h0 : s ≠ []) (h : ∀ j (hl : j < s.length), (ltr (s[j]).toNat = true ∨ j ≠ 0 ∧ dgt (s[j]).toNat = true)) : nameB s = !decide (s ∈ wordL) := by
  cases s with
  | nil => exact absurd rfl h0
  | cons c r =>
    have h1 : ltr c.toNat = true := by
      rcases h 0 (by simp) with h1 | h1
      · exact h1
      · exact absurd rfl h1.1
    have h2 : r.all (fun c => lod c.toNat) = true := by
      rw [List.all_eq_true]
      intro x hx
      obtain ⟨j, hj, rfl⟩ := List.mem_iff_getElem.1 hx
      have := h (j + 1) (by simpa using hj)
      simp only [List.getElem_cons_succ] at this
      rcases this with h3 | ⟨_, h3⟩ <;> simp [lod, h3]
    simp [nameB, h1, h2]

theorem isName_run (hS : S 16 = []) (hW : S 14 = []) (hL : S 26 = []) (hD : S 27 = []) (s : List UInt8) (hs : s.length ≤ 9223372036854775807) :
    ∃ v m1, callw Tryd.prog TT S 16 [.string ⟨s.toArray⟩] m = some (v, m1) ∧ v = .bool (nameB s) ∧ m1 = m := by
  have hw := fun m' => isWord_run (m := m') hW s
  refine fn_w 4 [7, 25] k16 hS rfl ?_
  simp [-Int.natCast_add, -BitVec.toNat_or, -BitVec.toNat_ofInt, -BitVec.toNat_and, len_string u9, index_str u9]
  refine wsem_loop 4 [7, 25] (fun d E m2 => ∃ i : Nat, s.length - i = d ∧ i ≤ s.length ∧ (∀ j (hj : j < i) (hl : j < s.length), (ltr (s[j]).toNat = true ∨ j ≠ 0 ∧ dgt (s[j]).toNat = true)) ∧ E = [(0, .string ⟨s.toArray⟩), (3, .int .i64 i)] ∧ m2 = m) _ ⟨_, ⟨0, rfl, by omega, fun j hj => by omega, rfl, rfl⟩, ⟨by rfl, by rfl, trivial⟩⟩ ?_
  rintro d E m2 ih ⟨i, hd, hi, hok, rfl, rfl⟩
  by_cases hlt : i < s.length
  · have e1 : (i : Int) < s.length := by omega
    have em : (i : Int) ≤ 9223372036854775807 := by omega
    have w1 : IntKind.i64.wrap ((i : Int) + 1) = ((i + 1 : Nat) : Int) := by rw [wrap_i64 (by omega) (by omega)]; omega
    have h1 := fun m' => letter_run (m := m') hL (s[i]).toNat
    have h2 := fun m' => digit_run (m := m') hD (s[i]).toNat
    have hno := nameB_no hlt
    have step : (ltr (s[i]).toNat = true ∨ i ≠ 0 ∧ dgt (s[i]).toNat = true) → ∀ j (hj : j < i + 1) (hl : j < s.length), (ltr (s[j]).toNat = true ∨ j ≠ 0 ∧ dgt (s[j]).toNat = true) := by
      intro h j hj hl
      rcases (by omega : j < i ∨ j = i) with hji | rfl
      · exact hok j hji hl
      · exact h
    cases c1 : ltr (s[i]).toNat with
    | true =>
      rw [c1] at h1
      simp [-Int.natCast_add, -BitVec.toNat_or, -BitVec.toNat_ofInt, -BitVec.toNat_and, len_string u9, index_str u9, e1, em, hlt, h1, w1]
      exact ih _ _ _ _ ⟨i + 1, rfl, by omega, step (Or.inl c1), rfl, rfl⟩ (by omega) ⟨by rfl, by simp [lget], trivial⟩
    | false =>
      rw [c1] at h1
      by_cases i0 : i = 0
      · have hf := hno c1 (Or.inl i0)
        have j0 : (i : Int) = 0 := by omega
        subst i0
        simp [-Int.natCast_add, -BitVec.toNat_or, -BitVec.toNat_ofInt, -BitVec.toNat_and, len_string u9, index_str u9, hlt, h1, hf]
      · have j0 : ¬ (i : Int) = 0 := by omega
        cases c2 : dgt (s[i]).toNat with
        | true =>
          rw [c2] at h2
          simp [-Int.natCast_add, -BitVec.toNat_or, -BitVec.toNat_ofInt, -BitVec.toNat_and, len_string u9, index_str u9, e1, em, hlt, h1, h2, j0, i0, w1]
          exact ih _ _ _ _ ⟨i + 1, rfl, by omega, step (Or.inr ⟨i0, c2⟩), rfl, rfl⟩ (by omega) ⟨by rfl, by simp [lget], trivial⟩
        | false =>
          rw [c2] at h2
          have hf := hno c1 (Or.inr c2)
          simp [-Int.natCast_add, -BitVec.toNat_or, -BitVec.toNat_ofInt, -BitVec.toNat_and, len_string u9, index_str u9, e1, em, hlt, h1, h2, j0, i0, hf]
  · have e1 : ¬ (i : Int) < s.length := by omega
    have hil : i = s.length := by omega
    by_cases s0 : s = []
    · subst s0
      obtain rfl : i = 0 := by simpa using hil
      simp [-Int.natCast_add, -BitVec.toNat_or, -BitVec.toNat_ofInt, -BitVec.toNat_and, len_string u9, index_str u9, nameB]
    · have hy := nameB_yes s0 (fun j hl => hok j (by omega) hl)
      have he : s.isEmpty = false := by simpa using s0
      rw [hy]
      generalize decide (s ∈ wordL) = b at hw
      simp [-Int.natCast_add, -BitVec.toNat_or, -BitVec.toNat_ofInt, -BitVec.toNat_and, len_string u9, index_str u9, e1, hlt, s0, he, hw]

theorem risName_run (hS : S 17 = []) (hW : S 15 = []) (hL : S 28 = []) (hD : S 29 = []) (s : List UInt8) (hs : s.length ≤ 9223372036854775807) :
    ∃ v m1, callw Tryd.prog TT S 17 [.string ⟨s.toArray⟩] m = some (v, m1) ∧ v = .bool (nameB s) ∧ m1 = m := by
  have hw := fun m' => risWord_run (m := m') hW s
  refine fn_w 4 [15, 19, 33] k17 hS rfl ?_
  by_cases s0 : s = []
  · subst s0
    simp [-Int.natCast_add, -BitVec.toNat_or, -BitVec.toNat_ofInt, -BitVec.toNat_and, index_str u9, len_string u9, nameB]
  · have he : s.isEmpty = false := by simpa using s0
    have h0 : 0 < s.length := by cases s with | nil => exact absurd rfl s0 | cons _ _ => simp
    have i0 : (0 : Int) < s.length := by omega
    have h1 := fun m' => rletter_run (m := m') hL (s[0]).toNat
    have hno := nameB_no h0
    cases c1 : ltr (s[0]).toNat with
    | false =>
      rw [c1] at h1
      have hf := hno c1 (Or.inl rfl)
      simp [-Int.natCast_add, -BitVec.toNat_or, -BitVec.toNat_ofInt, -BitVec.toNat_and, index_str u9, len_string u9, s0, he, h0, i0, h1, hf]
    | true =>
      rw [c1] at h1
      cases cw : decide (s ∈ wordL) with
      | true =>
        rw [cw] at hw
        have hf : nameB s = false := by
          cases s with
          | nil => rfl
          | cons c r => simp only [nameB, cw]; simp
        simp [-Int.natCast_add, -BitVec.toNat_or, -BitVec.toNat_ofInt, -BitVec.toNat_and, index_str u9, len_string u9, s0, he, h0, i0, h1, hw, hf]
      | false =>
        rw [cw] at hw
        simp [-Int.natCast_add, -BitVec.toNat_or, -BitVec.toNat_ofInt, -BitVec.toNat_and, index_str u9, len_string u9, s0, he, h0, i0, h1, hw]
        have hok0 : ∀ j (hj : j < 1) (hl : j < s.length), (ltr (s[j]).toNat = true ∨ j ≠ 0 ∧ dgt (s[j]).toNat = true) := by
          intro j hj hl
          obtain rfl : j = 0 := by omega
          exact Or.inl c1
        refine wsem_loop 4 [15, 19, 33] (fun d E m2 => ∃ i : Nat, s.length - i = d ∧ 1 ≤ i ∧ i ≤ s.length ∧ (∀ j (hj : j < i) (hl : j < s.length), (ltr (s[j]).toNat = true ∨ j ≠ 0 ∧ dgt (s[j]).toNat = true)) ∧ E = [(0, .string ⟨s.toArray⟩), (3, .int .i64 i)] ∧ m2 = m) _ ⟨_, ⟨1, rfl, by omega, by omega, hok0, rfl, rfl⟩, ⟨by rfl, by rfl, trivial⟩⟩ ?_
        rintro d E m2 ih ⟨i, hd, hi1, hi, hok, rfl, rfl⟩
        by_cases hlt : i < s.length
        · have e1 : (i : Int) < s.length := by omega
          have em : (i : Int) ≤ 9223372036854775807 := by omega
          have w1 : IntKind.i64.wrap ((i : Int) + 1) = ((i + 1 : Nat) : Int) := by rw [wrap_i64 (by omega) (by omega)]; omega
          have h1 := fun m' => rletter_run (m := m') hL (s[i]).toNat
          have h2 := fun m' => rdigit_run (m := m') hD (s[i]).toNat
          have hno := nameB_no hlt
          have step : (ltr (s[i]).toNat = true ∨ i ≠ 0 ∧ dgt (s[i]).toNat = true) → ∀ j (hj : j < i + 1) (hl : j < s.length), (ltr (s[j]).toNat = true ∨ j ≠ 0 ∧ dgt (s[j]).toNat = true) := by
            intro h j hj hl
            rcases (by omega : j < i ∨ j = i) with hji | rfl
            · exact hok j hji hl
            · exact h
          cases c1 : ltr (s[i]).toNat with
          | true =>
            rw [c1] at h1
            simp [-Int.natCast_add, -BitVec.toNat_or, -BitVec.toNat_ofInt, -BitVec.toNat_and, index_str u9, len_string u9, e1, em, hlt, h1, w1]
            exact ih _ _ _ _ ⟨i + 1, rfl, by omega, by omega, step (Or.inl c1), rfl, rfl⟩ (by omega) ⟨by rfl, by simp [lget], trivial⟩
          | false =>
            rw [c1] at h1
            cases c2 : dgt (s[i]).toNat with
            | true =>
              rw [c2] at h2
              simp [-Int.natCast_add, -BitVec.toNat_or, -BitVec.toNat_ofInt, -BitVec.toNat_and, index_str u9, len_string u9, e1, em, hlt, h1, h2, w1]
              exact ih _ _ _ _ ⟨i + 1, rfl, by omega, by omega, step (Or.inr ⟨by omega, c2⟩), rfl, rfl⟩ (by omega) ⟨by rfl, by simp [lget], trivial⟩
            | false =>
              rw [c2] at h2
              have hf := hno c1 (Or.inr c2)
              simp [-Int.natCast_add, -BitVec.toNat_or, -BitVec.toNat_ofInt, -BitVec.toNat_and, index_str u9, len_string u9, e1, em, hlt, h1, h2, hf]
        · have e1 : ¬ (i : Int) < s.length := by omega
          have hy := nameB_yes s0 (fun j hl => hok j (by omega) hl)
          rw [hy, cw]
          simp [-Int.natCast_add, -BitVec.toNat_or, -BitVec.toNat_ofInt, -BitVec.toNat_and, index_str u9, len_string u9, e1, hlt]

theorem law_run (hK : S 10 = [([], .bool true)]) (hS : S 6 = []) (hWs : S 8 = []) (hP : S 7 = []) (hN : S 16 = []) (hW : S 14 = []) (hL : S 26 = []) (hD : S 27 = []) (rN : S 17 = []) (rW : S 15 = []) (rL : S 28 = []) (rD : S 29 = [])
    {x0 : List UInt8} (hx0 : x0.length ≤ 9223372036854775807) {ls : List Int} {a0 : Option Addr} {f0 : Nat}
    (h0 : Rs m a0 ls.length (ls.flatMap fun n : Int => [Value.int .i64 n]) 3 1 f0) (hf0 : f0 < m.next) (hl0 : ls.length ≤ 9223372036854775807) (hw0 : ∀ n ∈ ls, (Lit.int .i64 n).wf = true) (hsp : ∀ a, a0 = some a → a.spot = none) {x2 : Bool}
    {e : TypeId} (hg : Rdo m 0 handC e 0) :
    ∃ v m', callw Tryd.prog TT S 6 [.string ⟨x0.toArray⟩, .slice a0 ls.length ls.length, .bool x2] m = some (v, m') ∧ v = .bool true := by
  have hkn := fun m' => sum_ok (P := Tryd.prog) (T := TT) (m := m') hK
  have end_ : ∀ s : List UInt8, s.length ≤ 9223372036854775807 → True := fun _ _ => trivial
  have ends : ∀ s : List UInt8, s.length ≤ 9223372036854775807 → ∃ b1 b2 : Bool, (∀ m' : Mem, callw Tryd.prog TT S 16 [.string ⟨s.toArray⟩] m' = some (.bool b2, m')) ∧ (∀ m' : Mem, callw Tryd.prog TT S 17 [.string ⟨s.toArray⟩] m' = some (.bool b2, m')) ∧ (∀ m' : Mem, callw Tryd.prog TT S 14 [.string ⟨s.toArray⟩] m' = some (.bool b1, m')) ∧ (∀ m' : Mem, callw Tryd.prog TT S 15 [.string ⟨s.toArray⟩] m' = some (.bool b1, m')) := by
    intro s hs
    refine ⟨decide (s ∈ wordL), nameB s, fun m' => ?_, fun m' => ?_, fun m' => isWord_run hW s, fun m' => risWord_run rW s⟩
    · obtain ⟨v1, m1, h1, rfl, rfl⟩ := isName_run (m := m') hN hW hL hD s hs
      exact h1
    · obtain ⟨v1, m1, h1, rfl, rfl⟩ := risName_run (m := m') rN rW rL rD s hs
      exact h1
  refine fn_w 7 [7] k6 hS rfl ?_
  cases x2 with
  | true =>
    by_cases hl : 1 < ls.length
    · have e1 : (1 : Int) < ls.length := by omega
      have e3 : 1 ≤ ls.length := by omega
      obtain ⟨b, rfl, _⟩ := h0.rdo (by omega)
      obtain ⟨v, m', hw, rfl, rfl⟩ := words_run (m := m) hWs hP hg (c := 1) h0 hl0 (k := 1) (by omega)
      have hwl := wordsT_len ((ls.take 1).take 200)
      have hlt : ((ls.take 1).take 200).length ≤ 1 := by simp; omega
      have hpos : 0 < (wordsT ((ls.take 1).take 200)).length := by
        cases ls with
        | nil => simp at hl
        | cons y r => simp [wordsT]
      obtain ⟨s, hs⟩ : ∃ s, wordsT ((ls.take 1).take 200) = s := ⟨_, rfl⟩
      rw [hs] at hw hwl hpos
      have w1 : IntKind.i64.wrap ((s.length : Int) - 1) = ((s.length - 1 : Nat) : Int) := by rw [wrap_i64 (by omega) (by omega)]; omega
      have e4 : s.length - 1 ≤ 9223372036854775807 ∧ ((s.length - 1 : Nat) : Int) ≤ 9223372036854775807 := by omega
      have e5 : s.length - 1 ≤ s.length := by omega
      obtain ⟨b1, b2, q1, q2, q3, q4⟩ := ends (s.take (s.length - 1)) (by simp; omega)
      by_cases zz : 0 < s.length - 1
      · cases b1 <;> cases b2 <;> simp [-Int.natCast_add, -BitVec.toNat_or, -BitVec.toNat_ofInt, -BitVec.toNat_and, len_slice u22, slice_sl u22 sz3, len_string u9, slice_str u9, bin_bool u4 .eql (Or.inl rfl), e1, hl, e3, hw, w1, e4, e5, zz, q1, q2, q3, q4, hkn, sliceS]
      · have z0 : s.length - 1 = 0 := by omega
        rw [z0] at q1 q2 q3 q4
        simp only [List.take_zero] at q1 q2 q3 q4
        cases b1 <;> cases b2 <;> simp [-Int.natCast_add, -BitVec.toNat_or, -BitVec.toNat_ofInt, -BitVec.toNat_and, len_slice u22, slice_sl u22 sz3, len_string u9, slice_str u9, bin_bool u4 .eql (Or.inl rfl), e1, hl, e3, hw, w1, e4, e5, zz, z0, q1, q2, q3, q4, hkn, sliceS]
    · have e1 : ¬ (1 : Int) < ls.length := by omega
      obtain ⟨v, m', hw, rfl, rfl⟩ := words_run (m := m) hWs hP hg (c := ls.length) h0 hl0 (k := ls.length) (by omega)
      have hwl := wordsT_len ((ls.take ls.length).take 200)
      have hlt : ((ls.take ls.length).take 200).length ≤ 1 := by simp; omega
      obtain ⟨s, hs⟩ : ∃ s, wordsT ((ls.take ls.length).take 200) = s := ⟨_, rfl⟩
      rw [hs] at hw hwl
      rcases (by omega : ls.length = 0 ∨ ls.length = 1) with hl0 | hl1
      · obtain rfl := List.length_eq_zero_iff.1 hl0
        have hse : s = [] := by rw [← hs]; rfl
        subst hse
        obtain ⟨b1, b2, q1, q2, q3, q4⟩ := ends [] (by simp)
        have wm : IntKind.i64.wrap (-1) = -1 := wrap_i64 (by omega) (by omega)
        cases a0 with
        | none =>
          simp at hw
          cases b1 <;> cases b2 <;> simp [-Int.natCast_add, -BitVec.toNat_or, -BitVec.toNat_ofInt, -BitVec.toNat_and, len_slice u22, slice_sl u22 sz3, len_string u9, slice_str u9, bin_bool u4 .eql (Or.inl rfl), hw, wm, q1, q2, q3, q4, hkn, sliceS]
        | some a =>
          have ha := hsp a rfl
          obtain ⟨ab, ao, asp⟩ := a
          simp only at ha
          subst ha
          simp at hw
          cases b1 <;> cases b2 <;> simp [-Int.natCast_add, -BitVec.toNat_or, -BitVec.toNat_ofInt, -BitVec.toNat_and, len_slice u22, slice_sl u22 sz3, len_string u9, slice_str u9, bin_bool u4 .eql (Or.inl rfl), hw, wm, q1, q2, q3, q4, hkn, sliceS]
      · obtain ⟨b, rfl, _⟩ := h0.rdo (by omega)
        have hpos : 0 < s.length := by
          rw [← hs]
          cases ls with
          | nil => simp at hl1
          | cons y r => simp [wordsT]; omega
        have w1 : IntKind.i64.wrap ((s.length : Int) - 1) = ((s.length - 1 : Nat) : Int) := by rw [wrap_i64 (by omega) (by omega)]; omega
        have e4 : s.length - 1 ≤ 9223372036854775807 ∧ ((s.length - 1 : Nat) : Int) ≤ 9223372036854775807 := by omega
        have e5 : s.length - 1 ≤ s.length := by omega
        obtain ⟨b1, b2, q1, q2, q3, q4⟩ := ends (s.take (s.length - 1)) (by simp; omega)
        rw [hl1] at hw ⊢
        by_cases zz : 0 < s.length - 1
        · cases b1 <;> cases b2 <;> simp [-Int.natCast_add, -BitVec.toNat_or, -BitVec.toNat_ofInt, -BitVec.toNat_and, len_slice u22, slice_sl u22 sz3, len_string u9, slice_str u9, bin_bool u4 .eql (Or.inl rfl), hl1, hw, w1, e4, e5, zz, q1, q2, q3, q4, hkn, sliceS]
        · have z0 : s.length - 1 = 0 := by omega
          rw [z0] at q1 q2 q3 q4
          simp only [List.take_zero] at q1 q2 q3 q4
          cases b1 <;> cases b2 <;> simp [-Int.natCast_add, -BitVec.toNat_or, -BitVec.toNat_ofInt, -BitVec.toNat_and, len_slice u22, slice_sl u22 sz3, len_string u9, slice_str u9, bin_bool u4 .eql (Or.inl rfl), hl1, hw, w1, e4, e5, zz, z0, q1, q2, q3, q4, hkn, sliceS]
  | false =>
    obtain ⟨b1, b2, h1, h2, h3, h4⟩ := ends x0 hx0
    cases b1 <;> cases b2 <;> simp [-Int.natCast_add, -BitVec.toNat_or, -BitVec.toNat_ofInt, -BitVec.toNat_and, len_slice u22, slice_sl u22 sz3, len_string u9, slice_str u9, bin_bool u4 .eql (Or.inl rfl), hkn, h1, h2, h3, h4]

/- the row -/
open Go.ChangeShapes Go.WideShapes Go.ChangeAt Go.RowKit
theorem own : ownKnob Tryd.prog.godebug = none := by kernel_rfl
theorem mixed : Tryd.prog.follows .mixedOrders = true := by kernel_rfl
theorem tab : Sh.tabCheck Tryd.prog fns = true := by kernel_rfl
theorem known : Sh.isVal (.bool true) (Sh.call Tryd.prog (Sh.tabOf Tryd.prog fns) Sh.noSums 100000 10 [] (Sh.memG Tryd.prog [])) = true := by kernel_rfl
def sums : Sums := fun f => if f = 10 then [([], .bool true)] else []
theorem sumsOk : SumsOk Tryd.prog sums := by
  intro f p hp
  unfold sums at hp
  split at hp
  · rename_i hf
    subst hf
    simp only [List.mem_cons, List.not_mem_nil, or_false] at hp
    subst hp
    exact ⟨rfl, rfl, ⟨Tryd.f10, Tryd.func10, by kernel_rfl, by kernel_rfl⟩, fun w => Sh.closed_val mixed (Sh.tab_ok tab) (Sh.noSums_ok _) 100000 10 Tryd.func10 (by kernel_rfl) (gs := []) (by kernel_rfl) (by kernel_rfl) known w (fun p hp => by simp at hp)⟩
  · simp at hp

theorem tab0 {w : World} (h : laidMetH Tryd.prog Rows.tokenNamesRow.laid w) : 0 < w.heap.size ∧ ∀ (i : Nat) v, ((Sh.tabLits (Rows.laid_turnstone_turnstonehand_words : DataW Unit)).map Lit.value)[i]? = some v → w.cell? ⟨0, i, none⟩ = some v :=
  Sh.laid_lits (name := "turnstone/turnstonehand.words") (t := 38) (e := 9) (n := 44) (by kernel_rfl) h (by
    have e : (("turnstone/turnstonehand.words", (.agg ((Sh.tabLits (Rows.laid_turnstone_turnstonehand_words : DataW Unit)).map .lit) : DataW Unit)) : String × DataW Unit) = ("turnstone/turnstonehand.words", Rows.laid_turnstone_turnstonehand_words) := by kernel_rfl
    rw [e]
    simp [Rows.tokenNamesRow]) (by kernel_rfl) (by kernel_rfl) Tryd.underlying38 (by first | exact Or.inr (Or.inl Tryd.underlying9) | exact Or.inl ⟨_, Tryd.underlying9⟩ | exact Or.inr (Or.inr Tryd.underlying9)) (by kernel_rfl) (by kernel_rfl) (of_decide_eq_true (by kernel_rfl))
def tables : List (Nat × List Value) := [(0, (Sh.tabLits (Rows.laid_turnstone_turnstonehand_words : DataW Unit)).map Lit.value)]
theorem rd0 : Rdo (memG Tryd.prog tables) 0 base.handC (gtype Tryd.prog 0) 0 := ⟨by kernel_rfl, ⟨⟨none, 0⟩, by kernel_rfl, Nat.zero_le _⟩, of_decide_eq_true (by kernel_rfl), of_decide_eq_true (by kernel_rfl)⟩
theorem startT (w : World) (h : laidMetH Tryd.prog Rows.tokenNamesRow.laid w) : MRel Tryd.prog (inj0 Tryd.prog) (memG Tryd.prog tables) (allF w) w w := by
  refine memG_rel Tryd.prog w tables fun p hp => ?_
  simp only [tables, List.mem_cons, List.not_mem_nil, or_false] at hp
  rcases hp with rfl
  · exact ⟨of_decide_eq_true (by kernel_rfl), (tab0 h).1, by kernel_rfl, by kernel_rfl, (tab0 h).2⟩

theorem walk (w : World) (hL : laidMetH Tryd.prog Rows.tokenNamesRow.laid w) (x0 : List UInt8) (hx0 : x0.length ≤ 9223372036854775807) {v1 : Value} (h1 : RowArg Tryd.prog w (fun n : Int => [Value.int .i64 n]) (fun n => (Lit.int .i64 n).wf = true) 3 1 v1) (x2 : Bool) :
    Calls Tryd.prog 6 #[.string ⟨x0.toArray⟩, v1, .bool x2] w fun e w' => e = .returned (.bool true) ∧ Below w.heap.size w w' := by
  have hM := startT w hL
  obtain ⟨rs1, J1, m1, ao1, fr1, le1, hM1, vr1, hr1, hg1, hl1, hk1, hz1, hw1⟩ := row_in hM sz3 (by omega) (fun _ => rfl) h1
  obtain ⟨v', m', h, rfl⟩ := law_run (S := sums) (m := m1) rfl rfl rfl rfl rfl rfl rfl rfl rfl rfl rfl rfl hx0 hr1 hl1 hz1 hw1 (spot_of vr1) (rd0.keep hk1 (by simp))
  exact calls_of mixed (Sh.tab_ok tab) sumsOk Tryd.func6 (by kernel_rfl) h rfl hM1 (.cons (.clo _ rfl) (.cons vr1 (.cons (.clo _ rfl) LRel.nil)))

theorem laidOut : laidOutB Tryd.prog = true := by kernel_rfl

theorem contract (H : Type) (enc : TypeId × Value → H) (W : World) (base : Nat) (args : Array Value) (ds gs : List (DataW H)) (before : List MemPlace)
    (hval : ∀ (j : Nat) t v, Tryd.f6.params[j]? = some t → args[j]? = some v → Value.okWide Tryd.prog W .any base t v)
    (hW : DataW.Whole enc Tryd.prog Tryd.f6.params.toList Rows.tokenNamesSpec.vars false W args.toList ds gs before) (hL : laidMetH Tryd.prog Rows.tokenNamesRow.laid W) :
    Calls Tryd.prog 6 args W fun e W' => ∃ v, e = .returned v ∧ Rows.tokenNamesSpec.post enc Tryd.prog Tryd.f6 false true false false W args v W' := by
  have hW' := hW
  obtain ⟨p, q, hA0, hV, rfl, hfz, hnd⟩ := hW
  have hA : DataW.TrodAll enc Tryd.prog W 0 (fun _ => true) true Tryd.f6.params.toList args.toList ds p := hA0
  rw [Tryd.params6] at hA hval
  obtain ⟨v0, v1, v2, d0, d1, d2, p0, p1, p2, rfl, rfl, rfl, t0, t1, t2⟩ := trodAll_three hA
  obtain ⟨rfl, rfl⟩ := trodVars_none hV
  obtain ⟨⟨⟨x0⟩⟩, rfl, rfl, rfl, hx0⟩ := Go.ChangeMaps.open_string u9 (hval 0 _ _ rfl rfl) t0
  have hv1 := ints_row u22 u3 sz3 (hval 1 _ _ rfl rfl) t1
  obtain ⟨x2, rfl, rfl, rfl⟩ := open_bool u4 (hval 2 _ _ rfl rfl) t2
  clear hA0
  simp only [List.append_nil, List.nil_append] at hW'
  refine (walk W hL x0 hx0 hv1 x2).mono fun e W' ⟨he, hg⟩ => ?_
  subst he
  have hlt1 : ∀ z ∈ p1, z.block < W.heap.size := fun z hz => hW'.lt z (by simp [hz])
  exact ⟨_, rfl, Sh.law_post (pa := ([] ++ (p1 ++ []))) (pv := []) hW' hg (by simp) (fun sp hsp => trodAll_mk3 (Go.ChangeMaps.shut_string u9 hx0) (WideElems.Trod_stays laidOut (by kernel_rfl) (of_decide_eq_true (by kernel_rfl)) t1 (fun z hz => hg.same (hlt1 z hz)) (fun z hz => hsp z (by simp [hz]))) (shut_bool u4 _)) (fun _ _ => rfl) (fun _ _ _ => (trodAll_cons_mk (shut_bool u4 _) trodAll_mk0))
    (ok_one (by kernel_rfl) rfl (okWide_bool_mk u4 _))⟩
/-- A world for the witness: the settled one, the listed variables holding what is laid. -/
noncomputable def laidWorld (os : Os) : World :=
  { World.holding Tryd.prog os ⟨#[], #[], []⟩ with heap := ((World.holding Tryd.prog os ⟨#[], #[], []⟩).heap).modify 0 (Sh.laidBlock (Rows.laid_turnstone_turnstonehand_words : DataW Unit)) }
theorem laid_met (os : Os) : laidMet Tryd.prog Rows.tokenNamesRow.laid ((laidWorld os).forCall (fun _ _ => 0) ⟨#[], #[.string ⟨#[]⟩, .slice none 0 0, .bool false], []⟩).memory :=
  laidMet_of_run' 8 (by kernel_rfl) (by kernel_rfl)
theorem reads (os : Os) {H : Type} (enc : TypeId × Value → H) : ∃ places, DataW.whole enc Tryd.prog ((laidWorld os).forCall (fun _ _ => 0) ⟨#[], #[.string ⟨#[]⟩, .slice none 0 0, .bool false], []⟩).memory Tryd.f6.params.toList Rows.tokenNamesSpec.vars false (#[.string ⟨#[]⟩, .slice none 0 0, .bool false] : Array Value).toList 8 = some ([.lit (.string []), .nil, .lit (.bool false)], [], places) :=
  ⟨[], by kernel_rfl⟩

theorem lifted (os : Os) (started : os.Started) (H : Type) (enc : TypeId × Value → H) (F : Stop.Interp) :
    ReturnsInHanded {} Tryd.checked os 6 .any ((OpenSpec.ofChange Rows.tokenNamesSpec).preRow enc Tryd.prog Tryd.f6 Rows.tokenNamesRow.domain false Rows.tokenNamesRow.laid) (((OpenSpec.ofChange Rows.tokenNamesSpec).at F).post enc Tryd.prog Tryd.f6 false true false false) := by
  obtain ⟨places, hx⟩ := reads os enc
  refine returnsInHanded_of_row (C := Tryd.checked) (s := OpenSpec.ofChange Rows.tokenNamesSpec) own started (by kernel_rfl) Tryd.func6
    (witness_row_at (enc := enc) (C := Tryd.checked) false (laidWorld os) #[.string ⟨#[]⟩, .slice none 0 0, .bool false] rfl (by kernel_rfl) (by kernel_rfl) (by kernel_rfl)
      (OpenSpec.preRow_of_cond 8 hx (by kernel_rfl) (fun k hk => by cases hk) (by kernel_rfl) (laid_met os))) ?_
  intro W base args ds gs before hval hW _ _ hwt hL _ _
  exact contract H enc W base args ds gs before hval hW hL

theorem said : Rows.TokenNamesSaid :=
  OpenClaim.holds_of_cond 6 Tryd.f6 rfl rfl rfl rfl rfl rfl rfl ⟨rfl, rfl, rfl, rfl, rfl⟩ rfl rfl rfl rfl rfl (by kernel_rfl) Tryd.func6 (by kernel_rfl)
    (of_decide_eq_true (by kernel_rfl)) (by unfold Func.isWrapper; first | (rw [if_pos (by decide +kernel)]; kernel_rfl) | (rw [if_neg (by decide +kernel)]; exact ⟨rfl, rfl⟩))
    (fun os started H enc _ F => by rw [OpenClaim.pre_eq_preRow]; exact lifted os started H enc F)

theorem plain (f : FuncId) (fn : Func) (hf : Tryd.pinned.checked.prog.funcNamed "turnstone/turnstonelaw3.TokenNames" = some f) (hfn : Tryd.pinned.checked.prog.funcs[f]? = some fn) :
    false = Tryd.pinned.checked.prog.looks [] ∧ ∀ (j : Nat) t, fn.params[j]? = some t → Tryd.pinned.checked.prog.wantsStandIn t = false := by
  obtain rfl : f = 6 := Option.some.inj ((show Tryd.prog.funcNamed "turnstone/turnstonelaw3.TokenNames" = some 6 by kernel_rfl).symm.trans hf) |>.symm
  obtain rfl : fn = Tryd.f6 := (Option.some.inj (Tryd.func6.symm.trans hfn)).symm
  refine ⟨by kernel_rfl, fun j t ht => ?_⟩
  rw [Tryd.params6] at ht
  rcases j with _ | _ | _ | _
  all_goals first
    | (simp at ht; done)
    | (obtain rfl := Option.some.inj ht; kernel_rfl)
    | (simp at ht; subst ht; kernel_rfl)

theorem proved : Rows.TokenNamesCardSaid :=
  Claim7.holds_tied_plain_at .later [] _ _ _ _ said (fun _ h => by cases h) (by kernel_rfl) (fun _ h => by cases h) tokenNames_row_tie rfl ⟨rfl, rfl⟩ (by kernel_rfl) rfl plain (by kernel_rfl)
#print axioms proved
end Go.Proofs.YtgomgdbapgibjaaDoor.tokenNames

