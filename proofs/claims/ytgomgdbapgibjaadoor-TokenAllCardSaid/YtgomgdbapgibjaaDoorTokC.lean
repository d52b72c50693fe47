/-
  This text proves what IsWord and the scanner's comment, word, number of package token do over the abstract run.
  Condition: nothing is known of their calls ahead ('S f = []').
-/
import Derived.Test.YtgomgdbapgibjaaDoorTokB
set_option maxRecDepth 100000
set_option linter.unusedSimpArgs false
set_option linter.unusedVariables false
namespace Go.Proofs.YtgomgdbapgibjaaDoor.base
open Go.Sh gen
variable {S : Sums} {m : Mem} {b f fo : Nat} {ao : Option Addr} {σ : St}
def wordL : List (List UInt8) := [[116, 121, 112, 101], [115, 116, 114, 117, 99, 116], [105, 110, 116, 101, 114, 102, 97, 99, 101], [102, 117, 110, 99], [118, 97, 114], [105, 102], [101, 108, 115, 101], [102, 111, 114], [98, 114, 101, 97, 107], [99, 111, 110, 116, 105, 110, 117, 101], [114, 101, 116, 117, 114, 110], [112, 114, 105, 110, 116], [108, 101, 110], [109, 97, 107, 101], [110, 101, 119], [105, 110, 112, 117, 116], [116, 114, 117, 101], [102, 97, 108, 115, 101], [110, 105, 108], [105, 110, 116], [98, 111, 111, 108], [115, 116, 114, 105, 110, 103]]
theorem isWord_run (hS : S 14 = []) (l : List UInt8) : callw Tryd.prog TT S 14 [.string ⟨l.toArray⟩] m = some (.bool (decide (l ∈ wordL)), m) := by
  refine fn_eq 4 [4, 4, 4, 4, 4, 4, 4, 4, 4, 4, 4, 4, 4, 4, 4, 4, 4, 4, 4, 4, 4, 4] k14 hS rfl ?_
  simp [-BitVec.toNat_or, -BitVec.toNat_ofInt, -BitVec.toNat_and, id]
  refine cnd_dec (fun e => by simp [-BitVec.toNat_or, -BitVec.toNat_ofInt, -BitVec.toNat_and, id, e, wordL]) (fun t1 => ?_)
  simp [-BitVec.toNat_or, -BitVec.toNat_ofInt, -BitVec.toNat_and, id, t1]
  refine cnd_dec (fun e => by simp [-BitVec.toNat_or, -BitVec.toNat_ofInt, -BitVec.toNat_and, id, e, wordL]) (fun t2 => ?_)
  simp [-BitVec.toNat_or, -BitVec.toNat_ofInt, -BitVec.toNat_and, id, t2]
  refine cnd_dec (fun e => by simp [-BitVec.toNat_or, -BitVec.toNat_ofInt, -BitVec.toNat_and, id, e, wordL]) (fun t3 => ?_)
  simp [-BitVec.toNat_or, -BitVec.toNat_ofInt, -BitVec.toNat_and, id, t3]
  refine cnd_dec (fun e => by simp [-BitVec.toNat_or, -BitVec.toNat_ofInt, -BitVec.toNat_and, id, e, wordL]) (fun t4 => ?_)
  simp [-BitVec.toNat_or, -BitVec.toNat_ofInt, -BitVec.toNat_and, id, t4]
  refine cnd_dec (fun e => by simp [-BitVec.toNat_or, -BitVec.toNat_ofInt, -BitVec.toNat_and, id, e, wordL]) (fun t5 => ?_)
  simp [-BitVec.toNat_or, -BitVec.toNat_ofInt, -BitVec.toNat_and, id, t5]
  refine cnd_dec (fun e => by simp [-BitVec.toNat_or, -BitVec.toNat_ofInt, -BitVec.toNat_and, id, e, wordL]) (fun t6 => ?_)
  simp [-BitVec.toNat_or, -BitVec.toNat_ofInt, -BitVec.toNat_and, id, t6]
  refine cnd_dec (fun e => by simp [-BitVec.toNat_or, -BitVec.toNat_ofInt, -BitVec.toNat_and, id, e, wordL]) (fun t7 => ?_)
  simp [-BitVec.toNat_or, -BitVec.toNat_ofInt, -BitVec.toNat_and, id, t7]
  refine cnd_dec (fun e => by simp [-BitVec.toNat_or, -BitVec.toNat_ofInt, -BitVec.toNat_and, id, e, wordL]) (fun t8 => ?_)
  simp [-BitVec.toNat_or, -BitVec.toNat_ofInt, -BitVec.toNat_and, id, t8]
  refine cnd_dec (fun e => by simp [-BitVec.toNat_or, -BitVec.toNat_ofInt, -BitVec.toNat_and, id, e, wordL]) (fun t9 => ?_)
  simp [-BitVec.toNat_or, -BitVec.toNat_ofInt, -BitVec.toNat_and, id, t9]
  refine cnd_dec (fun e => by simp [-BitVec.toNat_or, -BitVec.toNat_ofInt, -BitVec.toNat_and, id, e, wordL]) (fun t10 => ?_)
  simp [-BitVec.toNat_or, -BitVec.toNat_ofInt, -BitVec.toNat_and, id, t10]
  refine cnd_dec (fun e => by simp [-BitVec.toNat_or, -BitVec.toNat_ofInt, -BitVec.toNat_and, id, e, wordL]) (fun t11 => ?_)
  simp [-BitVec.toNat_or, -BitVec.toNat_ofInt, -BitVec.toNat_and, id, t11]
  refine cnd_dec (fun e => by simp [-BitVec.toNat_or, -BitVec.toNat_ofInt, -BitVec.toNat_and, id, e, wordL]) (fun t12 => ?_)
  simp [-BitVec.toNat_or, -BitVec.toNat_ofInt, -BitVec.toNat_and, id, t12]
  refine cnd_dec (fun e => by simp [-BitVec.toNat_or, -BitVec.toNat_ofInt, -BitVec.toNat_and, id, e, wordL]) (fun t13 => ?_)
  simp [-BitVec.toNat_or, -BitVec.toNat_ofInt, -BitVec.toNat_and, id, t13]
  refine cnd_dec (fun e => by simp [-BitVec.toNat_or, -BitVec.toNat_ofInt, -BitVec.toNat_and, id, e, wordL]) (fun t14 => ?_)
  simp [-BitVec.toNat_or, -BitVec.toNat_ofInt, -BitVec.toNat_and, id, t14]
  refine cnd_dec (fun e => by simp [-BitVec.toNat_or, -BitVec.toNat_ofInt, -BitVec.toNat_and, id, e, wordL]) (fun t15 => ?_)
  simp [-BitVec.toNat_or, -BitVec.toNat_ofInt, -BitVec.toNat_and, id, t15]
  refine cnd_dec (fun e => by simp [-BitVec.toNat_or, -BitVec.toNat_ofInt, -BitVec.toNat_and, id, e, wordL]) (fun t16 => ?_)
  simp [-BitVec.toNat_or, -BitVec.toNat_ofInt, -BitVec.toNat_and, id, t16]
  refine cnd_dec (fun e => by simp [-BitVec.toNat_or, -BitVec.toNat_ofInt, -BitVec.toNat_and, id, e, wordL]) (fun t17 => ?_)
  simp [-BitVec.toNat_or, -BitVec.toNat_ofInt, -BitVec.toNat_and, id, t17]
  refine cnd_dec (fun e => by simp [-BitVec.toNat_or, -BitVec.toNat_ofInt, -BitVec.toNat_and, id, e, wordL]) (fun t18 => ?_)
  simp [-BitVec.toNat_or, -BitVec.toNat_ofInt, -BitVec.toNat_and, id, t18]
  refine cnd_dec (fun e => by simp [-BitVec.toNat_or, -BitVec.toNat_ofInt, -BitVec.toNat_and, id, e, wordL]) (fun t19 => ?_)
  simp [-BitVec.toNat_or, -BitVec.toNat_ofInt, -BitVec.toNat_and, id, t19]
  refine cnd_dec (fun e => by simp [-BitVec.toNat_or, -BitVec.toNat_ofInt, -BitVec.toNat_and, id, e, wordL]) (fun t20 => ?_)
  simp [-BitVec.toNat_or, -BitVec.toNat_ofInt, -BitVec.toNat_and, id, t20]
  refine cnd_dec (fun e => by simp [-BitVec.toNat_or, -BitVec.toNat_ofInt, -BitVec.toNat_and, id, e, wordL]) (fun t21 => ?_)
  simp [-BitVec.toNat_or, -BitVec.toNat_ofInt, -BitVec.toNat_and, id, t21]
  refine cnd_dec (fun e => by simp [-BitVec.toNat_or, -BitVec.toNat_ofInt, -BitVec.toNat_and, id, e, wordL]) (fun t22 => ?_)
  simp [-BitVec.toNat_or, -BitVec.toNat_ofInt, -BitVec.toNat_and, id, t22]
  simp [wordL, t1, t2, t3, t4, t5, t6, t7, t8, t9, t10, t11, t12, t13, t14, t15, t16, t17, t18, t19, t20, t21, t22]
theorem tw_lt {p : UInt8 → Bool} : ∀ {s : List UInt8} {i : Nat} (_ : i < (s.takeWhile p).length), ∃ hi : i < s.length, p s[i] = true
  | [], i, h => by simp at h
  | c :: r, i, h => by
    by_cases hc : p c = true
    · cases i with
      | zero => exact ⟨by simp, hc⟩
      | succ i =>
        simp only [List.takeWhile_cons, hc, if_true, List.length_cons] at h
        obtain ⟨h1, h2⟩ := tw_lt (p := p) (s := r) (i := i) (by omega)
        exact ⟨by simpa using h1, by simpa using h2⟩
    · simp [List.takeWhile_cons, hc] at h
theorem tw_end {p : UInt8 → Bool} : ∀ {s : List UInt8} {i : Nat} (_ : i = (s.takeWhile p).length) (hi : i < s.length), p (s[i]) = false
  | [], i, _, h => by simp at h
  | c :: r, i, hi, h => by
    by_cases hc : p c = true
    · simp only [List.takeWhile_cons, hc, if_true, List.length_cons] at hi
      subst hi
      simpa using tw_end (p := p) (s := r) (i := (r.takeWhile p).length) rfl (by simpa using h)
    · simp only [List.takeWhile_cons, hc] at hi
      simp at hi
      subst hi
      simpa using hc
theorem tw_take (p : UInt8 → Bool) : ∀ (s : List UInt8), s.take (s.takeWhile p).length = s.takeWhile p
  | [] => rfl
  | c :: r => by
    by_cases hc : p c = true
    · simp only [List.takeWhile_cons, hc, if_true, List.length_cons, List.take_succ_cons, tw_take p r]
    · simp [List.takeWhile_cons, hc]
theorem tw_le (p : UInt8 → Bool) (s : List UInt8) : (s.takeWhile p).length ≤ s.length := (List.takeWhile_prefix _).length_le
def cmt (r : List UInt8) : Nat := (r.takeWhile fun c => decide (c.toNat ≠ 10)).length
theorem comment_run (hS : S 40 = []) (hS2 : S 39 = []) (h : Sc m b f ao fo σ) (hb : Bd σ) : callw Tryd.prog TT S 40 [.pointer (some ⟨b, 0, none⟩)] m = some (.int .i64 (cmt (σ.s.drop σ.at_)), m) := by
  have hr := rest_run (m := m) hS2 h hb
  have hrl : (σ.s.drop σ.at_).length ≤ 16384 := by have := hb.s; simp; omega
  generalize σ.s.drop σ.at_ = r at hr hrl
  refine fn_eq 5 [16] k40 hS rfl ?_
  simp [-BitVec.toNat_or, -BitVec.toNat_ofInt, -BitVec.toNat_and, len_string u9, index_str u9, hr]
  refine wsem_loop 5 [16] (fun d E m2 => ∃ i : Nat, cmt r - i = d ∧ i ≤ cmt r ∧ E = [(0, .pointer (some ⟨b, 0, none⟩)), (3, .int .i64 i), (4, .string ⟨r.toArray⟩)] ∧ m2 = m) _ ⟨_, ⟨0, rfl, by omega, rfl, rfl⟩, ⟨rfl, rfl, rfl, trivial⟩⟩ ?_
  rintro d E m2 ih ⟨i, hd, hi, rfl, rfl⟩
  have hcl : cmt r ≤ r.length := (List.takeWhile_prefix _).length_le
  by_cases hlt : i < cmt r
  · obtain ⟨hi1, hp⟩ := tw_lt hlt
    have e1 : (i : Int) < r.length := by omega
    have em : (i : Int) ≤ 9223372036854775807 := by omega
    have hne : ¬ ((r[i]).toNat : Int) = 10 := by simp at hp; omega
    have w1 : IntKind.i64.wrap ((i : Int) + 1) = ((i + 1 : Nat) : Int) := by rw [wrap_i64 (by omega) (by omega)]; omega
    simp [-BitVec.toNat_or, -BitVec.toNat_ofInt, -BitVec.toNat_and, len_string u9, index_str u9, e1, hi1, em, hne, w1]
    exact ih _ _ _ _ ⟨i + 1, rfl, by omega, rfl, rfl⟩ (by omega) ⟨rfl, by simp [lget], rfl, trivial⟩
  · have hic : i = cmt r := by omega
    by_cases hl : i < r.length
    · have e1 : (i : Int) < r.length := by omega
      have em : (i : Int) ≤ 9223372036854775807 := by omega
      have hp := tw_end (p := fun c => decide (c.toNat ≠ 10)) (s := r) hic hl
      have heq : ((r[i]).toNat : Int) = 10 := by
        simp only [ne_eq, decide_not, Bool.not_eq_false', decide_eq_true_eq] at hp
        omega
      simp [-BitVec.toNat_or, -BitVec.toNat_ofInt, -BitVec.toNat_and, len_string u9, index_str u9, e1, hl, em, heq]
      omega
    · have e1 : ¬ (i : Int) < r.length := by omega
      simp [-BitVec.toNat_or, -BitVec.toNat_ofInt, -BitVec.toNat_and, len_string u9, index_str u9, e1, hl]
      omega
def wd (r : List UInt8) : List UInt8 := r.takeWhile fun c => lod c.toNat
theorem word_run (hS : S 41 = []) (hS2 : S 39 = []) (hS3 : S 26 = []) (hS4 : S 27 = []) (hS5 : S 14 = []) (hS6 : S 25 = []) (h : Sc m b f ao fo σ) (hb : Bd σ) :
    ∃ v m1, callw Tryd.prog TT S 41 [.pointer (some ⟨b, 0, none⟩)] m = some (v, m1) ∧ v = .int .i64 (wd (σ.s.drop σ.at_)).length ∧ ∃ ao1 fo1, Sc m1 b f ao1 fo1 (σ.put (if wd (σ.s.drop σ.at_) ∈ wordL then 3 else 2) (wd (σ.s.drop σ.at_)) 0) ∧ Keeps m m1 [f, fo] ∧ (fo1 = fo ∨ m.next ≤ fo1) := by
  have hr := rest_run (m := m) hS2 h hb
  have hrl : (σ.s.drop σ.at_).length ≤ 16384 := by have := hb.s; simp; omega
  generalize σ.s.drop σ.at_ = r at hr hrl
  have hL := fun n => letter_run (m := m) hS3 n
  have hD := fun n => digit_run (m := m) hS4 n
  refine fn_w 6 [23, 29] k41 hS rfl ?_
  simp [-BitVec.toNat_or, -BitVec.toNat_ofInt, -BitVec.toNat_and, len_string u9, index_str u9, slice_str u9, hr]
  refine wsem_loop 6 [23, 29] (fun d E m2 => ∃ i : Nat, (wd r).length - i = d ∧ i ≤ (wd r).length ∧ E = [(0, .pointer (some ⟨b, 0, none⟩)), (3, .string ⟨r.toArray⟩), (4, .int .i64 i)] ∧ m2 = m) _ ⟨_, ⟨0, rfl, by omega, rfl, rfl⟩, ⟨rfl, rfl, rfl, trivial⟩⟩ ?_
  rintro d E m2 ih ⟨i, hd, hi, rfl, rfl⟩
  have hcl := tw_le (fun c => lod c.toNat) r
  by_cases hlt : i < (wd r).length
  · obtain ⟨hi1, hp⟩ := tw_lt hlt
    have e1 : (i : Int) < r.length := by omega
    have em : (i : Int) ≤ 9223372036854775807 := by omega
    have w1 : IntKind.i64.wrap ((i : Int) + 1) = ((i + 1 : Nat) : Int) := by rw [wrap_i64 (by omega) (by omega)]; omega
    simp only [lod, Bool.or_eq_true] at hp
    by_cases hl : ltr (r[i]).toNat = true
    · simp [-BitVec.toNat_or, -BitVec.toNat_ofInt, -BitVec.toNat_and, len_string u9, index_str u9, slice_str u9, e1, hi1, em, hL, hD, hl, w1]
      exact ih _ _ _ _ ⟨i + 1, rfl, by omega, rfl, rfl⟩ (by omega) ⟨rfl, rfl, by simp [lget], trivial⟩
    · have hdg := hp.resolve_left hl
      simp [-BitVec.toNat_or, -BitVec.toNat_ofInt, -BitVec.toNat_and, len_string u9, index_str u9, slice_str u9, e1, hi1, em, hL, hD, hl, hdg, w1]
      exact ih _ _ _ _ ⟨i + 1, rfl, by omega, rfl, rfl⟩ (by omega) ⟨rfl, rfl, by simp [lget], trivial⟩
  · have hic : i = (wd r).length := by omega
    subst hic
    have htk : r.take (wd r).length = wd r := tw_take _ _
    have hW := isWord_run (m := m2) hS5 (wd r)
    obtain ⟨v, m3, hput, rfl, ao1, fo1, hsc, hk, hfo⟩ := put_run hS6 h hb (if wd r ∈ wordL then 3 else 2) (wd r) 0
    have hcl' : (wd r).length ≤ r.length := hcl
    have em : (((wd r).length : Nat) : Int) ≤ 9223372036854775807 := by omega
    by_cases hl : (wd r).length < r.length
    · have e1 : ((wd r).length : Int) < r.length := by omega
      have hp := tw_end (p := fun c => lod c.toNat) (s := r) rfl hl
      have hp' : lod (r[(wd r).length]).toNat = false := hp
      simp only [lod, Bool.or_eq_false_iff] at hp'
      by_cases hw : wd r ∈ wordL
      · rw [if_pos hw] at hput hsc
        simp [-BitVec.toNat_or, -BitVec.toNat_ofInt, -BitVec.toNat_and, len_string u9, index_str u9, slice_str u9, e1, hl, em, hL, hD, hp'.1, hp'.2, hcl', htk, hW, hw, hput]
        exact ⟨ao1, fo1, hsc, hk, hfo⟩
      · rw [if_neg hw] at hput hsc
        simp [-BitVec.toNat_or, -BitVec.toNat_ofInt, -BitVec.toNat_and, len_string u9, index_str u9, slice_str u9, e1, hl, em, hL, hD, hp'.1, hp'.2, hcl', htk, hW, hw, hput]
        exact ⟨ao1, fo1, hsc, hk, hfo⟩
    · have e1 : ¬ ((wd r).length : Int) < r.length := by omega
      by_cases hw : wd r ∈ wordL
      · rw [if_pos hw] at hput hsc
        simp [-BitVec.toNat_or, -BitVec.toNat_ofInt, -BitVec.toNat_and, len_string u9, index_str u9, slice_str u9, e1, hl, em, hL, hD, hcl', htk, hW, hw, hput]
        exact ⟨ao1, fo1, hsc, hk, hfo⟩
      · rw [if_neg hw] at hput hsc
        simp [-BitVec.toNat_or, -BitVec.toNat_ofInt, -BitVec.toNat_and, len_string u9, index_str u9, slice_str u9, e1, hl, em, hL, hD, hcl', htk, hW, hw, hput]
        exact ⟨ao1, fo1, hsc, hk, hfo⟩
end Go.Proofs.YtgomgdbapgibjaaDoor.base

