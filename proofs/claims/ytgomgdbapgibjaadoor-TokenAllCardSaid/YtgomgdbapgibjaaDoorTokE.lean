/-
  This text proves what the scanner's sign of package token does over the abstract run.
  Condition: nothing is known of their calls ahead ('S f = []').
-/
import Derived.Test.YtgomgdbapgibjaaDoorTokD
set_option maxRecDepth 100000
set_option linter.unusedSimpArgs false
set_option linter.unusedVariables false
namespace Go.Proofs.YtgomgdbapgibjaaDoor.base
open Go.Sh gen
variable {S : Sums} {m : Mem} {b f fo : Nat} {ao : Option Addr} {σ : St}
def twoL : List (List UInt8) := [[58, 61], [61, 61], [33, 61], [60, 61], [62, 61], [38, 38], [124, 124]]
def oneL : List Nat := [43, 45, 42, 47, 37, 60, 62, 61, 33, 40, 41, 91, 93, 123, 125, 44, 46]
def signR (r : List UInt8) : Option (Int × List UInt8) :=
  if 1 < r.length ∧ r.take 2 ∈ twoL then some (6, r.take 2) else match r with
    | [] => none
    | c :: _ => if c.toNat = 59 then some (1, [59]) else if c.toNat ∈ oneL then some (6, [c]) else none
theorem sign_run (hS : S 36 = []) (hS2 : S 39 = []) (hS5 : S 48 = []) (hS6 : S 25 = []) (h : Sc m b f ao fo σ) (hb : Bd σ) (hlt0 : σ.at_ < σ.s.length) :
    ∃ v m1, callw Tryd.prog TT S 36 [.pointer (some ⟨b, 0, none⟩)] m = some (v, m1) ∧ ∃ ao1 fo1, (match signR (σ.s.drop σ.at_) with
      | some (k, x) => v = .int .i64 x.length ∧ Sc m1 b f ao1 fo1 (σ.put k x 0)
      | none => v = .int .i64 0 ∧ Sc m1 b f ao1 fo1 (σ.fault 10)) ∧ Keeps m m1 [f, fo] ∧ (fo1 = fo ∨ m.next ≤ fo1) := by
  have hr := rest_run (m := m) hS2 h hb
  have hrl : (σ.s.drop σ.at_).length ≤ 16384 := by have := hb.s; simp; omega
  have hr1 : 1 ≤ (σ.s.drop σ.at_).length := by simp; omega
  generalize σ.s.drop σ.at_ = r at hr hrl hr1
  obtain ⟨c, q, rfl⟩ : ∃ c q, r = c :: q := by cases r with | nil => simp at hr1 | cons c q => exact ⟨c, q, rfl⟩
  generalize hT : signR (c :: q) = T
  refine fn_w 25 [25, 29, 29, 29, 29, 29, 29, 29, 29, 29, 29, 29, 29, 29, 29, 29, 29, 29] k36 hS rfl ?_
  cases q with
  | nil =>
    simp [-BitVec.toNat_or, -BitVec.toNat_ofInt, -BitVec.toNat_and, len_string u9, slice_str u9, index_str u9, hr]
    refine cnd_dec (fun e => by
      have e' : c.toNat = 59 := by omega
      have hT2 : T = some (1, [59]) := by rw [← hT]; simp [signR, twoL, e']
      subst hT2
      obtain ⟨v, m3, hput, rfl, ao1, fo1, hsc, hk, hfo⟩ := put_run hS6 h hb 1 [59] 0
      simp [-BitVec.toNat_or, -BitVec.toNat_ofInt, -BitVec.toNat_and, len_string u9, slice_str u9, index_str u9, e, hput]
      exact ⟨ao1, fo1, hsc, hk, hfo⟩) (fun e0 => ?_)
    simp [-BitVec.toNat_or, -BitVec.toNat_ofInt, -BitVec.toNat_and, len_string u9, slice_str u9, index_str u9, e0]
    have e0' : ¬ c.toNat = 59 := by omega
    refine cnd_dec (fun e => by
      have e' : c.toNat = 43 := by omega
      have hT2 : T = some (6, [c]) := by rw [← hT]; simp [signR, twoL, e0', e', oneL]
      subst hT2
      obtain ⟨v, m3, hput, rfl, ao1, fo1, hsc, hk, hfo⟩ := put_run hS6 h hb 6 [c] 0
      simp [-BitVec.toNat_or, -BitVec.toNat_ofInt, -BitVec.toNat_and, len_string u9, slice_str u9, index_str u9, e, hput]
      exact ⟨ao1, fo1, hsc, hk, hfo⟩) (fun nn0 => ?_)
    simp [-BitVec.toNat_or, -BitVec.toNat_ofInt, -BitVec.toNat_and, len_string u9, slice_str u9, index_str u9, nn0]
    have nn0x : ¬ c.toNat = 43 := by omega
    refine cnd_dec (fun e => by
      have e' : c.toNat = 45 := by omega
      have hT2 : T = some (6, [c]) := by rw [← hT]; simp [signR, twoL, e0', e', oneL]
      subst hT2
      obtain ⟨v, m3, hput, rfl, ao1, fo1, hsc, hk, hfo⟩ := put_run hS6 h hb 6 [c] 0
      simp [-BitVec.toNat_or, -BitVec.toNat_ofInt, -BitVec.toNat_and, len_string u9, slice_str u9, index_str u9, e, hput]
      exact ⟨ao1, fo1, hsc, hk, hfo⟩) (fun nn1 => ?_)
    simp [-BitVec.toNat_or, -BitVec.toNat_ofInt, -BitVec.toNat_and, len_string u9, slice_str u9, index_str u9, nn1]
    have nn1x : ¬ c.toNat = 45 := by omega
    refine cnd_dec (fun e => by
      have e' : c.toNat = 42 := by omega
      have hT2 : T = some (6, [c]) := by rw [← hT]; simp [signR, twoL, e0', e', oneL]
      subst hT2
      obtain ⟨v, m3, hput, rfl, ao1, fo1, hsc, hk, hfo⟩ := put_run hS6 h hb 6 [c] 0
      simp [-BitVec.toNat_or, -BitVec.toNat_ofInt, -BitVec.toNat_and, len_string u9, slice_str u9, index_str u9, e, hput]
      exact ⟨ao1, fo1, hsc, hk, hfo⟩) (fun nn2 => ?_)
    simp [-BitVec.toNat_or, -BitVec.toNat_ofInt, -BitVec.toNat_and, len_string u9, slice_str u9, index_str u9, nn2]
    have nn2x : ¬ c.toNat = 42 := by omega
    refine cnd_dec (fun e => by
      have e' : c.toNat = 47 := by omega
      have hT2 : T = some (6, [c]) := by rw [← hT]; simp [signR, twoL, e0', e', oneL]
      subst hT2
      obtain ⟨v, m3, hput, rfl, ao1, fo1, hsc, hk, hfo⟩ := put_run hS6 h hb 6 [c] 0
      simp [-BitVec.toNat_or, -BitVec.toNat_ofInt, -BitVec.toNat_and, len_string u9, slice_str u9, index_str u9, e, hput]
      exact ⟨ao1, fo1, hsc, hk, hfo⟩) (fun nn3 => ?_)
    simp [-BitVec.toNat_or, -BitVec.toNat_ofInt, -BitVec.toNat_and, len_string u9, slice_str u9, index_str u9, nn3]
    have nn3x : ¬ c.toNat = 47 := by omega
    refine cnd_dec (fun e => by
      have e' : c.toNat = 37 := by omega
      have hT2 : T = some (6, [c]) := by rw [← hT]; simp [signR, twoL, e0', e', oneL]
      subst hT2
      obtain ⟨v, m3, hput, rfl, ao1, fo1, hsc, hk, hfo⟩ := put_run hS6 h hb 6 [c] 0
      simp [-BitVec.toNat_or, -BitVec.toNat_ofInt, -BitVec.toNat_and, len_string u9, slice_str u9, index_str u9, e, hput]
      exact ⟨ao1, fo1, hsc, hk, hfo⟩) (fun nn4 => ?_)
    simp [-BitVec.toNat_or, -BitVec.toNat_ofInt, -BitVec.toNat_and, len_string u9, slice_str u9, index_str u9, nn4]
    have nn4x : ¬ c.toNat = 37 := by omega
    refine cnd_dec (fun e => by
      have e' : c.toNat = 60 := by omega
      have hT2 : T = some (6, [c]) := by rw [← hT]; simp [signR, twoL, e0', e', oneL]
      subst hT2
      obtain ⟨v, m3, hput, rfl, ao1, fo1, hsc, hk, hfo⟩ := put_run hS6 h hb 6 [c] 0
      simp [-BitVec.toNat_or, -BitVec.toNat_ofInt, -BitVec.toNat_and, len_string u9, slice_str u9, index_str u9, e, hput]
      exact ⟨ao1, fo1, hsc, hk, hfo⟩) (fun nn5 => ?_)
    simp [-BitVec.toNat_or, -BitVec.toNat_ofInt, -BitVec.toNat_and, len_string u9, slice_str u9, index_str u9, nn5]
    have nn5x : ¬ c.toNat = 60 := by omega
    refine cnd_dec (fun e => by
      have e' : c.toNat = 62 := by omega
      have hT2 : T = some (6, [c]) := by rw [← hT]; simp [signR, twoL, e0', e', oneL]
      subst hT2
      obtain ⟨v, m3, hput, rfl, ao1, fo1, hsc, hk, hfo⟩ := put_run hS6 h hb 6 [c] 0
      simp [-BitVec.toNat_or, -BitVec.toNat_ofInt, -BitVec.toNat_and, len_string u9, slice_str u9, index_str u9, e, hput]
      exact ⟨ao1, fo1, hsc, hk, hfo⟩) (fun nn6 => ?_)
    simp [-BitVec.toNat_or, -BitVec.toNat_ofInt, -BitVec.toNat_and, len_string u9, slice_str u9, index_str u9, nn6]
    have nn6x : ¬ c.toNat = 62 := by omega
    refine cnd_dec (fun e => by
      have e' : c.toNat = 61 := by omega
      have hT2 : T = some (6, [c]) := by rw [← hT]; simp [signR, twoL, e0', e', oneL]
      subst hT2
      obtain ⟨v, m3, hput, rfl, ao1, fo1, hsc, hk, hfo⟩ := put_run hS6 h hb 6 [c] 0
      simp [-BitVec.toNat_or, -BitVec.toNat_ofInt, -BitVec.toNat_and, len_string u9, slice_str u9, index_str u9, e, hput]
      exact ⟨ao1, fo1, hsc, hk, hfo⟩) (fun nn7 => ?_)
    simp [-BitVec.toNat_or, -BitVec.toNat_ofInt, -BitVec.toNat_and, len_string u9, slice_str u9, index_str u9, nn7]
    have nn7x : ¬ c.toNat = 61 := by omega
    refine cnd_dec (fun e => by
      have e' : c.toNat = 33 := by omega
      have hT2 : T = some (6, [c]) := by rw [← hT]; simp [signR, twoL, e0', e', oneL]
      subst hT2
      obtain ⟨v, m3, hput, rfl, ao1, fo1, hsc, hk, hfo⟩ := put_run hS6 h hb 6 [c] 0
      simp [-BitVec.toNat_or, -BitVec.toNat_ofInt, -BitVec.toNat_and, len_string u9, slice_str u9, index_str u9, e, hput]
      exact ⟨ao1, fo1, hsc, hk, hfo⟩) (fun nn8 => ?_)
    simp [-BitVec.toNat_or, -BitVec.toNat_ofInt, -BitVec.toNat_and, len_string u9, slice_str u9, index_str u9, nn8]
    have nn8x : ¬ c.toNat = 33 := by omega
    refine cnd_dec (fun e => by
      have e' : c.toNat = 40 := by omega
      have hT2 : T = some (6, [c]) := by rw [← hT]; simp [signR, twoL, e0', e', oneL]
      subst hT2
      obtain ⟨v, m3, hput, rfl, ao1, fo1, hsc, hk, hfo⟩ := put_run hS6 h hb 6 [c] 0
      simp [-BitVec.toNat_or, -BitVec.toNat_ofInt, -BitVec.toNat_and, len_string u9, slice_str u9, index_str u9, e, hput]
      exact ⟨ao1, fo1, hsc, hk, hfo⟩) (fun nn9 => ?_)
    simp [-BitVec.toNat_or, -BitVec.toNat_ofInt, -BitVec.toNat_and, len_string u9, slice_str u9, index_str u9, nn9]
    have nn9x : ¬ c.toNat = 40 := by omega
    refine cnd_dec (fun e => by
      have e' : c.toNat = 41 := by omega
      have hT2 : T = some (6, [c]) := by rw [← hT]; simp [signR, twoL, e0', e', oneL]
      subst hT2
      obtain ⟨v, m3, hput, rfl, ao1, fo1, hsc, hk, hfo⟩ := put_run hS6 h hb 6 [c] 0
      simp [-BitVec.toNat_or, -BitVec.toNat_ofInt, -BitVec.toNat_and, len_string u9, slice_str u9, index_str u9, e, hput]
      exact ⟨ao1, fo1, hsc, hk, hfo⟩) (fun nn10 => ?_)
    simp [-BitVec.toNat_or, -BitVec.toNat_ofInt, -BitVec.toNat_and, len_string u9, slice_str u9, index_str u9, nn10]
    have nn10x : ¬ c.toNat = 41 := by omega
    refine cnd_dec (fun e => by
      have e' : c.toNat = 91 := by omega
      have hT2 : T = some (6, [c]) := by rw [← hT]; simp [signR, twoL, e0', e', oneL]
      subst hT2
      obtain ⟨v, m3, hput, rfl, ao1, fo1, hsc, hk, hfo⟩ := put_run hS6 h hb 6 [c] 0
      simp [-BitVec.toNat_or, -BitVec.toNat_ofInt, -BitVec.toNat_and, len_string u9, slice_str u9, index_str u9, e, hput]
      exact ⟨ao1, fo1, hsc, hk, hfo⟩) (fun nn11 => ?_)
    simp [-BitVec.toNat_or, -BitVec.toNat_ofInt, -BitVec.toNat_and, len_string u9, slice_str u9, index_str u9, nn11]
    have nn11x : ¬ c.toNat = 91 := by omega
    refine cnd_dec (fun e => by
      have e' : c.toNat = 93 := by omega
      have hT2 : T = some (6, [c]) := by rw [← hT]; simp [signR, twoL, e0', e', oneL]
      subst hT2
      obtain ⟨v, m3, hput, rfl, ao1, fo1, hsc, hk, hfo⟩ := put_run hS6 h hb 6 [c] 0
      simp [-BitVec.toNat_or, -BitVec.toNat_ofInt, -BitVec.toNat_and, len_string u9, slice_str u9, index_str u9, e, hput]
      exact ⟨ao1, fo1, hsc, hk, hfo⟩) (fun nn12 => ?_)
    simp [-BitVec.toNat_or, -BitVec.toNat_ofInt, -BitVec.toNat_and, len_string u9, slice_str u9, index_str u9, nn12]
    have nn12x : ¬ c.toNat = 93 := by omega
    refine cnd_dec (fun e => by
      have e' : c.toNat = 123 := by omega
      have hT2 : T = some (6, [c]) := by rw [← hT]; simp [signR, twoL, e0', e', oneL]
      subst hT2
      obtain ⟨v, m3, hput, rfl, ao1, fo1, hsc, hk, hfo⟩ := put_run hS6 h hb 6 [c] 0
      simp [-BitVec.toNat_or, -BitVec.toNat_ofInt, -BitVec.toNat_and, len_string u9, slice_str u9, index_str u9, e, hput]
      exact ⟨ao1, fo1, hsc, hk, hfo⟩) (fun nn13 => ?_)
    simp [-BitVec.toNat_or, -BitVec.toNat_ofInt, -BitVec.toNat_and, len_string u9, slice_str u9, index_str u9, nn13]
    have nn13x : ¬ c.toNat = 123 := by omega
    refine cnd_dec (fun e => by
      have e' : c.toNat = 125 := by omega
      have hT2 : T = some (6, [c]) := by rw [← hT]; simp [signR, twoL, e0', e', oneL]
      subst hT2
      obtain ⟨v, m3, hput, rfl, ao1, fo1, hsc, hk, hfo⟩ := put_run hS6 h hb 6 [c] 0
      simp [-BitVec.toNat_or, -BitVec.toNat_ofInt, -BitVec.toNat_and, len_string u9, slice_str u9, index_str u9, e, hput]
      exact ⟨ao1, fo1, hsc, hk, hfo⟩) (fun nn14 => ?_)
    simp [-BitVec.toNat_or, -BitVec.toNat_ofInt, -BitVec.toNat_and, len_string u9, slice_str u9, index_str u9, nn14]
    have nn14x : ¬ c.toNat = 125 := by omega
    refine cnd_dec (fun e => by
      have e' : c.toNat = 44 := by omega
      have hT2 : T = some (6, [c]) := by rw [← hT]; simp [signR, twoL, e0', e', oneL]
      subst hT2
      obtain ⟨v, m3, hput, rfl, ao1, fo1, hsc, hk, hfo⟩ := put_run hS6 h hb 6 [c] 0
      simp [-BitVec.toNat_or, -BitVec.toNat_ofInt, -BitVec.toNat_and, len_string u9, slice_str u9, index_str u9, e, hput]
      exact ⟨ao1, fo1, hsc, hk, hfo⟩) (fun nn15 => ?_)
    simp [-BitVec.toNat_or, -BitVec.toNat_ofInt, -BitVec.toNat_and, len_string u9, slice_str u9, index_str u9, nn15]
    have nn15x : ¬ c.toNat = 44 := by omega
    refine cnd_dec (fun e => by
      have e' : c.toNat = 46 := by omega
      have hT2 : T = some (6, [c]) := by rw [← hT]; simp [signR, twoL, e0', e', oneL]
      subst hT2
      obtain ⟨v, m3, hput, rfl, ao1, fo1, hsc, hk, hfo⟩ := put_run hS6 h hb 6 [c] 0
      simp [-BitVec.toNat_or, -BitVec.toNat_ofInt, -BitVec.toNat_and, len_string u9, slice_str u9, index_str u9, e, hput]
      exact ⟨ao1, fo1, hsc, hk, hfo⟩) (fun nn16 => ?_)
    simp [-BitVec.toNat_or, -BitVec.toNat_ofInt, -BitVec.toNat_and, len_string u9, slice_str u9, index_str u9, nn16]
    have nn16x : ¬ c.toNat = 46 := by omega
    have hT2 : T = none := by rw [← hT]; simp [signR, twoL, e0', oneL, nn0x, nn1x, nn2x, nn3x, nn4x, nn5x, nn6x, nn7x, nn8x, nn9x, nn10x, nn11x, nn12x, nn13x, nn14x, nn15x, nn16x]
    subst hT2
    obtain ⟨v, m3, hf, rfl, hsc, hk⟩ := fault_run hS5 h 10
    simp [-BitVec.toNat_or, -BitVec.toNat_ofInt, -BitVec.toNat_and, len_string u9, slice_str u9, index_str u9, hf]
    exact ⟨ao, fo, hsc, hk.mono (by simp), Or.inl rfl⟩
  | cons c2 q2 =>
    have e1 : (1 : Int) < ((q2.length : Int) + 1 + 1) := by omega
    simp [-BitVec.toNat_or, -BitVec.toNat_ofInt, -BitVec.toNat_and, len_string u9, slice_str u9, index_str u9, hr, e1]
    refine cnd_split (fun e => by
      have e' : c = 58 ∧ c2 = 61 := by simpa using e
      obtain ⟨rfl, rfl⟩ := e'
      have hT2 : T = some (6, [58, 61]) := by rw [← hT]; simp [signR, twoL]
      subst hT2
      obtain ⟨v, m3, hput, rfl, ao1, fo1, hsc, hk, hfo⟩ := put_run hS6 h hb 6 [58, 61] 0
      simp [-BitVec.toNat_or, -BitVec.toNat_ofInt, -BitVec.toNat_and, len_string u9, slice_str u9, index_str u9, hput]
      exact ⟨ao1, fo1, hsc, hk, hfo⟩) (fun w1b => ?_)
    simp [-BitVec.toNat_or, -BitVec.toNat_ofInt, -BitVec.toNat_and, len_string u9, slice_str u9, index_str u9, w1b]
    have w1 : c = 58 → ¬ c2 = 61 := by simpa using w1b
    refine cnd_split (fun e => by
      have e' : c = 61 ∧ c2 = 61 := by simpa using e
      obtain ⟨rfl, rfl⟩ := e'
      have hT2 : T = some (6, [61, 61]) := by rw [← hT]; simp [signR, twoL]
      subst hT2
      obtain ⟨v, m3, hput, rfl, ao1, fo1, hsc, hk, hfo⟩ := put_run hS6 h hb 6 [61, 61] 0
      simp [-BitVec.toNat_or, -BitVec.toNat_ofInt, -BitVec.toNat_and, len_string u9, slice_str u9, index_str u9, hput]
      exact ⟨ao1, fo1, hsc, hk, hfo⟩) (fun w2b => ?_)
    simp [-BitVec.toNat_or, -BitVec.toNat_ofInt, -BitVec.toNat_and, len_string u9, slice_str u9, index_str u9, w2b]
    have w2 : c = 61 → ¬ c2 = 61 := by simpa using w2b
    refine cnd_split (fun e => by
      have e' : c = 33 ∧ c2 = 61 := by simpa using e
      obtain ⟨rfl, rfl⟩ := e'
      have hT2 : T = some (6, [33, 61]) := by rw [← hT]; simp [signR, twoL]
      subst hT2
      obtain ⟨v, m3, hput, rfl, ao1, fo1, hsc, hk, hfo⟩ := put_run hS6 h hb 6 [33, 61] 0
      simp [-BitVec.toNat_or, -BitVec.toNat_ofInt, -BitVec.toNat_and, len_string u9, slice_str u9, index_str u9, hput]
      exact ⟨ao1, fo1, hsc, hk, hfo⟩) (fun w3b => ?_)
    simp [-BitVec.toNat_or, -BitVec.toNat_ofInt, -BitVec.toNat_and, len_string u9, slice_str u9, index_str u9, w3b]
    have w3 : c = 33 → ¬ c2 = 61 := by simpa using w3b
    refine cnd_split (fun e => by
      have e' : c = 60 ∧ c2 = 61 := by simpa using e
      obtain ⟨rfl, rfl⟩ := e'
      have hT2 : T = some (6, [60, 61]) := by rw [← hT]; simp [signR, twoL]
      subst hT2
      obtain ⟨v, m3, hput, rfl, ao1, fo1, hsc, hk, hfo⟩ := put_run hS6 h hb 6 [60, 61] 0
      simp [-BitVec.toNat_or, -BitVec.toNat_ofInt, -BitVec.toNat_and, len_string u9, slice_str u9, index_str u9, hput]
      exact ⟨ao1, fo1, hsc, hk, hfo⟩) (fun w4b => ?_)
    simp [-BitVec.toNat_or, -BitVec.toNat_ofInt, -BitVec.toNat_and, len_string u9, slice_str u9, index_str u9, w4b]
    have w4 : c = 60 → ¬ c2 = 61 := by simpa using w4b
    refine cnd_split (fun e => by
      have e' : c = 62 ∧ c2 = 61 := by simpa using e
      obtain ⟨rfl, rfl⟩ := e'
      have hT2 : T = some (6, [62, 61]) := by rw [← hT]; simp [signR, twoL]
      subst hT2
      obtain ⟨v, m3, hput, rfl, ao1, fo1, hsc, hk, hfo⟩ := put_run hS6 h hb 6 [62, 61] 0
      simp [-BitVec.toNat_or, -BitVec.toNat_ofInt, -BitVec.toNat_and, len_string u9, slice_str u9, index_str u9, hput]
      exact ⟨ao1, fo1, hsc, hk, hfo⟩) (fun w5b => ?_)
    simp [-BitVec.toNat_or, -BitVec.toNat_ofInt, -BitVec.toNat_and, len_string u9, slice_str u9, index_str u9, w5b]
    have w5 : c = 62 → ¬ c2 = 61 := by simpa using w5b
    refine cnd_split (fun e => by
      have e' : c = 38 ∧ c2 = 38 := by simpa using e
      obtain ⟨rfl, rfl⟩ := e'
      have hT2 : T = some (6, [38, 38]) := by rw [← hT]; simp [signR, twoL]
      subst hT2
      obtain ⟨v, m3, hput, rfl, ao1, fo1, hsc, hk, hfo⟩ := put_run hS6 h hb 6 [38, 38] 0
      simp [-BitVec.toNat_or, -BitVec.toNat_ofInt, -BitVec.toNat_and, len_string u9, slice_str u9, index_str u9, hput]
      exact ⟨ao1, fo1, hsc, hk, hfo⟩) (fun w6b => ?_)
    simp [-BitVec.toNat_or, -BitVec.toNat_ofInt, -BitVec.toNat_and, len_string u9, slice_str u9, index_str u9, w6b]
    have w6 : c = 38 → ¬ c2 = 38 := by simpa using w6b
    refine cnd_split (fun e => by
      have e' : c = 124 ∧ c2 = 124 := by simpa using e
      obtain ⟨rfl, rfl⟩ := e'
      have hT2 : T = some (6, [124, 124]) := by rw [← hT]; simp [signR, twoL]
      subst hT2
      obtain ⟨v, m3, hput, rfl, ao1, fo1, hsc, hk, hfo⟩ := put_run hS6 h hb 6 [124, 124] 0
      simp [-BitVec.toNat_or, -BitVec.toNat_ofInt, -BitVec.toNat_and, len_string u9, slice_str u9, index_str u9, hput]
      exact ⟨ao1, fo1, hsc, hk, hfo⟩) (fun w7b => ?_)
    simp [-BitVec.toNat_or, -BitVec.toNat_ofInt, -BitVec.toNat_and, len_string u9, slice_str u9, index_str u9, w7b]
    have w7 : c = 124 → ¬ c2 = 124 := by simpa using w7b
    have hin : [c, c2] ∉ twoL := by simp [twoL]; exact ⟨w1, w2, w3, w4, w5, w6, w7⟩
    refine cnd_dec (fun e => by
      have e' : c.toNat = 59 := by omega
      have hT2 : T = some (1, [59]) := by rw [← hT]; simp [signR, hin, e']
      subst hT2
      obtain ⟨v, m3, hput, rfl, ao1, fo1, hsc, hk, hfo⟩ := put_run hS6 h hb 1 [59] 0
      simp [-BitVec.toNat_or, -BitVec.toNat_ofInt, -BitVec.toNat_and, len_string u9, slice_str u9, index_str u9, e, hput]
      exact ⟨ao1, fo1, hsc, hk, hfo⟩) (fun e0 => ?_)
    simp [-BitVec.toNat_or, -BitVec.toNat_ofInt, -BitVec.toNat_and, len_string u9, slice_str u9, index_str u9, e0]
    have e0' : ¬ c.toNat = 59 := by omega
    refine cnd_dec (fun e => by
      have e' : c.toNat = 43 := by omega
      have hT2 : T = some (6, [c]) := by rw [← hT]; simp [signR, hin, e0', e', oneL]
      subst hT2
      obtain ⟨v, m3, hput, rfl, ao1, fo1, hsc, hk, hfo⟩ := put_run hS6 h hb 6 [c] 0
      simp [-BitVec.toNat_or, -BitVec.toNat_ofInt, -BitVec.toNat_and, len_string u9, slice_str u9, index_str u9, e, hput]
      exact ⟨ao1, fo1, hsc, hk, hfo⟩) (fun nn0 => ?_)
    simp [-BitVec.toNat_or, -BitVec.toNat_ofInt, -BitVec.toNat_and, len_string u9, slice_str u9, index_str u9, nn0]
    have nn0x : ¬ c.toNat = 43 := by omega
    refine cnd_dec (fun e => by
      have e' : c.toNat = 45 := by omega
      have hT2 : T = some (6, [c]) := by rw [← hT]; simp [signR, hin, e0', e', oneL]
      subst hT2
      obtain ⟨v, m3, hput, rfl, ao1, fo1, hsc, hk, hfo⟩ := put_run hS6 h hb 6 [c] 0
      simp [-BitVec.toNat_or, -BitVec.toNat_ofInt, -BitVec.toNat_and, len_string u9, slice_str u9, index_str u9, e, hput]
      exact ⟨ao1, fo1, hsc, hk, hfo⟩) (fun nn1 => ?_)
    simp [-BitVec.toNat_or, -BitVec.toNat_ofInt, -BitVec.toNat_and, len_string u9, slice_str u9, index_str u9, nn1]
    have nn1x : ¬ c.toNat = 45 := by omega
    refine cnd_dec (fun e => by
      have e' : c.toNat = 42 := by omega
      have hT2 : T = some (6, [c]) := by rw [← hT]; simp [signR, hin, e0', e', oneL]
      subst hT2
      obtain ⟨v, m3, hput, rfl, ao1, fo1, hsc, hk, hfo⟩ := put_run hS6 h hb 6 [c] 0
      simp [-BitVec.toNat_or, -BitVec.toNat_ofInt, -BitVec.toNat_and, len_string u9, slice_str u9, index_str u9, e, hput]
      exact ⟨ao1, fo1, hsc, hk, hfo⟩) (fun nn2 => ?_)
    simp [-BitVec.toNat_or, -BitVec.toNat_ofInt, -BitVec.toNat_and, len_string u9, slice_str u9, index_str u9, nn2]
    have nn2x : ¬ c.toNat = 42 := by omega
    refine cnd_dec (fun e => by
      have e' : c.toNat = 47 := by omega
      have hT2 : T = some (6, [c]) := by rw [← hT]; simp [signR, hin, e0', e', oneL]
      subst hT2
      obtain ⟨v, m3, hput, rfl, ao1, fo1, hsc, hk, hfo⟩ := put_run hS6 h hb 6 [c] 0
      simp [-BitVec.toNat_or, -BitVec.toNat_ofInt, -BitVec.toNat_and, len_string u9, slice_str u9, index_str u9, e, hput]
      exact ⟨ao1, fo1, hsc, hk, hfo⟩) (fun nn3 => ?_)
    simp [-BitVec.toNat_or, -BitVec.toNat_ofInt, -BitVec.toNat_and, len_string u9, slice_str u9, index_str u9, nn3]
    have nn3x : ¬ c.toNat = 47 := by omega
    refine cnd_dec (fun e => by
      have e' : c.toNat = 37 := by omega
      have hT2 : T = some (6, [c]) := by rw [← hT]; simp [signR, hin, e0', e', oneL]
      subst hT2
      obtain ⟨v, m3, hput, rfl, ao1, fo1, hsc, hk, hfo⟩ := put_run hS6 h hb 6 [c] 0
      simp [-BitVec.toNat_or, -BitVec.toNat_ofInt, -BitVec.toNat_and, len_string u9, slice_str u9, index_str u9, e, hput]
      exact ⟨ao1, fo1, hsc, hk, hfo⟩) (fun nn4 => ?_)
    simp [-BitVec.toNat_or, -BitVec.toNat_ofInt, -BitVec.toNat_and, len_string u9, slice_str u9, index_str u9, nn4]
    have nn4x : ¬ c.toNat = 37 := by omega
    refine cnd_dec (fun e => by
      have e' : c.toNat = 60 := by omega
      have hT2 : T = some (6, [c]) := by rw [← hT]; simp [signR, hin, e0', e', oneL]
      subst hT2
      obtain ⟨v, m3, hput, rfl, ao1, fo1, hsc, hk, hfo⟩ := put_run hS6 h hb 6 [c] 0
      simp [-BitVec.toNat_or, -BitVec.toNat_ofInt, -BitVec.toNat_and, len_string u9, slice_str u9, index_str u9, e, hput]
      exact ⟨ao1, fo1, hsc, hk, hfo⟩) (fun nn5 => ?_)
    simp [-BitVec.toNat_or, -BitVec.toNat_ofInt, -BitVec.toNat_and, len_string u9, slice_str u9, index_str u9, nn5]
    have nn5x : ¬ c.toNat = 60 := by omega
    refine cnd_dec (fun e => by
      have e' : c.toNat = 62 := by omega
      have hT2 : T = some (6, [c]) := by rw [← hT]; simp [signR, hin, e0', e', oneL]
      subst hT2
      obtain ⟨v, m3, hput, rfl, ao1, fo1, hsc, hk, hfo⟩ := put_run hS6 h hb 6 [c] 0
      simp [-BitVec.toNat_or, -BitVec.toNat_ofInt, -BitVec.toNat_and, len_string u9, slice_str u9, index_str u9, e, hput]
      exact ⟨ao1, fo1, hsc, hk, hfo⟩) (fun nn6 => ?_)
    simp [-BitVec.toNat_or, -BitVec.toNat_ofInt, -BitVec.toNat_and, len_string u9, slice_str u9, index_str u9, nn6]
    have nn6x : ¬ c.toNat = 62 := by omega
    refine cnd_dec (fun e => by
      have e' : c.toNat = 61 := by omega
      have hT2 : T = some (6, [c]) := by rw [← hT]; simp [signR, hin, e0', e', oneL]
      subst hT2
      obtain ⟨v, m3, hput, rfl, ao1, fo1, hsc, hk, hfo⟩ := put_run hS6 h hb 6 [c] 0
      simp [-BitVec.toNat_or, -BitVec.toNat_ofInt, -BitVec.toNat_and, len_string u9, slice_str u9, index_str u9, e, hput]
      exact ⟨ao1, fo1, hsc, hk, hfo⟩) (fun nn7 => ?_)
    simp [-BitVec.toNat_or, -BitVec.toNat_ofInt, -BitVec.toNat_and, len_string u9, slice_str u9, index_str u9, nn7]
    have nn7x : ¬ c.toNat = 61 := by omega
    refine cnd_dec (fun e => by
      have e' : c.toNat = 33 := by omega
      have hT2 : T = some (6, [c]) := by rw [← hT]; simp [signR, hin, e0', e', oneL]
      subst hT2
      obtain ⟨v, m3, hput, rfl, ao1, fo1, hsc, hk, hfo⟩ := put_run hS6 h hb 6 [c] 0
      simp [-BitVec.toNat_or, -BitVec.toNat_ofInt, -BitVec.toNat_and, len_string u9, slice_str u9, index_str u9, e, hput]
      exact ⟨ao1, fo1, hsc, hk, hfo⟩) (fun nn8 => ?_)
    simp [-BitVec.toNat_or, -BitVec.toNat_ofInt, -BitVec.toNat_and, len_string u9, slice_str u9, index_str u9, nn8]
    have nn8x : ¬ c.toNat = 33 := by omega
    refine cnd_dec (fun e => by
      have e' : c.toNat = 40 := by omega
      have hT2 : T = some (6, [c]) := by rw [← hT]; simp [signR, hin, e0', e', oneL]
      subst hT2
      obtain ⟨v, m3, hput, rfl, ao1, fo1, hsc, hk, hfo⟩ := put_run hS6 h hb 6 [c] 0
      simp [-BitVec.toNat_or, -BitVec.toNat_ofInt, -BitVec.toNat_and, len_string u9, slice_str u9, index_str u9, e, hput]
      exact ⟨ao1, fo1, hsc, hk, hfo⟩) (fun nn9 => ?_)
    simp [-BitVec.toNat_or, -BitVec.toNat_ofInt, -BitVec.toNat_and, len_string u9, slice_str u9, index_str u9, nn9]
    have nn9x : ¬ c.toNat = 40 := by omega
    refine cnd_dec (fun e => by
      have e' : c.toNat = 41 := by omega
      have hT2 : T = some (6, [c]) := by rw [← hT]; simp [signR, hin, e0', e', oneL]
      subst hT2
      obtain ⟨v, m3, hput, rfl, ao1, fo1, hsc, hk, hfo⟩ := put_run hS6 h hb 6 [c] 0
      simp [-BitVec.toNat_or, -BitVec.toNat_ofInt, -BitVec.toNat_and, len_string u9, slice_str u9, index_str u9, e, hput]
      exact ⟨ao1, fo1, hsc, hk, hfo⟩) (fun nn10 => ?_)
    simp [-BitVec.toNat_or, -BitVec.toNat_ofInt, -BitVec.toNat_and, len_string u9, slice_str u9, index_str u9, nn10]
    have nn10x : ¬ c.toNat = 41 := by omega
    refine cnd_dec (fun e => by
      have e' : c.toNat = 91 := by omega
      have hT2 : T = some (6, [c]) := by rw [← hT]; simp [signR, hin, e0', e', oneL]
      subst hT2
      obtain ⟨v, m3, hput, rfl, ao1, fo1, hsc, hk, hfo⟩ := put_run hS6 h hb 6 [c] 0
      simp [-BitVec.toNat_or, -BitVec.toNat_ofInt, -BitVec.toNat_and, len_string u9, slice_str u9, index_str u9, e, hput]
      exact ⟨ao1, fo1, hsc, hk, hfo⟩) (fun nn11 => ?_)
    simp [-BitVec.toNat_or, -BitVec.toNat_ofInt, -BitVec.toNat_and, len_string u9, slice_str u9, index_str u9, nn11]
    have nn11x : ¬ c.toNat = 91 := by omega
    refine cnd_dec (fun e => by
      have e' : c.toNat = 93 := by omega
      have hT2 : T = some (6, [c]) := by rw [← hT]; simp [signR, hin, e0', e', oneL]
      subst hT2
      obtain ⟨v, m3, hput, rfl, ao1, fo1, hsc, hk, hfo⟩ := put_run hS6 h hb 6 [c] 0
      simp [-BitVec.toNat_or, -BitVec.toNat_ofInt, -BitVec.toNat_and, len_string u9, slice_str u9, index_str u9, e, hput]
      exact ⟨ao1, fo1, hsc, hk, hfo⟩) (fun nn12 => ?_)
    simp [-BitVec.toNat_or, -BitVec.toNat_ofInt, -BitVec.toNat_and, len_string u9, slice_str u9, index_str u9, nn12]
    have nn12x : ¬ c.toNat = 93 := by omega
    refine cnd_dec (fun e => by
      have e' : c.toNat = 123 := by omega
      have hT2 : T = some (6, [c]) := by rw [← hT]; simp [signR, hin, e0', e', oneL]
      subst hT2
      obtain ⟨v, m3, hput, rfl, ao1, fo1, hsc, hk, hfo⟩ := put_run hS6 h hb 6 [c] 0
      simp [-BitVec.toNat_or, -BitVec.toNat_ofInt, -BitVec.toNat_and, len_string u9, slice_str u9, index_str u9, e, hput]
      exact ⟨ao1, fo1, hsc, hk, hfo⟩) (fun nn13 => ?_)
    simp [-BitVec.toNat_or, -BitVec.toNat_ofInt, -BitVec.toNat_and, len_string u9, slice_str u9, index_str u9, nn13]
    have nn13x : ¬ c.toNat = 123 := by omega
    refine cnd_dec (fun e => by
      have e' : c.toNat = 125 := by omega
      have hT2 : T = some (6, [c]) := by rw [← hT]; simp [signR, hin, e0', e', oneL]
      subst hT2
      obtain ⟨v, m3, hput, rfl, ao1, fo1, hsc, hk, hfo⟩ := put_run hS6 h hb 6 [c] 0
      simp [-BitVec.toNat_or, -BitVec.toNat_ofInt, -BitVec.toNat_and, len_string u9, slice_str u9, index_str u9, e, hput]
      exact ⟨ao1, fo1, hsc, hk, hfo⟩) (fun nn14 => ?_)
    simp [-BitVec.toNat_or, -BitVec.toNat_ofInt, -BitVec.toNat_and, len_string u9, slice_str u9, index_str u9, nn14]
    have nn14x : ¬ c.toNat = 125 := by omega
    refine cnd_dec (fun e => by
      have e' : c.toNat = 44 := by omega
      have hT2 : T = some (6, [c]) := by rw [← hT]; simp [signR, hin, e0', e', oneL]
      subst hT2
      obtain ⟨v, m3, hput, rfl, ao1, fo1, hsc, hk, hfo⟩ := put_run hS6 h hb 6 [c] 0
      simp [-BitVec.toNat_or, -BitVec.toNat_ofInt, -BitVec.toNat_and, len_string u9, slice_str u9, index_str u9, e, hput]
      exact ⟨ao1, fo1, hsc, hk, hfo⟩) (fun nn15 => ?_)
    simp [-BitVec.toNat_or, -BitVec.toNat_ofInt, -BitVec.toNat_and, len_string u9, slice_str u9, index_str u9, nn15]
    have nn15x : ¬ c.toNat = 44 := by omega
    refine cnd_dec (fun e => by
      have e' : c.toNat = 46 := by omega
      have hT2 : T = some (6, [c]) := by rw [← hT]; simp [signR, hin, e0', e', oneL]
      subst hT2
      obtain ⟨v, m3, hput, rfl, ao1, fo1, hsc, hk, hfo⟩ := put_run hS6 h hb 6 [c] 0
      simp [-BitVec.toNat_or, -BitVec.toNat_ofInt, -BitVec.toNat_and, len_string u9, slice_str u9, index_str u9, e, hput]
      exact ⟨ao1, fo1, hsc, hk, hfo⟩) (fun nn16 => ?_)
    simp [-BitVec.toNat_or, -BitVec.toNat_ofInt, -BitVec.toNat_and, len_string u9, slice_str u9, index_str u9, nn16]
    have nn16x : ¬ c.toNat = 46 := by omega
    have hT2 : T = none := by rw [← hT]; simp [signR, hin, e0', oneL, nn0x, nn1x, nn2x, nn3x, nn4x, nn5x, nn6x, nn7x, nn8x, nn9x, nn10x, nn11x, nn12x, nn13x, nn14x, nn15x, nn16x]
    subst hT2
    obtain ⟨v, m3, hf, rfl, hsc, hk⟩ := fault_run hS5 h 10
    simp [-BitVec.toNat_or, -BitVec.toNat_ofInt, -BitVec.toNat_and, len_string u9, slice_str u9, index_str u9, hf]
    exact ⟨ao, fo, hsc, hk.mono (by simp), Or.inl rfl⟩
end Go.Proofs.YtgomgdbapgibjaaDoor.base

