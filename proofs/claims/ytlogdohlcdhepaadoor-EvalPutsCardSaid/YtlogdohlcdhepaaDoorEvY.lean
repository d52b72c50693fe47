/-
  This text proves what ssa.checker's 'all' answers, over the abstract run.
-/
import Derived.Test.YtlogdohlcdhepaaDoorEvV
set_option maxRecDepth 100000
set_option linter.unusedSimpArgs false
set_option linter.unusedVariables false
namespace Go.Proofs.YtlogdohlcdhepaaDoor.base
open Go.Sh gen
variable {S : Sums} {m : Mem}
def allF (p : Nat → Bool) (i : Nat) : Nat → Bool
  | 0 => true
  | d + 1 => p i && allF p (i + 1) d
set_option maxHeartbeats 4000000 in
theorem all_run (hS : S 46 = []) {g cb : Nat} {n : Nat} (hn : n ≤ 1000000) (p : Nat → Bool)
    (h : ∀ (i : Nat) (mF : Mem), i < n → Keeps m mF [] → ∃ mG, callw Tryd.prog TT S g [.pointer (some ⟨cb, 0, none⟩), .int .i64 (i : Int)] mF = some (.bool (p i), mG) ∧ Keeps mF mG []) :
    ∃ v m1, callw Tryd.prog TT S 46 [.pointer (some ⟨cb, 0, none⟩), .int .i64 (n : Int), .func (.func g) #[.pointer (some ⟨cb, 0, none⟩)] #[]] m = some (v, m1) ∧ v = .bool (allF p 0 n) ∧ Keeps m m1 [] := by
  refine fn_w 8 [10, 16] k46 hS rfl ?_
  simp [-Int.natCast_add]
  refine wsem_loop 8 [10, 16] (fun d E mF => ∃ (i : Nat), n - i = d ∧ i ≤ n ∧ allF p i (n - i) = allF p 0 n ∧ Keeps m mF [] ∧
    E = [(1, .int .i64 (n : Int)), (2, .func (.func g) #[.pointer (some ⟨cb, 0, none⟩)] #[]), (7, .int .i64 (i : Int))]) _ ⟨_, ⟨0, rfl, by omega, rfl, .refl _ _, rfl⟩, ⟨by rfl, by rfl, by rfl, trivial⟩⟩ ?_
  rintro d E mF ih ⟨i, hd, hi, ha, kF, rfl⟩
  have im : (i : Int) ≤ 9223372036854775807 := by omega
  by_cases hlt : i < n
  · have i1 : (i : Int) < n := by omega
    have wi : IntKind.i64.wrap ((i : Int) + 1) = ((i + 1 : Nat) : Int) := by rw [wrap_i64 (by omega) (by omega)]; omega
    obtain ⟨mG, c, kG⟩ := h i mF hlt kF
    obtain ⟨e, he⟩ : ∃ e, n - i = e + 1 := ⟨n - i - 1, by omega⟩
    have he2 : n - (i + 1) = e := by omega
    rw [he, allF] at ha
    cases hp : p i
    · rw [hp] at ha c
      have : allF p 0 n = false := by rw [← ha]; rfl
      rw [this]
      simp [-Int.natCast_add, i1, c]
      exact kF.trans kG
    · rw [hp] at ha c
      simp [-Int.natCast_add, i1, c, wi]
      exact ih _ _ _ _ ⟨i + 1, rfl, by omega, by rw [he2, ← ha]; rfl, kF.trans kG, rfl⟩ (by omega) ⟨by rfl, by rfl, by rfl, trivial⟩
  have i1 : ¬ (i : Int) < n := by omega
  rw [show n - i = 0 by omega] at ha
  have : allF p 0 n = true := by rw [← ha]; rfl
  rw [this]
  simp [-Int.natCast_add, i1]
  exact kF
end Go.Proofs.YtlogdohlcdhepaaDoor.base

