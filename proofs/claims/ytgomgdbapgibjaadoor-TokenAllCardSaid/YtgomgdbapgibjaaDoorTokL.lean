/-
  This text proves what 'one' of the document's chapter 3 does over the abstract run: 'readR'.
  Condition: nothing is known of their calls ahead ('S f = []').
-/
import Derived.Test.YtgomgdbapgibjaaDoorTokK
set_option maxRecDepth 100000
set_option linter.unusedSimpArgs false
set_option linter.unusedVariables false
namespace Go.Proofs.YtgomgdbapgibjaaDoor.base
open Go.Sh gen
variable {S : Sums} {m : Mem} {b f fo : Nat} {ao : Option Addr} {σ : St}
def signL : List (List UInt8) := [[58, 61], [61, 61], [33, 61], [60, 61], [62, 61], [38, 38], [124, 124], [43], [45], [42], [47], [37], [60], [62], [61], [33], [40], [41], [91], [93], [123], [125], [44], [46], [59], [], []]
def mat (r : List UInt8) (j : Nat) : Prop := (signL.getD j []).length ≤ r.length ∧ r.take (signL.getD j []).length = signL.getD j []
theorem not_two {r : List UInt8} (h : ∀ j, j < 7 → ¬ mat r j) : ¬ (1 < r.length ∧ r.take 2 ∈ twoL) := by
  rintro ⟨h1, h2⟩
  simp only [twoL, List.mem_cons, List.not_mem_nil, or_false] at h2
  rcases h2 with e | e | e | e | e | e | e
  · exact h 0 (by omega) ⟨by show 2 ≤ r.length; omega, e⟩
  · exact h 1 (by omega) ⟨by show 2 ≤ r.length; omega, e⟩
  · exact h 2 (by omega) ⟨by show 2 ≤ r.length; omega, e⟩
  · exact h 3 (by omega) ⟨by show 2 ≤ r.length; omega, e⟩
  · exact h 4 (by omega) ⟨by show 2 ≤ r.length; omega, e⟩
  · exact h 5 (by omega) ⟨by show 2 ≤ r.length; omega, e⟩
  · exact h 6 (by omega) ⟨by show 2 ≤ r.length; omega, e⟩
theorem sign_yes {r : List UInt8} {i : Nat} (hi : i < 25) (hm : mat r i) (h : ∀ j, j < i → ¬ mat r j) : signR r = some (if signL.getD i [] = [59] then 1 else 6, signL.getD i []) := by
  by_cases h7 : i < 7
  · have : i = 0 ∨ i = 1 ∨ i = 2 ∨ i = 3 ∨ i = 4 ∨ i = 5 ∨ i = 6 := by omega
    unfold signR
    rcases this with rfl | rfl | rfl | rfl | rfl | rfl | rfl
    all_goals
      obtain ⟨h1, h2⟩ := hm
      simp only [signL, List.getD_cons_zero, List.getD_cons_succ, List.length_cons, List.length_nil] at h1 h2
      rw [if_pos ⟨by omega, by rw [h2]; decide⟩, h2]
      rfl
  · have hn := not_two (fun j hj => h j (by omega))
    obtain ⟨c, q, rfl⟩ : ∃ c q, r = c :: q := by
      cases r with
      | cons c q => exact ⟨c, q, rfl⟩
      | nil =>
        exfalso
        have h1 := hm.1
        have : i = 7 ∨ i = 8 ∨ i = 9 ∨ i = 10 ∨ i = 11 ∨ i = 12 ∨ i = 13 ∨ i = 14 ∨ i = 15 ∨ i = 16 ∨ i = 17 ∨ i = 18 ∨ i = 19 ∨ i = 20 ∨ i = 21 ∨ i = 22 ∨ i = 23 ∨ i = 24 := by omega
        rcases this with rfl | rfl | rfl | rfl | rfl | rfl | rfl | rfl | rfl | rfl | rfl | rfl | rfl | rfl | rfl | rfl | rfl | rfl <;> simp [signL] at h1
    unfold signR
    rw [if_neg hn]
    have : i = 7 ∨ i = 8 ∨ i = 9 ∨ i = 10 ∨ i = 11 ∨ i = 12 ∨ i = 13 ∨ i = 14 ∨ i = 15 ∨ i = 16 ∨ i = 17 ∨ i = 18 ∨ i = 19 ∨ i = 20 ∨ i = 21 ∨ i = 22 ∨ i = 23 ∨ i = 24 := by omega
    rcases this with rfl | rfl | rfl | rfl | rfl | rfl | rfl | rfl | rfl | rfl | rfl | rfl | rfl | rfl | rfl | rfl | rfl | rfl
    all_goals
      have h2 := hm.2
      simp only [signL, List.getD_cons_zero, List.getD_cons_succ, List.length_cons, List.length_nil, Nat.zero_add, List.take_succ_cons, List.take_zero, List.cons.injEq, and_true] at h2
      subst h2
      simp [signL, oneL]
theorem sign_no {r : List UInt8} (hr : r ≠ []) (h : ∀ j, j < 25 → ¬ mat r j) : signR r = none := by
  have hn := not_two (fun j hj => h j (by omega))
  obtain ⟨c, q, rfl⟩ : ∃ c q, r = c :: q := by
    cases r with
    | cons c q => exact ⟨c, q, rfl⟩
    | nil => exact absurd rfl hr
  unfold signR
  rw [if_neg hn]
  have x7 : c ≠ 43 := fun e => h 7 (by omega) (by subst e; exact ⟨by simp [signL], by simp [signL]⟩)
  have x8 : c ≠ 45 := fun e => h 8 (by omega) (by subst e; exact ⟨by simp [signL], by simp [signL]⟩)
  have x9 : c ≠ 42 := fun e => h 9 (by omega) (by subst e; exact ⟨by simp [signL], by simp [signL]⟩)
  have x10 : c ≠ 47 := fun e => h 10 (by omega) (by subst e; exact ⟨by simp [signL], by simp [signL]⟩)
  have x11 : c ≠ 37 := fun e => h 11 (by omega) (by subst e; exact ⟨by simp [signL], by simp [signL]⟩)
  have x12 : c ≠ 60 := fun e => h 12 (by omega) (by subst e; exact ⟨by simp [signL], by simp [signL]⟩)
  have x13 : c ≠ 62 := fun e => h 13 (by omega) (by subst e; exact ⟨by simp [signL], by simp [signL]⟩)
  have x14 : c ≠ 61 := fun e => h 14 (by omega) (by subst e; exact ⟨by simp [signL], by simp [signL]⟩)
  have x15 : c ≠ 33 := fun e => h 15 (by omega) (by subst e; exact ⟨by simp [signL], by simp [signL]⟩)
  have x16 : c ≠ 40 := fun e => h 16 (by omega) (by subst e; exact ⟨by simp [signL], by simp [signL]⟩)
  have x17 : c ≠ 41 := fun e => h 17 (by omega) (by subst e; exact ⟨by simp [signL], by simp [signL]⟩)
  have x18 : c ≠ 91 := fun e => h 18 (by omega) (by subst e; exact ⟨by simp [signL], by simp [signL]⟩)
  have x19 : c ≠ 93 := fun e => h 19 (by omega) (by subst e; exact ⟨by simp [signL], by simp [signL]⟩)
  have x20 : c ≠ 123 := fun e => h 20 (by omega) (by subst e; exact ⟨by simp [signL], by simp [signL]⟩)
  have x21 : c ≠ 125 := fun e => h 21 (by omega) (by subst e; exact ⟨by simp [signL], by simp [signL]⟩)
  have x22 : c ≠ 44 := fun e => h 22 (by omega) (by subst e; exact ⟨by simp [signL], by simp [signL]⟩)
  have x23 : c ≠ 46 := fun e => h 23 (by omega) (by subst e; exact ⟨by simp [signL], by simp [signL]⟩)
  have x24 : c ≠ 59 := fun e => h 24 (by omega) (by subst e; exact ⟨by simp [signL], by simp [signL]⟩)
  have key : ∀ v : Nat, v < 256 → c ≠ UInt8.ofNat v → c.toNat ≠ v := by
    intro v hv hc e
    apply hc
    rw [← e]
    simp
  simp only
  rw [if_neg (key 59 (by omega) x24), if_neg]
  simp only [oneL, List.mem_cons, List.not_mem_nil, or_false, not_or]
  exact ⟨key 43 (by omega) x7, key 45 (by omega) x8, key 42 (by omega) x9, key 47 (by omega) x10, key 37 (by omega) x11, key 60 (by omega) x12, key 62 (by omega) x13, key 61 (by omega) x14, key 33 (by omega) x15, key 40 (by omega) x16, key 41 (by omega) x17, key 91 (by omega) x18, key 93 (by omega) x19, key 123 (by omega) x20, key 125 (by omega) x21, key 44 (by omega) x22, key 46 (by omega) x23⟩
end Go.Proofs.YtgomgdbapgibjaaDoor.base

