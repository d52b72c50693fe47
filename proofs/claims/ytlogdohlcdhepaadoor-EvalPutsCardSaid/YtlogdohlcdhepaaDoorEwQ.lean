/-
  This text proves, in plain Lean, that a unit of which all was asked but its order is one whose values can be looked up.
  No condition.
-/
import Derived.Test.YtlogdohlcdhepaaDoorEwP
set_option maxRecDepth 100000
set_option linter.unusedSimpArgs false
set_option linter.unusedVariables false
namespace Go.Proofs.YtlogdohlcdhepaaDoor.base
open Go.Sh gen
structure SizeOk (u : UnT.D) : Prop where
  b : ∀ b ∈ u.2.2.2.1, List.length b.1 ≤ 20000000000000 ∧ List.length b.2.2.2.1 ≤ 20000000000000 ∧ List.length b.2.2.2.2.1 ≤ 20000000000000
  s : ∀ s ∈ u.2.2.2.2.1, List.length s.1 ≤ 20000000000000 ∧ ∀ f ∈ s.1, List.length f.2.2.1 ≤ 20000000000000 ∧ List.length f.2.2.2.1 ≤ 20000000000000
  v : ∀ v ∈ u.2.2.1, List.length v.2.2.2.2.1 * 8 ≤ 140737488351232
def sizeB (u : UnT.D) : Bool := !decide (3000 < nv u) && !decide (300 < nb u) && !decide (1000 < ns u) && !decide (nb u = 0)
def stAll (u : UnT.D) : Bool := allF (fun i => stateF u (stD u i)) 0 (ns u)
def vlAll (u : UnT.D) (bl : List Int) : Bool := allF (valF u bl) 0 (nv u)
def enAll (u : UnT.D) : Bool := allF (fun i => endsF u (blkD u i)) 0 (nb u)
def ldAll (u : UnT.D) : Bool := allF (ledF u) 0 (nb u)
theorem allF_iff {p : Nat → Bool} {i d : Nat} : allF p i d = true ↔ ∀ k, i ≤ k → k < i + d → p k = true := by
  induction d generalizing i with
  | zero => simp [allF]; intro k h1 h2; omega
  | succ d ih =>
    rw [allF, Bool.and_eq_true, ih]
    constructor
    · rintro ⟨h1, h2⟩ k hk1 hk2
      by_cases e : k = i
      · rw [e]; exact h1
      · exact h2 k (by omega) (by omega)
    · intro h
      exact ⟨h i (by omega) (by omega), fun k h1 h2 => h k (by omega) (by omega)⟩
theorem allF_0 {p : Nat → Bool} {n : Nat} : allF p 0 n = true ↔ ∀ k < n, p k = true := by
  rw [allF_iff]
  exact ⟨fun h k hk => h k (by omega) (by omega), fun h k _ hk => h k (by omega)⟩
theorem belowF_iff {k n : Int} : belowF k n = true ↔ 0 ≤ k ∧ k < n := by
  unfold belowF; simp only [Bool.and_eq_true, decide_eq_true_eq]
theorem thereF_mem {u : UnT.D} {l : List Int} (h : thereF u l = true) : ∀ z ∈ l, (0 : Int) ≤ z ∧ z < nv u := by
  intro z hz
  unfold thereF at h
  have := List.all_eq_true.1 h z hz
  rw [Bool.and_eq_true] at this
  exact belowF_iff.1 this.1
theorem blkD_mem {u : UnT.D} {i : Nat} (h : i < nb u) : blkD u i ∈ u.2.2.2.1 := by rw [blkD_eq h]; exact List.getElem_mem h
theorem valD_mem {u : UnT.D} {i : Nat} (h : i < nv u) : valD u (i : Int) ∈ u.2.2.1 := by rw [valD_eq h]; exact List.getElem_mem h
theorem endsF_iff {u : UnT.D} {b : BlkT.D} (h : endsF u b = true) : (∀ k ∈ (show List Int from b.2.2.2.1), (0 : Int) ≤ k ∧ k < nb u) ∧
    ((b.2.1 = 1 ∧ List.length b.2.2.2.1 = 1) ∨ (b.2.1 = 2 ∧ List.length b.2.2.2.1 = 2 ∧ thereF u [(show Int from b.2.2.1)] = true) ∨ (b.2.1 = 3 ∧ List.length b.2.2.2.1 = 0 ∧ (0 : Int) ≤ b.2.2.2.2.2.1 ∧ (show Int from b.2.2.2.2.2.1) < ns u)) := by
  unfold endsF at h
  rw [Bool.and_eq_true] at h
  obtain ⟨h1, h2⟩ := h
  refine ⟨fun k hk => belowF_iff.1 (List.all_eq_true.1 h1 k hk), ?_⟩
  split at h2
  · rename_i e; exact Or.inl ⟨e, of_decide_eq_true h2⟩
  · split at h2
    · rename_i e
      rw [Bool.and_eq_true] at h2
      exact Or.inr (Or.inl ⟨e, of_decide_eq_true h2.1, h2.2⟩)
    · split at h2
      · rename_i e
        rw [Bool.and_eq_true] at h2
        exact Or.inr (Or.inr ⟨e, of_decide_eq_true h2.1, belowF_iff.1 h2.2⟩)
      · cases h2
theorem nxOk_of {u : UnT.D} (h : enAll u = true) : NxOk u := by
  intro b hb
  obtain ⟨i, hi, rfl⟩ := List.mem_iff_getElem.1 hb
  have := allF_0.1 h i hi
  rw [blkD_eq hi] at this
  obtain ⟨h1, h2⟩ := endsF_iff this
  refine ⟨?_, h1⟩
  rcases h2 with h2 | h2 | h2 <;> omega
theorem ledF_at {u : UnT.D} (h : ldAll u = true) (hb : 0 < nb u) : ∀ k < nb u, (aheadF u).getD k [] = prD u k ∧ (k = 0 → prD u k = []) := by
  intro k hk
  have h0 := allF_0.1 h 0 hb
  unfold ledF at h0
  rw [Bool.and_eq_true] at h0
  have h1 : allF (ledA u) 0 (nb u) = true := by simpa using h0.1
  have h2 := allF_0.1 h1 k hk
  unfold ledA at h2
  rw [Bool.and_eq_true] at h2
  have e : (aheadF u).getD k [] = prD u k := by
    have := h2.1
    unfold eqF at this
    exact of_decide_eq_true this
  refine ⟨e, fun k0 => ?_⟩
  have h3 := h2.2
  rw [e] at h3
  simp [k0] at h3
  rw [k0]; exact h3
theorem sizeB_iff {u : UnT.D} (h : sizeB u = true) : nv u ≤ 3000 ∧ nb u ≤ 300 ∧ ns u ≤ 1000 ∧ 0 < nb u := by
  unfold sizeB at h
  rw [Bool.and_eq_true, Bool.and_eq_true, Bool.and_eq_true] at h
  obtain ⟨⟨⟨h1, h2⟩, h3⟩, h4⟩ := h
  have g1 : ¬ 3000 < nv u := fun e => by rw [decide_eq_true e] at h1; cases h1
  have g2 : ¬ 300 < nb u := fun e => by rw [decide_eq_true e] at h2; cases h2
  have g3 : ¬ 1000 < ns u := fun e => by rw [decide_eq_true e] at h3; cases h3
  have g4 : ¬ nb u = 0 := fun e => by rw [decide_eq_true e] at h4; cases h4
  exact ⟨Nat.not_lt.1 g1, Nat.not_lt.1 g2, Nat.not_lt.1 g3, Nat.pos_of_ne_zero g4⟩
theorem sizeB_pos {u : UnT.D} (h : sizeB u = true) : 0 < nb u := (sizeB_iff h).2.2.2
theorem tkOk_of {u : UnT.D} (hz : SizeOk u) (hsb : sizeB u = true) (hst : stAll u = true) {s : StS} (hs : standF u = some s) (hv : vlAll u s.1 = true) (he : enAll u = true) (hl : ldAll u = true) : TkOk u := by
  have hS := standF_ok hs
  have hb0 : 0 < nb u := sizeB_pos hsb
  have hvv : ∀ n < nv u, valF u s.1 n = true := allF_0.1 hv
  refine ⟨fun i hi => ⟨(hz.b _ (blkD_mem hi)).1, fun n hn => ?_⟩, fun i hi p hp => ?_, fun n hn => ?_, fun n hn => hz.v _ (valD_mem hn), fun i hi n hn h21 => ?_, fun n hn hlv => ?_, fun k hk => ?_, fun i hi h2 => ?_, fun i hi h3 => ?_⟩
  · obtain ⟨q, hq, rfl⟩ := List.mem_iff_getElem.1 hn
    obtain ⟨x, h1, h2, _⟩ := hS.at_ i hi q hq
    rw [List.getD_eq_getElem?_getD, List.getElem?_eq_getElem hq] at h1
    have h1' : (vlD u i)[q] = (x : Int) := h1
    rw [h1']; omega
  · rw [← (ledF_at hl hb0 i hi).1] at hp
    exact aheadF_mem u i p hp
  · have := hvv n hn
    unfold valF at this
    rw [Bool.and_eq_true, Bool.and_eq_true, Bool.and_eq_true] at this
    exact thereF_mem this.1.1.2
  · obtain ⟨q, hq, rfl⟩ := List.mem_iff_getElem.1 hn
    obtain ⟨x, h1, h2, h4, _⟩ := hS.at_ i hi q hq
    rw [List.getD_eq_getElem?_getD, List.getElem?_eq_getElem hq] at h1
    have h1' : (vlD u i)[q] = (x : Int) := h1
    rw [h1'] at h21 ⊢
    have := hvv x h2
    unfold valF at this
    rw [Bool.and_eq_true, if_neg (by rw [h21]; decide), if_pos h21, h4] at this
    have := of_decide_eq_true this.2
    rw [this]
    unfold predsN
    rw [Int.toNat_natCast]
  · have := hvv n hn
    unfold valF at this
    rw [Bool.and_eq_true, Bool.and_eq_true, hlv] at this
    exact belowF_iff.1 (by simpa using this.1.2)
  · have := allF_0.1 hst k hk
    unfold stateF at this
    simp only [Bool.and_eq_true, Bool.not_eq_true', decide_eq_false_iff_not] at this
    obtain ⟨⟨h1, h2⟩, h3⟩ := this
    refine ⟨by omega, fun f hf => ?_⟩
    have := List.all_eq_true.1 h3 f hf
    unfold frameF at this
    simp only [Bool.and_eq_true, Bool.not_eq_true', decide_eq_false_iff_not] at this
    obtain ⟨⟨⟨g1, g2⟩, g3⟩, g4⟩ := this
    exact ⟨by omega, by omega, thereF_mem g3, thereF_mem g4⟩
  · obtain ⟨_, g⟩ := endsF_iff (allF_0.1 he i hi)
    rcases g with ⟨g1, _⟩ | ⟨_, _, g⟩ | ⟨g1, _⟩
    · rw [g1] at h2; exact absurd h2 (by decide)
    · exact thereF_mem g _ (by simp)
    · rw [g1] at h2; exact absurd h2 (by decide)
  · obtain ⟨_, g⟩ := endsF_iff (allF_0.1 he i hi)
    rcases g with ⟨g1, _⟩ | ⟨g1, _⟩ | ⟨_, _, g⟩
    · rw [g1] at h3; exact absurd h3 (by decide)
    · rw [g1] at h3; exact absurd h3 (by decide)
    · exact g
end Go.Proofs.YtlogdohlcdhepaaDoor.base

