/-
  This text proves, in plain Lean, what it says of a unit that its values stand, and that all that was asked of them holds.
  No condition.
-/
import Derived.Test.YtlogdohlcdhepaaDoorEwN
set_option maxRecDepth 100000
set_option linter.unusedSimpArgs false
set_option linter.unusedVariables false
namespace Go.Proofs.YtlogdohlcdhepaaDoor.base
open Go.Sh gen
def cnt0 (l : List Int) : Nat := l.countP fun x => decide (0 ≤ x)
theorem cnt0_set {l : List Int} {k : Nat} {b : Int} (hk : k < l.length) (h : l.getD k 0 < 0) (hb : 0 ≤ b) : cnt0 (l.set k b) = cnt0 l + 1 := by
  unfold cnt0
  induction l generalizing k with
  | nil => simp at hk
  | cons a r ih =>
    cases k with
    | zero =>
      simp at h
      rw [List.set_cons_zero, List.countP_cons, List.countP_cons, if_pos (by simpa using hb), if_neg (by simpa using h)]
    | succ k =>
      rw [List.set_cons_succ, List.countP_cons, List.countP_cons, ih (by simpa using hk) (by simpa using h)]
      omega
structure SInv (u : UnT.D) (n : Nat) (s : StS) : Prop where
  lb : s.1.length = nv u
  lp : s.2.1.length = nv u
  ct : s.2.2.2 = cnt0 s.1
  le : ∀ i < nv u, s.1.getD i 0 < n
theorem standV_some {u : UnT.D} {b k : Nat} {s s' : StS} {v : Int} (h : standV u b k s v = some s') : ∃ n : Nat, v = (n : Int) ∧ n < nv u ∧ s.1.getD n 0 < 0 ∧ s' = (s.1.set n b, s.2.1.set n k, isHead (valD u v).1, s.2.2.2 + 1) ∧
    ¬ (isHead (valD u v).1 && !s.2.2.1 = true ∨ (decide ((valD u v).1 = 1) != decide (b = 0)) && isHead (valD u v).1 = true) := by
  unfold standV at h
  split at h
  · cases h
  · rename_i h1
    split at h
    · cases h
    · rename_i h2
      simp only [Bool.or_eq_true, Bool.not_eq_true', decide_eq_true_eq, not_or] at h1
      obtain ⟨h1, h3⟩ := h1
      have h1' : belowF v (nv u) = true := by simpa using h1
      unfold belowF at h1'
      simp only [Bool.and_eq_true, decide_eq_true_eq] at h1'
      refine ⟨v.toNat, by omega, by omega, by omega, ?_, by simpa using h2⟩
      simpa using h.symm
theorem SInv.step {u : UnT.D} {N b k : Nat} {s s' : StS} {v : Int} (hi : SInv u N s) (hb : b < N) (h : standV u b k s v = some s') : SInv u N s' := by
  obtain ⟨n, rfl, hn, hneg, rfl, _⟩ := standV_some h
  refine ⟨by simpa using hi.lb, by simpa using hi.lp, ?_, ?_⟩
  · dsimp only
    rw [cnt0_set (by rw [hi.lb]; exact hn) hneg (by omega), hi.ct]
  · intro i hiv
    dsimp only
    rw [getD_set _ _ _ _ (by rw [hi.lb]; exact hn)]
    split
    · omega
    · exact hi.le i hiv
theorem standV_keep {u : UnT.D} {b k : Nat} {s s' : StS} {v : Int} (hl : s.1.length = nv u ∧ s.2.1.length = nv u) (h : standV u b k s v = some s') {i : Nat} (h0 : 0 ≤ s.1.getD i 0) : s'.1.getD i 0 = s.1.getD i 0 ∧ s'.2.1.getD i 0 = s.2.1.getD i 0 := by
  obtain ⟨n, rfl, hn, hneg, rfl, _⟩ := standV_some h
  dsimp only
  have hne : n ≠ i := by intro e; rw [e] at hneg; omega
  rw [getD_set _ _ _ _ (by rw [hl.1]; exact hn), if_neg hne, getD_set _ _ _ _ (by rw [hl.2]; exact hn), if_neg hne]
  exact ⟨rfl, rfl⟩
theorem standR_inv {u : UnT.D} {N b : Nat} (hb : b < N) {l : List Int} {k : Nat} {s s' : StS} (hi : SInv u N s) (h : standR u b k l s = some s') :
    SInv u N s' ∧ (∀ i, 0 ≤ s.1.getD i 0 → s'.1.getD i 0 = s.1.getD i 0 ∧ s'.2.1.getD i 0 = s.2.1.getD i 0) ∧
    (∀ j < l.length, ∃ n : Nat, l.getD j 0 = (n : Int) ∧ n < nv u ∧ s'.1.getD n 0 = b ∧ s'.2.1.getD n 0 = ((k + j : Nat) : Int)) := by
  induction l generalizing k s with
  | nil =>
    rw [standR, Option.some.injEq] at h
    subst h
    exact ⟨hi, fun i _ => ⟨rfl, rfl⟩, fun j hj => by simp at hj⟩
  | cons v r ih =>
    rw [standR] at h
    cases hv : standV u b k s v with
    | none => rw [hv] at h; cases h
    | some s1 =>
      rw [hv, Option.bind_some] at h
      have i1 := hi.step hb hv
      obtain ⟨a1, a2, a3⟩ := ih i1 h
      have kp := fun {i : Nat} => standV_keep (i := i) ⟨hi.lb, hi.lp⟩ hv
      refine ⟨a1, fun i h0 => ?_, fun j hj => ?_⟩
      · have k1 := kp h0
        have k2 := a2 i (by rw [k1.1]; exact h0)
        exact ⟨k2.1.trans k1.1, k2.2.trans k1.2⟩
      · cases j with
        | zero =>
          obtain ⟨n, rfl, hn, hneg, e1, _⟩ := standV_some hv
          have e2 : s1.1.getD n 0 = b := by rw [e1]; dsimp only; rw [getD_set _ _ _ _ (by rw [hi.lb]; exact hn), if_pos rfl]
          have e3 : s1.2.1.getD n 0 = k := by rw [e1]; dsimp only; rw [getD_set _ _ _ _ (by rw [hi.lp]; exact hn), if_pos rfl]
          have k2 := a2 n (by rw [e2]; omega)
          exact ⟨n, rfl, hn, k2.1.trans e2, k2.2.trans e3⟩
        | succ j =>
          obtain ⟨n, g1, g2, g3, g4⟩ := a3 j (by simpa using hj)
          exact ⟨n, by simpa using g1, g2, g3, by rw [g4]; omega⟩
theorem standB_inv {u : UnT.D} {N : Nat} {bs : List BlkT.D} {b : Nat} {s s' : StS} (hN : b + bs.length ≤ N) (hi : SInv u N s) (h : standB u b bs s = some s') :
    SInv u N s' ∧ (∀ i, 0 ≤ s.1.getD i 0 → s'.1.getD i 0 = s.1.getD i 0 ∧ s'.2.1.getD i 0 = s.2.1.getD i 0) ∧
    (∀ (j : Nat) (x : BlkT.D), bs[j]? = some x → ∀ q < List.length x.1, ∃ n : Nat, (show List Int from x.1).getD q 0 = (n : Int) ∧ n < nv u ∧ s'.1.getD n 0 = ((b + j : Nat) : Int) ∧ s'.2.1.getD n 0 = (q : Int)) := by
  induction bs generalizing b s with
  | nil =>
    rw [standB, Option.some.injEq] at h
    subst h
    exact ⟨hi, fun i _ => ⟨rfl, rfl⟩, fun j x hj => by simp at hj⟩
  | cons y r ih =>
    rw [standB] at h
    cases hv : standR u b 0 y.1 (s.1, s.2.1, true, s.2.2.2) with
    | none => rw [hv] at h; cases h
    | some s1 =>
      rw [hv, Option.bind_some] at h
      rw [List.length_cons] at hN
      obtain ⟨i1, i2, i3⟩ := standR_inv (N := N) (by omega) (s := (s.1, s.2.1, true, s.2.2.2)) ⟨hi.lb, hi.lp, hi.ct, hi.le⟩ hv
      obtain ⟨a1, a2, a3⟩ := ih (by omega) i1 h
      refine ⟨a1, fun i h0 => ?_, fun j x hj q hq => ?_⟩
      · have k1 := i2 i h0
        have k2 := a2 i (by rw [k1.1]; exact h0)
        exact ⟨k2.1.trans k1.1, k2.2.trans k1.2⟩
      · cases j with
        | zero =>
          simp at hj
          subst hj
          obtain ⟨n, g1, g2, g3, g4⟩ := i3 q hq
          have k2 := a2 n (by rw [g3]; omega)
          exact ⟨n, g1, g2, k2.1.trans (by rw [g3, Nat.add_zero]), k2.2.trans (by rw [g4, Nat.zero_add])⟩
        | succ j =>
          obtain ⟨n, g1, g2, g3, g4⟩ := a3 j x (by simpa using hj) q hq
          exact ⟨n, g1, g2, by rw [g3]; omega, g4⟩
structure StandOk (u : UnT.D) (bl pl : List Int) : Prop where
  lb : bl.length = nv u
  lp : pl.length = nv u
  bb : ∀ i < nv u, 0 ≤ bl.getD i 0 ∧ bl.getD i 0 < nb u
  at_ : ∀ b < nb u, ∀ q < (vlD u b).length, ∃ n : Nat, (vlD u b).getD q 0 = (n : Int) ∧ n < nv u ∧ bl.getD n 0 = (b : Int) ∧ pl.getD n 0 = (q : Int)
theorem standF_ok {u : UnT.D} {s : StS} (h : standF u = some s) : StandOk u s.1 s.2.1 := by
  unfold standF at h
  cases hB : standB u 0 u.2.2.2.1 (List.replicate (nv u) (-1), List.replicate (nv u) 0, true, 0) with
  | none => rw [hB] at h; cases h
  | some s1 =>
    rw [hB] at h
    have h2 := (Option.filter_eq_some_iff.1 h)
    obtain ⟨h3, h4⟩ := h2
    simp only [Option.some.injEq] at h3
    subst h3
    have i0 : SInv u (nb u) (List.replicate (nv u) (-1), List.replicate (nv u) 0, true, 0) := by
      refine ⟨by simp, by simp, ?_, fun i hi => ?_⟩
      · simp [cnt0, List.countP_replicate]
      · dsimp only
        rw [List.getD_eq_getElem?_getD, List.getElem?_replicate, if_pos hi]
        simp
        omega
    obtain ⟨a1, _, a3⟩ := standB_inv (N := nb u) (by rw [Nat.zero_add]; exact Nat.le_refl _) i0 hB
    have hc : cnt0 s1.1 = s1.1.length := by rw [a1.lb, ← a1.ct]; simpa using h4
    refine ⟨a1.lb, a1.lp, fun i hi => ⟨?_, a1.le i hi⟩, fun b hb q hq => ?_⟩
    · have := List.countP_eq_length.1 hc
      have := this (s1.1.getD i 0) (getD_mem (by rw [a1.lb]; exact hi))
      simpa using this
    · have e : vlD u b = (u.2.2.2.1[b]).1 := congrArg (fun x : BlkT.D => x.1) (blkD_eq hb)
      rw [e] at hq ⊢
      have := a3 b _ (List.getElem?_eq_getElem hb) q hq
      rw [Nat.zero_add] at this
      exact this
end Go.Proofs.YtlogdohlcdhepaaDoor.base

