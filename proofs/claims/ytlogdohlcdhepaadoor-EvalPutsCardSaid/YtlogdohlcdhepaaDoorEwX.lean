/-
  This text proves, in plain Lean, that a unit that ssa.Check takes is one that eval.Run can run.
  No condition.
-/
import Derived.Test.YtlogdohlcdhepaaDoorEwW
import Derived.Test.YtlogdohlcdhepaaDoorEvT
set_option maxRecDepth 100000
set_option linter.unusedSimpArgs false
set_option linter.unusedVariables false
namespace Go.Proofs.YtlogdohlcdhepaaDoor.base
open Go.Sh gen
theorem standR_met {u : UnT.D} {b : Nat} {l : List Int} {k : Nat} {s s' : StS} (h : standR u b k l s = some s') : s'.2.2.2 = s.2.2.2 + l.length := by
  induction l generalizing k s with
  | nil => rw [standR, Option.some.injEq] at h; rw [← h]; rfl
  | cons v r ih =>
    rw [standR] at h
    cases hv : standV u b k s v with
    | none => rw [hv] at h; cases h
    | some s1 =>
      rw [hv, Option.bind_some] at h
      obtain ⟨n, _, _, _, e, _⟩ := standV_some hv
      rw [ih h, e, List.length_cons]
      dsimp only
      omega
theorem standB_met {u : UnT.D} {bs : List BlkT.D} {b : Nat} {s s' : StS} (h : standB u b bs s = some s') : ∀ x ∈ bs, s.2.2.2 + List.length x.1 ≤ s'.2.2.2 := by
  induction bs generalizing b s with
  | nil => intro x hx; simp at hx
  | cons y r ih =>
    rw [standB] at h
    cases hv : standR u b 0 y.1 (s.1, s.2.1, true, s.2.2.2) with
    | none => rw [hv] at h; cases h
    | some s1 =>
      rw [hv, Option.bind_some] at h
      have h1 := standR_met hv
      dsimp only at h1
      intro x hx
      rcases List.mem_cons.1 hx with rfl | hx
      · have h2 : s1.2.2.2 ≤ s'.2.2.2 := by
          have key : ∀ (r : List BlkT.D) (b : Nat) (s1 : StS), standB u b r s1 = some s' → s1.2.2.2 ≤ s'.2.2.2 := by
            intro r
            induction r with
            | nil => intro b s1 h; rw [standB, Option.some.injEq] at h; rw [h]; exact Nat.le_refl _
            | cons z r ih =>
              intro b s1 h
              rw [standB] at h
              cases hv : standR u b 0 z.1 (s1.1, s1.2.1, true, s1.2.2.2) with
              | none => rw [hv] at h; cases h
              | some s2 =>
                rw [hv, Option.bind_some] at h
                have h3 := standR_met hv
                have := ih _ _ h
                dsimp only at h3
                omega
          exact key r _ _ h
        have e : List.length (show List Int from x.1) = List.length x.1 := rfl
        omega
      · have := ih h x hx
        omega
theorem standF_len {u : UnT.D} {s : StS} (h : standF u = some s) {i : Nat} (hi : i < nb u) : (vlD u i).length ≤ nv u := by
  unfold standF at h
  cases hB : standB u 0 u.2.2.2.1 (List.replicate (nv u) (-1), List.replicate (nv u) 0, true, 0) with
  | none => rw [hB] at h; cases h
  | some s1 =>
    rw [hB] at h
    have h2 := (Option.filter_eq_some_iff.1 h).2
    have h3 := standB_met hB (blkD u i) (blkD_mem hi)
    have h4 : s1.2.2.2 = nv u := by
      have := (Option.filter_eq_some_iff.1 h).1
      simp only [Option.some.injEq] at this
      rw [this]; simpa using h2
    have e : (vlD u i).length = List.length (blkD u i).1 := rfl
    dsimp only at h3
    omega
theorem uOk_of {u : UnT.D} (hz : SizeOk u) (hsb : sizeB u = true) (hst : stAll u = true) {s : StS} (hs : standF u = some s) (hv : vlAll u s.1 = true) (he : enAll u = true) (hl : ldAll u = true) (hn0 : 0 < nv u)
    (hN : ∀ x ∈ u.2.2.1, -9223372036854775808 ≤ (show Int from x.2.2.2.1) ∧ (show Int from x.2.2.2.1) ≤ 9223372036854775807) : UOk u := by
  have hsz := sizeB_iff hsb
  have hS := standF_ok hs
  have hnx := nxOk_of he
  have hT := tkOk_of hz hsb hst hs hv he hl
  have hvv : ∀ n < nv u, valF u s.1 n = true := allF_0.1 hv
  have hprd : ∀ i < nb u, prD u i = (aheadF u).getD i [] := fun i hi => ((ledF_at hl hsz.2.2.2 i hi).1).symm
  have hprl : ∀ i < nb u, (prD u i).length ≤ 1000000 := fun i hi => by rw [hprd i hi]; exact aheadF_row hnx (by omega) i
  have hmem : ∀ x ∈ u.2.2.1, ∃ n < nv u, valD u (n : Nat) = x := by
    intro x hx
    obtain ⟨n, hn, rfl⟩ := List.mem_iff_getElem.1 hx
    exact ⟨n, hn, valD_eq hn⟩
  have hval : ∀ n < nv u, isOp (valD u (n : Nat)).1 = true ∧ thereF u (usesV (valD u (n : Nat))) = true ∧ ((valD u (n : Nat)).1 = 20 → List.length (valD u (n : Nat)).2.2.2.2.1 = 1) ∧ ((valD u (n : Nat)).1 = 1 → (0 : Int) ≤ (valD u (n : Nat)).2.2.2.1 ∧ (show Int from (valD u (n : Nat)).2.2.2.1) < 40) := by
    intro n hn
    have := hvv n hn
    unfold valF at this
    rw [Bool.and_eq_true, Bool.and_eq_true, Bool.and_eq_true] at this
    obtain ⟨⟨⟨h1, h2⟩, _⟩, h4⟩ := this
    refine ⟨h1, h2, fun e => ?_, fun e => ?_⟩
    · rw [if_pos e] at h4; exact of_decide_eq_true h4
    · rw [if_neg (by rw [e]; decide), if_neg (by rw [e]; decide), if_pos e] at h4
      rw [Bool.and_eq_true, Bool.and_eq_true] at h4
      exact ⟨of_decide_eq_true h4.1.1, of_decide_eq_true h4.1.2⟩
  refine ⟨⟨hn0, by omega⟩, ⟨hsz.2.2.2, by omega⟩, by omega, fun i hi => ?_, fun x hx h1 h21 => ?_, fun x hx h1 => ?_, fun x hx h22 => ?_, fun x hx h => ?_, fun st hst' => ?_⟩
  · obtain ⟨e1, e2⟩ := endsF_iff (allF_0.1 he i hi)
    have hnl := (nxD_ok hnx hi).1
    have hvl := standF_len hs hi
    refine ⟨?_, (hT.bv i hi).2, hT.os i hi, hT.cd i hi, ⟨?_, hprl i hi⟩, fun h3 => ?_, fun t ht => ?_⟩
    · have e : (vlD u i).length = List.length (blkD u i).1 := rfl
      omega
    · have e : (nxD u i).length = List.length (blkD u i).2.2.2.1 := rfl
      omega
    · rcases e2 with ⟨g1, g2⟩ | ⟨g1, g2, _⟩ | ⟨g1, _⟩
      · rw [if_neg (by rw [g1]; decide), g2]; decide
      · rw [if_pos g1, g2]; decide
      · exact absurd g1 h3
    · have htr := e1 t ht
      obtain ⟨q, rfl⟩ : ∃ q : Nat, t = (q : Int) := ⟨t.toNat, by omega⟩
      have hq : q < nb u := by omega
      rw [Int.toNat_natCast]
      have hin : (i : Int) ∈ prD u q := by rw [hprd q hq]; exact (aheadF_iff hnx hq).2 ⟨hi, ht⟩
      have hne : prD u q ≠ [] := fun e => by rw [e] at hin; cases hin
      refine ⟨htr.1, htr.2, hne, fun v hv' h21 => ?_⟩
      have hvr := (hT.bv q hq).2 v hv'
      have hlen := hT.ph q hq v hv' h21
      obtain ⟨n, rfl⟩ : ∃ n : Nat, v = (n : Int) := ⟨v.toNat, by omega⟩
      have hn : n < nv u := by omega
      have hidx : idxF (prD u q) (i : Int) < (prD u q).length := by
        have := idxF_lt (l := prD u q) (f := (i : Int)) hne
        exact this
      have hle := hprl q hq
      have hall := hT.us n hn
      have e1 : (show List Int from (valD u (n : Int)).2.2.2.2.1).length = List.length (valD u (n : Int)).2.2.2.2.1 := rfl
      have hia : idxF (prD u q) (i : Int) < (show List Int from (valD u (n : Int)).2.2.2.2.1).length := by omega
      have hz2 := hall _ (by
        unfold usesV
        rw [usesF_eq, h21]
        exact List.mem_append_right _ (by simpa using getD_mem hia))
      exact ⟨by rw [hlen]; exact hidx, by omega, hz2.1, hz2.2⟩
  · obtain ⟨n, hn, rfl⟩ := hmem x hx
    obtain ⟨g1, g2, g3, _⟩ := hval n hn
    unfold isOp at g1
    rw [Bool.and_eq_true] at g1
    have o1 := of_decide_eq_true g1.1
    have o2 := of_decide_eq_true g1.2
    have hal := hT.al n hn
    have hul := usesF_len (valD u (n : Nat)).1 (valD u (n : Nat)).2.1 (valD u (n : Nat)).2.2.1 (valD u (n : Nat)).2.2.2.2.1
    have hul2 : (usesV (valD u (n : Nat))).length ≤ List.length (valD u (n : Nat)).2.2.2.2.1 + 2 := hul
    have key : ∀ o : Int, 1 ≤ o → o ≠ 1 → 2 ≤ o := fun o a b => by omega
    exact ⟨⟨key _ o1 h1, o2, h21⟩, hN _ hx, hal, fun e => by rw [g3 e]; omega, thereF_mem g2, by omega⟩
  · obtain ⟨n, hn, rfl⟩ := hmem x hx
    have := (hval n hn).2.2.2 h1
    exact ⟨this.1, by have := this.2; exact Int.le_trans (Int.le_of_lt this) (by decide)⟩
  · obtain ⟨n, hn, rfl⟩ := hmem x hx
    exact hT.us n hn _ (by unfold usesV; rw [usesF_eq, h22]; simp [partsF, isTwo, isOne])
  · obtain ⟨n, hn, rfl⟩ := hmem x hx
    exact hT.lv n hn (by unfold lvs; rcases h with h | h <;> simp [h])
  · have := hT.st st hst'
    rw [stD_eq hst'] at this
    refine ⟨by have := this.1; omega, fun f hf => ?_⟩
    obtain ⟨g1, g2, g3, g4⟩ := this.2 f hf
    exact ⟨by omega, by omega, g3, g4⟩
end Go.Proofs.YtlogdohlcdhepaaDoor.base

