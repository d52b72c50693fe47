/-
  This text proves, in plain Lean, what Order's and Ahead's rows are like when all blocks can be come to.
  No condition.
-/
import Derived.Test.YtlogdohlcdhepaaDoorEwS
set_option maxRecDepth 100000
set_option linter.unusedSimpArgs false
set_option linter.unusedVariables false
namespace Go.Proofs.YtlogdohlcdhepaaDoor.base
open Go.Sh gen
theorem aheadS_iff {i : Nat} {k : Int} {L : List (List Int)} {j : Nat} (hj : j < L.length) {x : Int} : x ∈ (aheadS i L k).getD j [] ↔ x ∈ L.getD j [] ∨ (x = i ∧ k.toNat = j) := by
  unfold aheadS
  by_cases e : j = k.toNat
  · subst e
    rw [getD_set_eq hj, List.mem_append]; simp
  · rw [getD_set_ne e]
    exact ⟨Or.inl, fun h => h.resolve_right fun h => e h.2.symm⟩
theorem aheadR_iff {i : Nat} (l : List Int) {L : List (List Int)} {j : Nat} (hj : j < L.length) {x : Int} : x ∈ (l.foldl (aheadS i) L).getD j [] ↔ x ∈ L.getD j [] ∨ (x = i ∧ ∃ k ∈ l, k.toNat = j) := by
  induction l generalizing L with
  | nil => simp
  | cons k r ih =>
    rw [List.foldl_cons, ih (by simpa [aheadS] using hj), aheadS_iff hj, or_assoc]
    apply or_congr_right
    constructor
    · rintro (⟨h1, h2⟩ | ⟨h1, q, h2, h3⟩)
      · exact ⟨h1, k, by simp, h2⟩
      · exact ⟨h1, q, by simp [h2], h3⟩
    · rintro ⟨h1, q, h2, h3⟩
      rcases List.mem_cons.1 h2 with rfl | h2
      · exact Or.inl ⟨h1, h3⟩
      · exact Or.inr ⟨h1, q, h2, h3⟩
theorem aheadB_iff (bs : List BlkT.D) {i : Nat} {L : List (List Int)} {j : Nat} (hj : j < L.length) {x : Int} : x ∈ (aheadB i bs L).getD j [] ↔ x ∈ L.getD j [] ∨ ∃ q b, bs[q]? = some b ∧ x = ((i + q : Nat) : Int) ∧ ∃ k ∈ (show List Int from b.2.2.2.1), k.toNat = j := by
  induction bs generalizing i L with
  | nil => simp [aheadB]
  | cons b r ih =>
    rw [aheadB, ih (by rw [aheadR_len]; exact hj), aheadR_iff _ hj, or_assoc]
    apply or_congr_right
    constructor
    · rintro (⟨h1, h2⟩ | ⟨q, b', h1, h2, h3⟩)
      · exact ⟨0, b, rfl, by rw [h1]; simp, h2⟩
      · exact ⟨q + 1, b', by simpa using h1, by rw [h2]; omega, h3⟩
    · rintro ⟨q, b', h1, h2, h3⟩
      cases q with
      | zero =>
        simp at h1
        subst h1
        exact Or.inl ⟨by rw [h2]; simp, h3⟩
      | succ q => exact Or.inr ⟨q, b', by simpa using h1, by rw [h2]; omega, h3⟩
theorem aheadF_iff {u : UnT.D} (hnx : NxOk u) {b : Nat} (hb : b < nb u) {a : Nat} : (a : Int) ∈ (aheadF u).getD b [] ↔ a < nb u ∧ (b : Int) ∈ nxD u a := by
  unfold aheadF
  rw [aheadB_iff _ (by simpa using hb)]
  have e : (List.replicate (nb u) ([] : List Int)).getD b [] = [] := by rw [List.getD_eq_getElem?_getD, List.getElem?_replicate, if_pos hb]; rfl
  rw [e]
  constructor
  · rintro (h | ⟨q, x, h1, h2, k, h3, h4⟩)
    · cases h
    · have hq : a = q := by omega
      subst hq
      obtain ⟨hqn, rfl⟩ := List.getElem?_eq_some_iff.1 h1
      have ex : nxD u a = (u.2.2.2.1[a]).2.2.2.1 := congrArg (fun x : BlkT.D => x.2.2.2.1) (blkD_eq hqn)
      have hk := (nxD_ok hnx hqn).2 k (by rw [ex]; exact h3)
      refine ⟨hqn, ?_⟩
      rw [ex, show (b : Int) = k by omega]
      exact h3
  · rintro ⟨h1, h2⟩
    have ex : nxD u a = (u.2.2.2.1[a]).2.2.2.1 := congrArg (fun x : BlkT.D => x.2.2.2.1) (blkD_eq h1)
    rw [ex] at h2
    exact Or.inr ⟨a, _, List.getElem?_eq_getElem h1, by omega, (b : Int), h2, by simp⟩
theorem placeG_at {n : Nat} : ∀ (O : List Int) (i : Nat) (P : List Int), O.Nodup → (∀ x ∈ O, (0 : Int) ≤ x ∧ x < n) → P.length = n →
    (∀ j < O.length, (placeG i O P).getD (O.getD j 0).toNat 0 = ((i + j : Nat) : Int)) ∧ ∀ k : Nat, (k : Int) ∉ O → (placeG i O P).getD k 0 = P.getD k 0
  | [], i, P, _, _, _ => ⟨fun j hj => by simp at hj, fun k _ => rfl⟩
  | b :: r, i, P, hd, hr, hP => by
    rw [List.nodup_cons] at hd
    have hb := hr b (by simp)
    obtain ⟨h1, h2⟩ := placeG_at r (i + 1) (P.set b.toNat (i : Int)) hd.2 (fun x hx => hr x (by simp [hx])) (by simpa using hP)
    have hbl : b.toNat < P.length := by omega
    refine ⟨fun j hj => ?_, fun k hk => ?_⟩
    · cases j with
      | zero =>
        rw [placeG]
        have := h2 b.toNat (by rw [Int.toNat_of_nonneg hb.1]; exact hd.1)
        have e : (b :: r).getD 0 0 = b := rfl
        rw [e, this, getD_set _ _ _ _ hbl, if_pos rfl, Nat.add_zero]
      | succ j =>
        rw [placeG]
        have := h1 j (by simpa using hj)
        have e : (b :: r).getD (j + 1) 0 = r.getD j 0 := rfl
        rw [e, this]; omega
    · rw [placeG]
      simp only [List.mem_cons, not_or] at hk
      rw [h2 k hk.2, getD_set _ _ _ _ hbl, if_neg (by omega)]
structure Rpo (n : Nat) (pd : Nat → List Int) (P T : List Int) : Prop where
  pos : 0 < n
  len : T.length + 1 = n
  p0 : P.getD 0 0 = 0
  t : ∀ j < T.length, ∃ b : Nat, T.getD j 0 = (b : Int) ∧ b < n ∧ b ≠ 0 ∧ P.getD b 0 = ((j + 1 : Nat) : Int)
  all : ∀ b < n, b ≠ 0 → ∃ j < T.length, T.getD j 0 = (b : Int)
  fw : ∀ b < n, b ≠ 0 → ∃ a < n, (a : Int) ∈ pd b ∧ P.getD a 0 < P.getD b 0
  pr : ∀ b < n, ∀ a ∈ pd b, (0 : Int) ≤ a ∧ a < n
theorem count_all {l : List Bool} (h : l.count true = l.length) {k : Nat} (hk : k < l.length) : l.getD k false = true := by
  induction l generalizing k with
  | nil => simp at hk
  | cons a r ih =>
    have hr := count_le r
    rw [List.count_cons, List.length_cons] at h
    cases a with
    | false => simp at h; omega
    | true =>
      cases k with
      | zero => rfl
      | succ k =>
        simp at h
        have := ih h (k := k) (by simpa using hk)
        simpa using this
theorem rpo_of {u : UnT.D} (hnx : NxOk u) (hb : 0 < nb u) {sn : List Bool} {O' : List Int} (h : OInv u (sn, O', [])) (hl : O'.length = nb u) :
    (∀ x ∈ O'.reverse, (0 : Int) ≤ x ∧ x < nb u) ∧ Rpo (nb u) (fun b => (aheadF u).getD b []) (placeF (nb u) O'.reverse) (O'.reverse.drop 1) := by
  have hrp : ∀ x ∈ O'.reverse, (0 : Int) ≤ x ∧ x < nb u := fun x hx => h.rp x (by simpa using hx)
  have hnd : O'.reverse.Nodup := by
    have := h.nd
    simp only [List.map_nil, List.append_nil] at this
    exact List.pairwise_reverse.2 (List.Pairwise.imp (fun h => Ne.symm h) this)
  obtain ⟨hp1, _⟩ := placeG_at (n := nb u) O'.reverse 0 (List.replicate (nb u) 0) hnd hrp (by simp)
  have hall : ∀ k < nb u, (k : Int) ∈ O'.reverse := by
    intro k hk
    have hc : O'.length + 0 = sn.count true := h.cnt
    have hsl : sn.length = nb u := h.sl
    have := (h.mem k hk).1 (count_all (l := sn) (by omega) (by omega))
    rcases this with h1 | ⟨i, h1⟩
    · simpa using h1
    · cases h1
  obtain ⟨O, hO⟩ : ∃ O, O'.reverse = O := ⟨_, rfl⟩
  have hOl : O.length = nb u := by rw [← hO]; simpa using hl
  obtain ⟨P, hP⟩ : ∃ P, placeF (nb u) O = P := ⟨_, rfl⟩
  have hPg : placeG 0 O (List.replicate (nb u) 0) = P := hP
  have h0 : O.getD 0 0 = 0 := by
    have := h.ne rfl
    dsimp only at this
    rw [← hO, List.getD_eq_getElem?_getD, ← List.head?_eq_getElem?, List.head?_reverse, this]; rfl
  have hbef := h.par
  simp only at hbef
  rw [hO] at hrp hnd hp1 hall ⊢
  rw [hPg] at hp1
  rw [hP]
  have hp2 : ∀ j < nb u, P.getD (O.getD j 0).toNat 0 = (j : Int) := fun j hj => by rw [hp1 j (by omega)]; omega
  have hidx : ∀ k < nb u, ∃ j < nb u, O.getD j 0 = (k : Int) := by
    intro k hk
    obtain ⟨j, hj, e⟩ := List.mem_iff_getElem.1 (hall k hk)
    exact ⟨j, by omega, by rw [List.getD_eq_getElem?_getD, List.getElem?_eq_getElem hj]; exact e⟩
  have hT : ∀ j, (O.drop 1).getD j 0 = O.getD (j + 1) 0 := fun j => by
    rw [List.getD_eq_getElem?_getD, List.getD_eq_getElem?_getD, List.getElem?_drop, Nat.add_comm]
  have hp0 : P.getD 0 0 = 0 := by
    have := hp2 0 hb
    rw [h0] at this
    simpa using this
  refine ⟨hrp, ⟨hb, by simp; omega, hp0, fun j hj => ?_, fun b hbn hb0 => ?_, fun b hbn hb0 => ?_, fun b hbn a ha => aheadF_mem u b a ha⟩⟩
  · have hj1 : j + 1 < nb u := by simp at hj; omega
    have hr := hrp _ (getD_mem (l := O) (i := j + 1) (by omega))
    have hp := hp2 (j + 1) hj1
    refine ⟨(O.getD (j + 1) 0).toNat, by rw [hT]; omega, by omega, fun e => ?_, hp⟩
    rw [e, hp0] at hp
    omega
  · obtain ⟨j, hj, e⟩ := hidx b hbn
    cases j with
    | zero => rw [h0] at e; omega
    | succ j => exact ⟨j, by simp; omega, by rw [hT]; exact e⟩
  · obtain ⟨y, h1, h2⟩ := hbef (b : Int) (by have := hall b hbn; rw [← hO] at this; simpa using this) (by omega)
    rcases h2 with ⟨i, h2⟩ | ⟨l1, l2, e, h2, h3⟩
    · cases h2
    · have hy := h.rp (y : Int) (by dsimp only; rw [e]; simp [h3])
      have hyn : y < nb u := by omega
      refine ⟨y, hyn, (aheadF_iff hnx hbn).2 ⟨hyn, h1⟩, ?_⟩
      have eO : O = l2.reverse ++ l1.reverse := by rw [← hO, e]; simp
      obtain ⟨q, hq, eq1⟩ := List.mem_iff_getElem.1 (List.mem_reverse.2 h3)
      obtain ⟨r, hr, er1⟩ := List.mem_iff_getElem.1 (List.mem_reverse.2 h2)
      have ol : O.length = l2.reverse.length + l1.reverse.length := by rw [eO, List.length_append]
      have e1 : O.getD q 0 = (y : Int) := by
        rw [eO, List.getD_eq_getElem?_getD, List.getElem?_append_left hq, List.getElem?_eq_getElem hq]; exact eq1
      have e2 : O.getD (l2.reverse.length + r) 0 = (b : Int) := by
        rw [eO, List.getD_eq_getElem?_getD, List.getElem?_append_right (by omega), Nat.add_sub_cancel_left, List.getElem?_eq_getElem hr]; exact er1
      have g1 := hp2 q (by omega)
      have g2 := hp2 (l2.reverse.length + r) (by omega)
      rw [e1, Int.toNat_natCast] at g1
      rw [e2, Int.toNat_natCast] at g2
      rw [g1, g2]; omega
end Go.Proofs.YtlogdohlcdhepaaDoor.base

