/-
  This text proves, in plain Lean, that Order's way comes to an end, and what it gives.
  No condition.
-/
import Derived.Test.YtlogdohlcdhepaaDoorEwR
set_option maxRecDepth 100000
set_option linter.unusedSimpArgs false
set_option linter.unusedVariables false
namespace Go.Proofs.YtlogdohlcdhepaaDoor.base
open Go.Sh gen
def Before (l : List Int) (x y : Int) : Prop := ∃ l1 l2, l = l1 ++ l2 ∧ x ∈ l1 ∧ y ∈ l2
theorem Before.snoc {l : List Int} {x y b : Int} (h : Before l x y) : Before (l ++ [b]) x y := by
  obtain ⟨l1, l2, rfl, h1, h2⟩ := h
  exact ⟨l1, l2 ++ [b], by simp, h1, by simp [h2]⟩
def Linked (u : UnT.D) : List (Nat × Nat) → Prop
  | [] => True
  | [p] => p.1 = 0
  | p :: q :: r => (p.1 : Int) ∈ nxD u q.1 ∧ Linked u (q :: r)
structure OInv (u : UnT.D) (s : OSt) : Prop where
  sl : s.1.length = nb u
  mem : ∀ k < nb u, s.1.getD k false = true ↔ ((k : Int) ∈ s.2.1 ∨ ∃ i, (k, i) ∈ s.2.2)
  nd : (s.2.1 ++ s.2.2.map fun p => (p.1 : Int)).Nodup
  rp : ∀ x ∈ s.2.1, (0 : Int) ≤ x ∧ x < nb u
  rs : ∀ p ∈ s.2.2, p.1 < nb u ∧ p.2 ≤ (nxD u p.1).length
  lk : Linked u s.2.2
  par : ∀ x ∈ s.2.1, x ≠ 0 → ∃ y : Nat, x ∈ nxD u y ∧ ((∃ i, (y, i) ∈ s.2.2) ∨ Before s.2.1 x y)
  cp : ∀ x ∈ s.2.1, ∀ k ∈ nxD u x.toNat, s.1.getD k.toNat false = true
  cs : ∀ p ∈ s.2.2, ∀ j < p.2, s.1.getD ((nxD u p.1).getD j 0).toNat false = true
  z : (0 : Int) ∈ s.2.1 → s.2.2 = []
  ne : s.2.2 = [] → s.2.1.getLast? = some 0
  cnt : s.2.1.length + s.2.2.length = s.1.count true
def stM (st : List (Nat × Nat)) : Nat := (st.map fun p => 2 * (2 - p.2) + 1).sum
def ordM (u : UnT.D) (s : OSt) : Nat := 6 * (nb u - s.1.count true) + stM s.2.2
theorem linked_tail {u : UnT.D} {p : Nat × Nat} {r : List (Nat × Nat)} (h : Linked u (p :: r)) : Linked u r := by
  cases r with
  | nil => trivial
  | cons q r => exact h.2
theorem linked_head {u : UnT.D} {b i j : Nat} {r : List (Nat × Nat)} (h : Linked u ((b, i) :: r)) : Linked u ((b, j) :: r) := by
  cases r with
  | nil => exact h
  | cons q r => exact h
theorem getD_setB (l : List Bool) (i k : Nat) (v : Bool) (h : i < l.length) : (l.set i v).getD k false = if i = k then v else l.getD k false := by
  rw [List.getD_eq_getElem?_getD, List.getElem?_set]
  split
  · simp
  · rw [List.getD_eq_getElem?_getD]
theorem nxD_ok {u : UnT.D} (hnx : NxOk u) {b : Nat} (hb : b < nb u) : (nxD u b).length ≤ 2 ∧ ∀ k ∈ nxD u b, (0 : Int) ≤ k ∧ k < nb u := hnx _ (blkD_mem hb)
theorem ordStep_inv {u : UnT.D} (hnx : NxOk u) {sn : List Bool} {pl : List Int} {b i : Nat} {st : List (Nat × Nat)} (h : OInv u (sn, pl, (b, i) :: st)) :
    OInv u (ordStep u (sn, pl, (b, i) :: st)) ∧ ordM u (ordStep u (sn, pl, (b, i) :: st)) < ordM u (sn, pl, (b, i) :: st) := by
  obtain ⟨sl, mem, nd, rp, rs, lk, par, cp, cs, z, ne, cnt⟩ := h
  dsimp only at sl mem nd rp rs lk par cp cs z ne cnt
  have hb := rs (b, i) (by simp)
  dsimp only at hb
  have hn := nxD_ok hnx hb.1
  have hb0 : (0 : Int) ∉ pl := fun h0 => by have := z h0; cases this
  have hst : ordStep u (sn, pl, (b, i) :: st) = if i = (nxD u b).length then (sn, pl ++ [(b : Int)], st) else
      if sn.getD ((nxD u b).getD i 0).toNat false = true then (sn, pl, (b, i + 1) :: st) else
      (sn.set ((nxD u b).getD i 0).toNat true, pl, (((nxD u b).getD i 0).toNat, 0) :: (b, i + 1) :: st) := rfl
  rw [hst]
  by_cases hi : i = (nxD u b).length
  · rw [if_pos hi]
    refine ⟨⟨sl, fun k hk => ?_, ?_, fun x hx => ?_, fun p hp => rs p (by simp [hp]), linked_tail lk, fun x hx h0 => ?_, fun x hx k hk => ?_, fun p hp => cs p (by simp [hp]), fun h0 => ?_, fun he => ?_, by simp at cnt ⊢; omega⟩, ?_⟩
    · dsimp only
      rw [mem k hk]
      constructor
      · rintro (h1 | ⟨j, h1⟩)
        · exact Or.inl (by simp [h1])
        · rcases List.mem_cons.1 h1 with e | h1
          · exact Or.inl (by rw [Prod.mk.injEq] at e; simp [e.1])
          · exact Or.inr ⟨j, h1⟩
      · rintro (h1 | ⟨j, h1⟩)
        · rcases List.mem_append.1 h1 with h1 | h1
          · exact Or.inl h1
          · simp at h1
            exact Or.inr ⟨i, by rw [show k = b by omega]; simp⟩
        · exact Or.inr ⟨j, by simp [h1]⟩
    · dsimp only
      rw [List.map_cons] at nd
      simpa using nd
    · dsimp only at hx
      rcases List.mem_append.1 hx with hx | hx
      · exact rp x hx
      · simp at hx; omega
    · dsimp only at hx ⊢
      rcases List.mem_append.1 hx with hx | hx
      · obtain ⟨y, h1, h2⟩ := par x hx h0
        refine ⟨y, h1, ?_⟩
        rcases h2 with ⟨j, h2⟩ | h2
        · rcases List.mem_cons.1 h2 with e | h2
          · rw [Prod.mk.injEq] at e
            exact Or.inr ⟨pl, [(b : Int)], rfl, hx, by simp [e.1]⟩
          · exact Or.inl ⟨j, h2⟩
        · exact Or.inr h2.snoc
      · simp at hx
        subst hx
        cases st with
        | nil => exact absurd (show (b : Int) = 0 by have : b = 0 := lk; omega) h0
        | cons q r => exact ⟨q.1, lk.1, Or.inl ⟨q.2, by simp⟩⟩
    · dsimp only at hx ⊢
      rcases List.mem_append.1 hx with hx | hx
      · exact cp x hx k hk
      · simp at hx
        subst hx
        rw [Int.toNat_natCast] at hk
        obtain ⟨j, hj, rfl⟩ := List.mem_iff_getElem.1 hk
        have := cs (b, i) (by simp) j (by dsimp only; omega)
        dsimp only at this
        rw [List.getD_eq_getElem?_getD (l := nxD u b), List.getElem?_eq_getElem hj] at this
        exact this
    · dsimp only at h0 ⊢
      rcases List.mem_append.1 h0 with h0 | h0
      · exact absurd h0 hb0
      · simp at h0
        cases st with
        | nil => rfl
        | cons q r =>
          exfalso
          have : ∀ (st : List (Nat × Nat)), Linked u st → st ≠ [] → ∃ i, (0, i) ∈ st := by
            intro st
            induction st with
            | nil => intro _ h; exact absurd rfl h
            | cons p r ih =>
              intro hl _
              cases r with
              | nil =>
                obtain ⟨p1, p2⟩ := p
                have : p1 = 0 := hl
                exact ⟨p2, by rw [this]; simp⟩
              | cons q r =>
                obtain ⟨i, hi⟩ := ih hl.2 (by simp)
                exact ⟨i, List.mem_cons_of_mem _ hi⟩
          obtain ⟨j, hj⟩ := this (q :: r) lk.2 (by simp)
          rw [List.map_cons] at nd
          have nd2 := (List.nodup_append.1 nd).2.1
          rw [List.nodup_cons] at nd2
          exact nd2.1 (List.mem_map.2 ⟨(0, j), hj, by dsimp only; omega⟩)
    · dsimp only at he ⊢
      subst he
      have : b = 0 := lk
      simp [this]
    · unfold ordM stM
      simp only [List.map_cons, List.sum_cons]
      omega
  · rw [if_neg hi]
    have hlt : i < (nxD u b).length := by omega
    have hk := hn.2 _ (getD_mem hlt)
    obtain ⟨k, hke⟩ : ∃ k : Nat, (nxD u b).getD i 0 = (k : Int) := ⟨((nxD u b).getD i 0).toNat, by omega⟩
    have hkm : (k : Int) ∈ nxD u b := hke ▸ getD_mem hlt
    rw [hke, Int.toNat_natCast]
    rw [hke] at hk
    have hkn : k < nb u := by omega
    by_cases hs : sn.getD k false = true
    · rw [if_pos hs]
      refine ⟨⟨sl, fun q hq => ?_, by simpa using nd, rp, fun p hp => ?_, linked_head lk, fun x hx h0 => ?_, cp, fun p hp j hj => ?_, fun h0 => absurd h0 hb0, fun he => (by cases he), by simpa using cnt⟩, ?_⟩
      · dsimp only
        rw [mem q hq]
        constructor
        · rintro (h1 | ⟨j, h1⟩)
          · exact Or.inl h1
          · rcases List.mem_cons.1 h1 with e | h1
            · rw [Prod.mk.injEq] at e; exact Or.inr ⟨i + 1, by rw [e.1]; simp⟩
            · exact Or.inr ⟨j, by simp [h1]⟩
        · rintro (h1 | ⟨j, h1⟩)
          · exact Or.inl h1
          · rcases List.mem_cons.1 h1 with e | h1
            · rw [Prod.mk.injEq] at e; exact Or.inr ⟨i, by rw [e.1]; simp⟩
            · exact Or.inr ⟨j, by simp [h1]⟩
      · rcases List.mem_cons.1 hp with rfl | hp
        · exact ⟨hb.1, by dsimp only; omega⟩
        · exact rs p (by simp [hp])
      · obtain ⟨y, h1, h2⟩ := par x hx h0
        refine ⟨y, h1, ?_⟩
        rcases h2 with ⟨j, h2⟩ | h2
        · rcases List.mem_cons.1 h2 with e | h2
          · rw [Prod.mk.injEq] at e; exact Or.inl ⟨i + 1, by rw [e.1]; simp⟩
          · exact Or.inl ⟨j, by simp [h2]⟩
        · exact Or.inr h2
      · rcases List.mem_cons.1 hp with rfl | hp
        · dsimp only at hj ⊢
          by_cases e : j = i
          · rw [e, hke, Int.toNat_natCast]; exact hs
          · exact cs (b, i) (by simp) j (by dsimp only; omega)
        · exact cs p (by simp [hp]) j hj
      · unfold ordM stM
        simp only [List.map_cons, List.sum_cons]
        omega
    · rw [if_neg hs]
      have hsf : sn.getD k false = false := by simpa using hs
      have hkl : k < sn.length := by omega
      have hmono : ∀ q, sn.getD q false = true → (sn.set k true).getD q false = true := fun q hq => by
        rw [getD_setB _ _ _ _ hkl]; split
        · rfl
        · exact hq
      have hnk : ¬ ((k : Int) ∈ pl ∨ ∃ j, (k, j) ∈ (b, i) :: st) := fun h => hs ((mem k hkn).2 h)
      refine ⟨⟨by simpa using sl, fun q hq => ?_, ?_, rp, fun p hp => ?_, ⟨hkm, linked_head lk⟩, fun x hx h0 => ?_, fun x hx q hq => hmono _ (cp x hx q hq), fun p hp j hj => ?_, fun h0 => absurd h0 hb0, fun he => (by cases he), by dsimp only; rw [count_set hkl hsf]; simp at cnt ⊢; omega⟩, ?_⟩
      · dsimp only
        rw [getD_setB _ _ _ _ hkl]
        by_cases e : k = q
        · rw [if_pos e]
          exact ⟨fun _ => Or.inr ⟨0, by rw [e]; simp⟩, fun _ => rfl⟩
        · rw [if_neg e, mem q hq]
          constructor
          · rintro (h1 | ⟨j, h1⟩)
            · exact Or.inl h1
            · rcases List.mem_cons.1 h1 with e | h1
              · rw [Prod.mk.injEq] at e; exact Or.inr ⟨i + 1, by rw [e.1]; simp⟩
              · exact Or.inr ⟨j, by simp [h1]⟩
          · rintro (h1 | ⟨j, h1⟩)
            · exact Or.inl h1
            · rcases List.mem_cons.1 h1 with e1 | h1
              · rw [Prod.mk.injEq] at e1; exact absurd e1.1.symm e
              · rcases List.mem_cons.1 h1 with e1 | h1
                · rw [Prod.mk.injEq] at e1; exact Or.inr ⟨i, by rw [e1.1]; simp⟩
                · exact Or.inr ⟨j, by simp [h1]⟩
      · dsimp only
        rw [List.map_cons] at nd ⊢
        rw [List.map_cons]
        rw [List.nodup_append] at nd ⊢
        obtain ⟨n1, n2, n3⟩ := nd
        have hk2 : (k : Int) ∉ (b : Int) :: List.map (fun p : Nat × Nat => (p.1 : Int)) st := by
          intro hm
          apply hnk
          rcases List.mem_cons.1 hm with e | hm
          · exact Or.inr ⟨i, by rw [show k = b by omega]; simp⟩
          · obtain ⟨p, hp, e⟩ := List.mem_map.1 hm
            exact Or.inr ⟨p.2, List.mem_cons_of_mem _ (by rw [show k = p.1 by omega]; exact hp)⟩
        refine ⟨n1, List.nodup_cons.2 ⟨hk2, n2⟩, fun a ha c hc => ?_⟩
        rcases List.mem_cons.1 hc with rfl | hc
        · intro e
          exact hnk (Or.inl (by rw [← e]; exact ha))
        · exact n3 a ha c hc
      · rcases List.mem_cons.1 hp with rfl | hp
        · exact ⟨hkn, by dsimp only; omega⟩
        · rcases List.mem_cons.1 hp with rfl | hp
          · exact ⟨hb.1, by dsimp only; omega⟩
          · exact rs p (by simp [hp])
      · obtain ⟨y, h1, h2⟩ := par x hx h0
        refine ⟨y, h1, ?_⟩
        rcases h2 with ⟨j, h2⟩ | h2
        · rcases List.mem_cons.1 h2 with e | h2
          · rw [Prod.mk.injEq] at e; exact Or.inl ⟨i + 1, by rw [e.1]; simp⟩
          · exact Or.inl ⟨j, by simp [h2]⟩
        · exact Or.inr h2
      · rcases List.mem_cons.1 hp with rfl | hp
        · dsimp only at hj; omega
        · rcases List.mem_cons.1 hp with rfl | hp
          · dsimp only at hj ⊢
            by_cases e : j = i
            · rw [e, hke, Int.toNat_natCast, getD_setB _ _ _ _ hkl, if_pos rfl]
            · exact hmono _ (cs (b, i) (by simp) j (by dsimp only; omega))
          · exact hmono _ (cs p (by simp [hp]) j hj)
      · unfold ordM stM
        simp only [List.map_cons, List.sum_cons]
        have c1 := count_set hkl hsf
        have c2 := count_le (sn.set k true)
        rw [List.length_set] at c2
        omega
theorem ord_end {u : UnT.D} (hnx : NxOk u) : ∀ (M : Nat) (s : OSt), OInv u s → ordM u s ≤ M → ∃ D O' sn, ordIt u D s = some O' ∧ OInv u (sn, O', []) := by
  intro M
  induction M with
  | zero =>
    intro s h hM
    obtain ⟨sn, pl, st⟩ := s
    cases st with
    | nil => exact ⟨0, pl, sn, rfl, h⟩
    | cons p r => obtain ⟨b, i⟩ := p; have := (ordStep_inv hnx h).2; omega
  | succ M ih =>
    intro s h hM
    obtain ⟨sn, pl, st⟩ := s
    cases st with
    | nil => exact ⟨0, pl, sn, rfl, h⟩
    | cons p r =>
      obtain ⟨b, i⟩ := p
      obtain ⟨h1, h2⟩ := ordStep_inv hnx h
      obtain ⟨D, O', sn', h3, h4⟩ := ih _ h1 (by omega)
      exact ⟨D + 1, O', sn', by rw [ordIt]; exact h3, h4⟩
theorem ord0_inv {u : UnT.D} (hb : 0 < nb u) : OInv u (ord0 u) := by
  have hl : 0 < (List.replicate (nb u) false).length := by simpa using hb
  refine ⟨by simp [ord0], fun k hk => ?_, by simp [ord0], fun x hx => by simp [ord0] at hx, fun p hp => ?_, by simp [ord0, Linked], fun x hx => by simp [ord0] at hx, fun x hx => by simp [ord0] at hx, fun p hp j hj => ?_, fun h => by simp [ord0] at h, fun h => by simp [ord0] at h, ?_⟩
  · unfold ord0
    dsimp only
    rw [getD_setB _ _ _ _ hl]
    by_cases e : 0 = k
    · rw [if_pos e]; exact ⟨fun _ => Or.inr ⟨0, by rw [← e]; simp⟩, fun _ => rfl⟩
    · rw [if_neg e, List.getD_eq_getElem?_getD, List.getElem?_replicate, if_pos hk]
      constructor
      · intro h; cases h
      · rintro (h | ⟨j, h⟩)
        · simp at h
        · simp at h; omega
  · simp [ord0] at hp; subst hp; exact ⟨hb, by dsimp only; omega⟩
  · simp [ord0] at hp; subst hp; dsimp only at hj; omega
  · unfold ord0
    dsimp only
    rw [count_set hl (by rw [List.getD_eq_getElem?_getD, List.getElem?_replicate, if_pos hb]; rfl)]
    simp [List.count_replicate]
end Go.Proofs.YtlogdohlcdhepaaDoor.base

