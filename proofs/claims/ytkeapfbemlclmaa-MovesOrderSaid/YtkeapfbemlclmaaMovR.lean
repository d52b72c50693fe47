/-
  This text proves, in plain Lean, that the document's count of rings is no less than the rings that are done.
  No condition but what the theorems themselves say.
-/
import Derived.Test.YtkeapfbemlclmaaMovQ
set_option linter.unusedVariables false
set_option linter.unusedSimpArgs false
namespace Go.Proofs.Ytkeapfbemlclmaa.base
/-- does one lead back from x to y? -/
def leadsGo (l : List Mv) (y : Int) : Nat → Int → Bool
  | 0, _ => false
  | f + 1, x => if x = y then true else match l.find? (fun p => decide (p.2 = x)) with
    | none => false
    | some p => leadsGo l y f p.1
theorem find_at {l : List Mv} (hn : (l.map (·.2)).Nodup) {t : Int} (ht : t ∈ tos l) : ∃ p, l.find? (fun p => decide (p.2 = t)) = some p ∧ p.1 = srcOf l t ∧ p.2 = t ∧ p ∈ l := by
  obtain ⟨q, hq, _, rfl⟩ := tos_mem.1 ht
  cases h : l.find? (fun p => decide (p.2 = q.2)) with
  | none => have := List.find?_eq_none.1 h q hq; simp at this
  | some p =>
    have h2 : p.2 = q.2 := by simpa using List.find?_some h
    have hm := List.mem_of_find?_eq_some h
    refine ⟨p, rfl, ?_, h2, hm⟩
    rw [← h2]; exact (srcOf_eq hn p hm).symm
/-- a ring of n places -/
structure Orb (F : Int → Int) (T : List Int) (x : Int) (n : Nat) : Prop where
  pos : 0 < n
  le : n ≤ T.length
  per : itr F n x = x
  all : ∀ i, itr F i x ∈ T ∧ x ≤ itr F i x
theorem Orb.itr {F : Int → Int} {T : List Int} {x : Int} {n : Nat} (h : Orb F T x n) (i : Nat) : itr F n (itr F i x) = itr F i x := by
  rw [← itr_add, Nat.add_comm, itr_add, h.per]
theorem leads_orb {l : List Mv} (hn : (l.map (·.2)).Nodup) {y : Int} : ∀ (f : Nat) (x : Int), (∀ i, itr (srcOf l) i x ∈ tos l) → (leadsGo l y f x = true ↔ ∃ i, i < f ∧ itr (srcOf l) i x = y)
  | 0, x, _ => by simp [leadsGo]
  | f + 1, x, h => by
    unfold leadsGo
    by_cases e : x = y
    · rw [if_pos e]
      exact ⟨fun _ => ⟨0, by omega, e⟩, fun _ => rfl⟩
    · rw [if_neg e]
      have hx : x ∈ tos l := h 0
      obtain ⟨p, hp, h1, _⟩ := find_at hn hx
      rw [hp]
      simp only
      have hsh : ∀ i, itr (srcOf l) i p.1 = itr (srcOf l) (i + 1) x := fun i => by
        rw [itr_add, h1]; rfl
      rw [leads_orb hn f p.1 (fun i => by rw [hsh]; exact h (i + 1))]
      constructor
      · rintro ⟨i, hi, e2⟩
        exact ⟨i + 1, by omega, by rw [← hsh]; exact e2⟩
      · rintro ⟨i, hi, e2⟩
        cases i with
        | zero => exact absurd e2 e
        | succ i => exact ⟨i, by omega, by rw [hsh]; exact e2⟩
theorem tos_len (l : List Mv) : (tos l).length ≤ l.length := by
  have h1 := List.length_filter_le (fun p : Mv => decide (p.1 ≠ p.2)) l
  simp only [tos, nt, List.length_map]; exact h1
theorem leads_ring {l : List Mv} (hn : (l.map (·.2)).Nodup) {x y : Int} {n : Nat} (h : Orb (srcOf l) (tos l) x n) : leadsGo l y (l.length + 1) x = true ↔ ∃ i, itr (srcOf l) i x = y := by
  rw [leads_orb hn _ _ (fun i => (h.all i).1)]
  constructor
  · rintro ⟨i, _, e⟩; exact ⟨i, e⟩
  · rintro ⟨i, e⟩
    have := Nat.mod_lt i h.pos
    have := tos_len l
    have := h.le
    exact ⟨i % n, by omega, by rw [← itr_mod h.per]; exact e⟩
/-- where one goes to from a place, on the way to x -/
def nxt (l : List Mv) (x p : Int) (L : List Mv) : Int := L.foldl (fun a q => if q.1 = p ∧ leadsGo l q.2 (l.length + 1) x = true then q.2 else a) (-1)
theorem nxt_snoc (l : List Mv) (x p : Int) (L : List Mv) (q : Mv) : nxt l x p (L ++ [q]) = if q.1 = p ∧ leadsGo l q.2 (l.length + 1) x = true then q.2 else nxt l x p L := by simp [nxt]
theorem fold_last {P : Mv → Prop} [DecidablePred P] {r : Int} : ∀ (L : List Mv) (a : Int), (∀ q ∈ L, P q → q.2 = r) → (a = r ∨ ∃ q ∈ L, P q) → L.foldl (fun a q => if P q then q.2 else a) a = r
  | [], a, _, h => by simpa using h
  | q :: L, a, h1, h2 => by
    simp only [List.foldl_cons]
    refine fold_last L _ (fun p hp => h1 p (by simp [hp])) ?_
    by_cases hq : P q
    · rw [if_pos hq]; exact Or.inl (h1 q (by simp) hq)
    · rw [if_neg hq]
      rcases h2 with h2 | ⟨p, hp, h3⟩
      · exact Or.inl h2
      · rcases List.mem_cons.1 hp with rfl | hp
        · exact absurd h3 hq
        · exact Or.inr ⟨p, hp, h3⟩
theorem nxt_ring {l : List Mv} (hn : (l.map (·.2)).Nodup) {x : Int} {n : Nat} (h : Orb (srcOf l) (tos l) x n) (j : Nat) : nxt l x (itr (srcOf l) j x) l = itr (srcOf l) (n - 1 + j) x := by
  have hF : ∀ k, srcOf l (itr (srcOf l) (n - 1 + k) x) = itr (srcOf l) k x := fun k => by
    have e : n - 1 + k + 1 = n + k := by have := h.pos; omega
    have : srcOf l (itr (srcOf l) (n - 1 + k) x) = itr (srcOf l) (n - 1 + k + 1) x := rfl
    rw [this, e, itr_add]; exact h.itr k
  refine fold_last (P := fun q => q.1 = itr (srcOf l) j x ∧ leadsGo l q.2 (l.length + 1) x = true) l (-1) (fun q hq hp => ?_) (Or.inr ?_)
  · obtain ⟨h1, h2⟩ := hp
    obtain ⟨i, hi⟩ := (leads_ring hn h).1 h2
    have e1 := srcOf_eq hn q hq
    rw [h1] at e1
    have e2 : itr (srcOf l) n q.2 = q.2 := by rw [← hi]; exact h.itr i
    have e3 : itr (srcOf l) n q.2 = itr (srcOf l) (n - 1) (srcOf l q.2) := by
      have e : n = n - 1 + 1 := by have := h.pos; omega
      conv => lhs; rw [e, itr_add]
      rfl
    rw [← e2, e3, e1, ← itr_add]
  · obtain ⟨p, hp, h1, h2, h3⟩ := find_at hn (h.all (n - 1 + j)).1
    refine ⟨p, h3, ?_, ?_⟩
    · rw [h1]; exact hF j
    · rw [h2]; exact (leads_ring hn h).2 ⟨_, rfl⟩
noncomputable instance goodDec (l : List Mv) : DecidablePred fun p : Mv => Good (srcOf l) (tos l) p.2 ∧ p.1 ≠ p.2 := fun _ => Classical.propDecidable _
noncomputable def gcount (l L : List Mv) : Nat := (L.filter fun p => decide (Good (srcOf l) (tos l) p.2 ∧ p.1 ≠ p.2)).length
theorem gcount_snoc (l L : List Mv) (p : Mv) : gcount l (L ++ [p]) = gcount l L + if Good (srcOf l) (tos l) p.2 ∧ p.1 ≠ p.2 then 1 else 0 := by
  simp only [gcount, List.filter_append, List.length_append, List.filter_cons, List.filter_nil]
  split <;> simp_all
theorem gcount_ms {l : List Mv} {ms : List Int} (hn : ms.Nodup) (h : ∀ m ∈ ms, Good (srcOf l) (tos l) m) : ms.length ≤ gcount l l := by
  have := sum_sub2 hn (D := (l.filter fun p => decide (Good (srcOf l) (tos l) p.2 ∧ p.1 ≠ p.2)).map (·.2)) (fun m hm => by
    have hg := h m hm
    obtain ⟨n, _, _, _, hall⟩ := hg
    obtain ⟨p, hp, hne, e⟩ := tos_mem.1 (hall 0).1
    simp only [itr] at e
    refine List.mem_map.2 ⟨p, List.mem_filter.2 ⟨hp, ?_⟩, e⟩
    simp only [decide_eq_true_eq]
    exact ⟨by rw [e]; exact h m hm, hne⟩)
  simpa [gcount] using this
theorem Good.orb {F : Int → Int} {T : List Int} {x : Int} (h : Good F T x) : ∃ n, Orb F T x n := by
  obtain ⟨n, a, b, c, d⟩ := h
  exact ⟨n, a, b, c, d⟩
end Go.Proofs.Ytkeapfbemlclmaa.base

