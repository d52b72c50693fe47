/-
  This text proves, in plain Lean, what chapter 23's laws ask of moves that are done one by one.
  No condition but what the theorems themselves say.
-/
import Derived.Test.YtkeapfbemlclmaaMovE
set_option linter.unusedVariables false
set_option linter.unusedSimpArgs false
namespace Go.Proofs.Ytkeapfbemlclmaa.base
/-- what 'does' looks at -/
structure Does (want got : List Mv) (spare : Int) : Prop where
  ne : ∀ g ∈ got, g.1 ≠ g.2
  wnt : ∀ w ∈ want, fnd (told got) w.2 = w.1
  rest : ∀ g ∈ got, g.2 ≠ spare → (∃ w ∈ want, w.2 = g.2) ∨ fnd (told got) g.2 = g.2
theorem tos_mem {l : List Mv} {t : Int} : t ∈ tos l ↔ ∃ p ∈ l, p.1 ≠ p.2 ∧ p.2 = t := by
  simp only [tos, nt, List.mem_map, List.mem_filter, decide_eq_true_eq]
  constructor
  · rintro ⟨p, ⟨a, b⟩, c⟩; exact ⟨p, a, b, c⟩
  · rintro ⟨p, a, b, c⟩; exact ⟨p, ⟨a, b⟩, c⟩
theorem Done.does {ls : List Mv} {spare : Int} {out : List Mv} {ms : List Int} (hR : RightP ls) (hF : FreeP ls spare) (h : Done (srcOf ls) (tos ls) spare out ms) : Does ls out spare := by
  refine ⟨fun g hg => (h.ok g hg).1, fun w hw => ?_, fun g hg hs => ?_⟩
  · have := h.sig w.2 (hF.2.2 w hw).2
    rw [show fnd (told out) w.2 = sg out w.2 from rfl, this]
    by_cases hne : w.1 = w.2
    · rw [if_neg, hne]
      intro ht
      obtain ⟨p, hp, h1, h2⟩ := tos_mem.1 ht
      have e1 := srcOf_eq hR.2.2 p hp
      have e2 := srcOf_eq hR.2.2 w hw
      rw [h2, e2] at e1
      exact h1 (by rw [← e1, h2]; exact hne)
    · rw [if_pos (tos_mem.2 ⟨w, hw, hne, rfl⟩)]
      exact srcOf_eq hR.2.2 w hw
  · rcases (h.ok g hg).2 with h1 | h1
    · obtain ⟨p, hp, _, e⟩ := tos_mem.1 h1
      exact Or.inl ⟨p, hp, e⟩
    · exact absurd h1 hs
/-- a ring, or a row -/
def ringL (N : Nat) (open_ : Bool) : List Mv := (List.range (if open_ then N - 1 else N)).map fun i : Nat => ((i : Int), (((i + 1) % N : Nat) : Int))
theorem ringL_mem {N : Nat} {o : Bool} {p : Mv} (hN : 2 ≤ N) : p ∈ ringL N o ↔ ∃ i : Nat, i < (if o then N - 1 else N) ∧ p = ((i : Int), (((i + 1) % N : Nat) : Int)) := by
  simp only [ringL, List.mem_map, List.mem_range]
  constructor
  · rintro ⟨i, h, rfl⟩; exact ⟨i, h, rfl⟩
  · rintro ⟨i, h, rfl⟩; exact ⟨i, h, rfl⟩
theorem ring_to {N i : Nat} (hN : 2 ≤ N) (hi : i < N) : (i + 1) % N = if i + 1 = N then 0 else i + 1 := by
  split
  · rename_i h; rw [h]; exact Nat.mod_self N
  · exact Nat.mod_eq_of_lt (by omega)
theorem ringL_right {N : Nat} {o : Bool} (hN : 2 ≤ N) (hN2 : N ≤ 61) : RightP (ringL N o) ∧ FreeP (ringL N o) 99 := by
  have hk : (if o then N - 1 else N) ≤ N := by split <;> omega
  refine ⟨⟨by simp [ringL]; omega, fun p hp => ?_, ?_⟩, by omega, by omega, fun p hp => ?_⟩
  · obtain ⟨i, hi, rfl⟩ := (ringL_mem hN).1 hp
    have := Nat.mod_lt (i + 1) (by omega : 0 < N)
    exact ⟨by simp only; omega, by simp only; omega, by simp only; omega, by simp only; omega⟩
  · simp only [ringL, List.map_map]
    refine List.pairwise_map.2 (List.Pairwise.imp_of_mem ?_ List.nodup_range)
    intro a b ha hb hab e
    have ha := List.mem_range.1 ha
    have hb := List.mem_range.1 hb
    simp only [Function.comp_apply] at e
    rw [ring_to hN (by omega), ring_to hN (by omega)] at e
    apply hab
    split at e <;> split at e <;> omega
  · obtain ⟨i, hi, rfl⟩ := (ringL_mem hN).1 hp
    have := Nat.mod_lt (i + 1) (by omega : 0 < N)
    exact ⟨by simp only; omega, by simp only; omega⟩
theorem ringL_nt {N : Nat} {o : Bool} (hN : 2 ≤ N) : nt (ringL N o) = ringL N o := by
  refine List.filter_eq_self.2 fun p hp => ?_
  obtain ⟨i, hi, rfl⟩ := (ringL_mem hN).1 hp
  have hi' : i < N := by split at hi <;> omega
  simp only [decide_eq_true_eq]
  rw [ring_to hN hi']
  split <;> omega
theorem ring_len {N : Nat} {o : Bool} (hN : 2 ≤ N) (hN2 : N ≤ 61) {out : List Mv} {ms : List Int} (h : Done (srcOf (ringL N o)) (tos (ringL N o)) 99 out ms) : out.length = if o then N - 1 else N + 1 := by
  have hR := (ringL_right (o := o) hN hN2).1
  have hl : (tos (ringL N o)).length = if o then N - 1 else N := by simp only [tos, ringL_nt hN]; simp [ringL]
  have hto : ∀ t, t ∈ tos (ringL N o) → ∃ i : Nat, i < (if o then N - 1 else N) ∧ t = (((i + 1) % N : Nat) : Int) ∧ srcOf (ringL N o) t = i := fun t ht => by
    obtain ⟨p, hp, _, rfl⟩ := tos_mem.1 ht
    have e := srcOf_eq hR.2.2 p hp
    obtain ⟨i, hi, rfl⟩ := (ringL_mem hN).1 hp
    exact ⟨i, hi, rfl, e⟩
  have hgood : ∀ m ∈ ms, o = false ∧ m = 0 := fun m hm => by
    obtain ⟨n, _, _, hn, hall⟩ := h.msg m hm
    obtain ⟨h0, _⟩ := hall 0
    obtain ⟨_, h1⟩ := hall 1
    simp only [itr] at h0 h1
    obtain ⟨i, hi, rfl, e⟩ := hto _ h0
    rw [e] at h1
    have hi' : i < N := by split at hi <;> omega
    rw [ring_to hN hi'] at h1 ⊢
    split at h1
    · rename_i h2
      refine ⟨?_, by rw [if_pos h2]; rfl⟩
      cases o with
      | false => rfl
      | true => simp at hi; omega
    · omega
  rw [h.len, hl]
  cases o with
  | true =>
    have : ms = [] := List.eq_nil_iff_forall_not_mem.2 fun m hm => by have := (hgood m hm).1; simp at this
    subst this
    simp
  | false =>
    have h1 : ms.length ≤ 1 := by
      have := sum_sub2 h.msn (D := [0]) (fun m hm => by simp [(hgood m hm).2])
      simpa using this
    have h2 : ms ≠ [] := by
      refine h.cyc (fun c => c ∈ tos (ringL N false)) (fun c hc => ⟨hc, ?_⟩) 1 ?_
      · obtain ⟨i, hi, rfl, e⟩ := hto c hc
        have hi' : i < N := by simpa using hi
        have hq : ((((i + 1) % N + 1) % N : Nat) : Int) ∈ tos (ringL N false) := by
          simp only [tos, ringL_nt hN]
          exact List.mem_map.2 ⟨((((i + 1) % N : Nat) : Int), _), (ringL_mem hN).2 ⟨(i + 1) % N, by simp; exact Nat.mod_lt _ (by omega), rfl⟩, rfl⟩
        refine ⟨_, hq, ?_⟩
        exact srcOf_eq hR.2.2 ((((i + 1) % N : Nat) : Int), ((((i + 1) % N + 1) % N : Nat) : Int)) ((ringL_mem hN).2 ⟨(i + 1) % N, by simp; exact Nat.mod_lt _ (by omega), rfl⟩)
      · simp only [tos, ringL_nt hN]
        exact List.mem_map.2 ⟨((0 : Nat), ((0 + 1) % N : Nat)), (ringL_mem hN).2 ⟨0, by simp; omega, rfl⟩, by rw [ring_to hN (by omega)]; rw [if_neg (by omega)]; rfl⟩
    have := List.length_pos_iff.2 h2
    simp; omega
end Go.Proofs.Ytkeapfbemlclmaa.base

