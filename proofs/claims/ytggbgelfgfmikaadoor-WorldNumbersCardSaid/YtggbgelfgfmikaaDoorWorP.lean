/-
  This text proves where texts stand that a heap holds one behind another.
  No condition.
-/
import Derived.Test.YtggbgelfgfmikaaDoorBaseT
set_option maxRecDepth 100000
set_option linter.unusedSimpArgs false
set_option linter.unusedVariables false
namespace Go.Proofs.YtggbgelfgfmikaaDoor.base
open Go.Sh gen
variable {S : Sums} {m : Mem}
def flatT (ts : List (List UInt8)) : List Int := ts.flatMap txt
def refsT : Nat → List (List UInt8) → List Int
  | _, [] => []
  | o, l :: r => (if l = [] then 0 else (o : Int)) :: refsT (o + (txt l).length) r
theorem refsT_len : ∀ (ts : List (List UInt8)) (o : Nat), (refsT o ts).length = ts.length
  | [], o => rfl
  | l :: r, o => by simp [refsT, refsT_len r]
theorem refsT_snoc : ∀ (ts : List (List UInt8)) (o : Nat) (l : List UInt8), refsT o (ts ++ [l]) = refsT o ts ++ [if l = [] then 0 else ((o + (flatT ts).length : Nat) : Int)]
  | [], o, l => by simp [refsT, flatT]
  | a :: r, o, l => by
    simp only [List.cons_append, refsT, refsT_snoc r, flatT, List.flatMap_cons, List.length_append]
    rw [Nat.add_assoc]
theorem flatT_snoc (ts : List (List UInt8)) (l : List UInt8) : flatT (ts ++ [l]) = flatT ts ++ txt l := by simp [flatT]
theorem txt_len (l : List UInt8) : (txt l).length ≤ l.length + 1 := by unfold txt; split <;> simp [byts]
theorem flatT_len {ts : List (List UInt8)} (h : ∀ l ∈ ts, l.length ≤ 2000) : (flatT ts).length ≤ 2001 * ts.length := by
  induction ts with
  | nil => simp [flatT]
  | cons a r ih =>
    have h1 := h a (by simp)
    have h2 := ih (fun l hl => h l (by simp [hl]))
    have h3 := txt_len a
    simp only [flatT, List.flatMap_cons, List.length_append, List.length_cons] at h2 ⊢
    omega
theorem wd_txt {l : List UInt8} (h : l.length ≤ 2000) : Wd (txt l) := by
  unfold txt
  split
  · intro w hw; simp at hw
  · exact wd_cons.2 ⟨head_wd (by omega) (by omega), wd_byts _⟩
theorem wd_flatT {ts : List (List UInt8)} (h : ∀ l ∈ ts, l.length ≤ 2000) : Wd (flatT ts) := by
  induction ts with
  | nil => intro w hw; simp [flatT] at hw
  | cons a r ih =>
    simp only [flatT, List.flatMap_cons]
    exact wd_app.2 ⟨wd_txt (h a (by simp)), ih (fun l hl => h l (by simp [hl]))⟩
theorem split_at : ∀ (ts : List (List UInt8)) (o i : Nat) (l : List UInt8), ts[i]? = some l → ∃ A B : List Int, flatT ts = A ++ txt l ++ B ∧ (refsT o ts)[i]? = some (if l = [] then 0 else ((o + A.length : Nat) : Int))
  | [], o, i, l, h => by simp at h
  | a :: r, o, 0, l, h => by
    simp at h
    subst h
    exact ⟨[], flatT r, by simp [flatT], by simp [refsT]⟩
  | a :: r, o, i + 1, l, h => by
    simp at h
    obtain ⟨A, B, h1, h2⟩ := split_at r (o + (txt a).length) i l h
    refine ⟨txt a ++ A, B, ?_, ?_⟩
    · simp only [flatT, List.flatMap_cons] at h1 ⊢
      rw [h1]; simp
    · simp only [refsT, List.getElem?_cons_succ, h2, List.length_append]
      rw [Nat.add_assoc]

theorem texts_at {ts : List (List UInt8)} (h5 : ∀ l ∈ ts, l.length ≤ 2000) (hn : ts.length ≤ 30) {j : Nat} {l : List UInt8} (hj : ts[j]? = some l) :
    ∃ r : Int, (refsT 1 ts)[j]? = some r ∧ 0 ≤ r ∧ ((0 : Int) :: flatT ts).getD r.toNat 0 % 4294967296 = l.length ∧ l.length ≤ ((0 : Int) :: flatT ts).length ∧ ∀ i (hi : i < l.length), ((0 : Int) :: flatT ts).getD (atV ((0 : Int) :: flatT ts) r i).toNat 0 = ((l[i]).toNat : Int) := by
  obtain ⟨A, B, h1, h2⟩ := split_at ts 1 j l hj
  have hl5 := h5 l (List.mem_of_getElem? hj)
  have hfl := flatT_len h5
  by_cases hl : l = []
  · subst hl
    exact ⟨0, h2, by omega, by simp, by simp, fun i hi => by simp at hi⟩
  · rw [if_neg hl] at h2
    have e : (0 : Int) :: flatT ts = (0 :: A) ++ headOf 3 l.length :: (byts l ++ B) := by
      rw [h1]; unfold txt; rw [if_neg hl]; simp
    have eA : ((1 + A.length : Nat) : Int) = (((0 : Int) :: A).length : Int) := by simp; omega
    have hAl : ((0 : Int) :: A).length ≤ 1000000 := by
      have : (flatT ts).length = A.length + (txt l).length + B.length := by rw [h1]; simp; omega
      simp only [List.length_cons]
      omega
    refine ⟨_, h2, by omega, ?_, ?_, fun i hi => ?_⟩
    · rw [e, eA, Int.toNat_natCast, len_obj (by omega) (by omega)]
    · rw [e]; simp [byts]; omega
    · rw [e, eA, atV_obj (by omega) (by omega) hi hAl, Int.toNat_natCast, obj_word]
      rw [List.getD_eq_getElem?_getD, List.getElem?_append_left (by simpa [byts] using hi)]
      simp [byts, hi]

theorem texts_sum {ts : List (List UInt8)} {j : Nat} (h : j < ts.length) : (flatT (ts.take j)).length + ts[j].length + 1 ≤ (ts.map fun l => l.length + 1).sum := by
  induction ts generalizing j with
  | nil => simp at h
  | cons a r ih =>
    cases j with
    | zero => simp [flatT]
    | succ j =>
      have h1 := ih (j := j) (by simpa using h)
      have h2 := txt_len a
      simp only [List.take_succ_cons, flatT, List.flatMap_cons, List.length_append, List.getElem_cons_succ, List.map_cons, List.sum_cons] at h1 ⊢
      omega
end Go.Proofs.YtggbgelfgfmikaaDoor.base

