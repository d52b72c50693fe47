/-
  This text proves where texts stand that a heap holds one behind another.
  No condition.
-/
import Derived.Test.YtggbgelfgfmikaaDoorBaseT
set_option maxRecDepth 100000
set_option linter.unusedSimpArgs false
set_option linter.unusedVariables false
namespace Go.Proofs.YtggbgelfgfmikaaDoor.base
open Go.Sh gen
variable {S : Sums} {m : Mem}
def flatT (ts : List (List UInt8)) : List Int := ts.flatMap txt
def refsT : Nat → List (List UInt8) → List Int
  | _, [] => []
  | o, l :: r => (if l = [] then 0 else (o : Int)) :: refsT (o + (txt l).length) r
theorem refsT_len : ∀ (ts : List (List UInt8)) (o : Nat), (refsT o ts).length = ts.length
  | [], o => rfl
  | l :: r, o => by simp [refsT, refsT_len r]
theorem refsT_snoc : ∀ (ts : List (List UInt8)) (o : Nat) (l : List UInt8), refsT o (ts ++ [l]) = refsT o ts ++ [if l = [] then 0 else ((o + (flatT ts).length : Nat) : Int)]
  | [], o, l => by simp [refsT, flatT]
  | a :: r, o, l => by
    simp only [List.cons_append, refsT, refsT_snoc r, flatT, List.flatMap_cons, List.length_append]
    rw [Nat.add_assoc]
theorem flatT_snoc (ts : List (List UInt8)) (l : List UInt8) : flatT (ts ++ [l]) = flatT ts ++ txt l := by simp [flatT]
theorem txt_len (l : List UInt8) : (txt l).length ≤ l.length + 1 := by unfold txt; split <;> simp [byts]
theorem wd_txt {l : List UInt8} (h : l.length ≤ 2000) : Wd (txt l) := by
  unfold txt
  split
  · intro w hw; simp at hw
  · exact wd_cons.2 ⟨head_wd (by omega) (by omega), wd_byts _⟩
theorem wd_flatT {ts : List (List UInt8)} (h : ∀ l ∈ ts, l.length ≤ 2000) : Wd (flatT ts) := by
  induction ts with
  | nil => intro w hw; simp [flatT] at hw
  | cons a r ih =>
    simp only [flatT, List.flatMap_cons]
    exact wd_app.2 ⟨wd_txt (h a (by simp)), ih (fun l hl => h l (by simp [hl]))⟩
theorem texts_sum {ts : List (List UInt8)} {j : Nat} (h : j < ts.length) : (flatT (ts.take j)).length + ts[j].length + 1 ≤ (ts.map fun l => l.length + 1).sum := by
  induction ts generalizing j with
  | nil => simp at h
  | cons a r ih =>
    cases j with
    | zero => simp [flatT]
    | succ j =>
      have h1 := ih (j := j) (by simpa using h)
      have h2 := txt_len a
      simp only [List.take_succ_cons, flatT, List.flatMap_cons, List.length_append, List.getElem_cons_succ, List.map_cons, List.sum_cons] at h1 ⊢
      omega
end Go.Proofs.YtggbgelfgfmikaaDoor.base

