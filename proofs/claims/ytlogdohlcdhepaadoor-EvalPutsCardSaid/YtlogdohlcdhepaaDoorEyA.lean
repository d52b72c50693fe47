/-
  This text proves what ssa.Name answers, and that ssa.Check answers at any unit, over the abstract run.
  Condition: of the calls nothing is known ahead but ssa.Name's at the ops ('nmL').
-/
import Derived.Test.YtlogdohlcdhepaaDoorEwX
import Derived.Test.YtlogdohlcdhepaaDoorEvNm
set_option maxRecDepth 100000
set_option linter.unusedSimpArgs false
set_option linter.unusedVariables false
namespace Go.Proofs.YtlogdohlcdhepaaDoor.base
open Go.Sh gen
variable {S : Sums} {m : Mem}
def nameF (op : Int) : List UInt8 := if 1 ≤ op ∧ op ≤ 23 then opsL.getD op.toNat [] else []
theorem nameF_ne (op : Int) : (nameF op = []) ↔ ¬ (1 ≤ op ∧ op ≤ 23) := by
  rcases op_cases op with (rfl | rfl | rfl | rfl | rfl | rfl | rfl | rfl | rfl | rfl | rfl | rfl | rfl | rfl | rfl | rfl | rfl | rfl | rfl | rfl | rfl | rfl | rfl | hno)
  all_goals first
    | (simp [nameF, opsL]; done)
    | (unfold nameF; rw [if_neg (by omega)]; simp; omega)
theorem name_run (hS : S 66 = nmL) (op : Int) : callw Tryd.prog TT S 66 [.int .i64 op] m = some (.string ⟨(nameF op).toArray⟩, m) := by
  rcases op_cases op with (rfl | rfl | rfl | rfl | rfl | rfl | rfl | rfl | rfl | rfl | rfl | rfl | rfl | rfl | rfl | rfl | rfl | rfl | rfl | rfl | rfl | rfl | rfl | hno)
  · exact sum_at (p := ([.int .i64 1], .string ⟨(nameF 1).toArray⟩)) (by rw [hS]; rfl)
  · exact sum_at (p := ([.int .i64 2], .string ⟨(nameF 2).toArray⟩)) (by rw [hS]; rfl)
  · exact sum_at (p := ([.int .i64 3], .string ⟨(nameF 3).toArray⟩)) (by rw [hS]; rfl)
  · exact sum_at (p := ([.int .i64 4], .string ⟨(nameF 4).toArray⟩)) (by rw [hS]; rfl)
  · exact sum_at (p := ([.int .i64 5], .string ⟨(nameF 5).toArray⟩)) (by rw [hS]; rfl)
  · exact sum_at (p := ([.int .i64 6], .string ⟨(nameF 6).toArray⟩)) (by rw [hS]; rfl)
  · exact sum_at (p := ([.int .i64 7], .string ⟨(nameF 7).toArray⟩)) (by rw [hS]; rfl)
  · exact sum_at (p := ([.int .i64 8], .string ⟨(nameF 8).toArray⟩)) (by rw [hS]; rfl)
  · exact sum_at (p := ([.int .i64 9], .string ⟨(nameF 9).toArray⟩)) (by rw [hS]; rfl)
  · exact sum_at (p := ([.int .i64 10], .string ⟨(nameF 10).toArray⟩)) (by rw [hS]; rfl)
  · exact sum_at (p := ([.int .i64 11], .string ⟨(nameF 11).toArray⟩)) (by rw [hS]; rfl)
  · exact sum_at (p := ([.int .i64 12], .string ⟨(nameF 12).toArray⟩)) (by rw [hS]; rfl)
  · exact sum_at (p := ([.int .i64 13], .string ⟨(nameF 13).toArray⟩)) (by rw [hS]; rfl)
  · exact sum_at (p := ([.int .i64 14], .string ⟨(nameF 14).toArray⟩)) (by rw [hS]; rfl)
  · exact sum_at (p := ([.int .i64 15], .string ⟨(nameF 15).toArray⟩)) (by rw [hS]; rfl)
  · exact sum_at (p := ([.int .i64 16], .string ⟨(nameF 16).toArray⟩)) (by rw [hS]; rfl)
  · exact sum_at (p := ([.int .i64 17], .string ⟨(nameF 17).toArray⟩)) (by rw [hS]; rfl)
  · exact sum_at (p := ([.int .i64 18], .string ⟨(nameF 18).toArray⟩)) (by rw [hS]; rfl)
  · exact sum_at (p := ([.int .i64 19], .string ⟨(nameF 19).toArray⟩)) (by rw [hS]; rfl)
  · exact sum_at (p := ([.int .i64 20], .string ⟨(nameF 20).toArray⟩)) (by rw [hS]; rfl)
  · exact sum_at (p := ([.int .i64 21], .string ⟨(nameF 21).toArray⟩)) (by rw [hS]; rfl)
  · exact sum_at (p := ([.int .i64 22], .string ⟨(nameF 22).toArray⟩)) (by rw [hS]; rfl)
  · exact sum_at (p := ([.int .i64 23], .string ⟨(nameF 23).toArray⟩)) (by rw [hS]; rfl)
  · have hf : (S 66).find? (fun p => eqL p.1 [Value.int .i64 op]) = none := by
      rw [hS, List.find?_eq_none]
      intro p hp
      simp only [nmL, List.mem_cons, List.not_mem_nil, or_false] at hp
      rcases hp with rfl | rfl | rfl | rfl | rfl | rfl | rfl | rfl | rfl | rfl | rfl | rfl | rfl | rfl | rfl | rfl | rfl | rfl | rfl | rfl | rfl | rfl | rfl
      all_goals (simp [eqL, eqV]; omega)
    have e0 : nameF op = [] := by unfold nameF; rw [if_neg (by omega)]
    rw [e0]
    refine fn_eq2 3 [8] k66 hf rfl ?_
    rcases hno with h | h
    · simp [h]
    · have h1 : ¬ op < 1 := by omega
      simp [h, h1]
theorem nmOk_of (hS : S 66 = nmL) : NmOk S := by
  intro m op
  refine ⟨nameF op, name_run hS op, ?_⟩
  rw [nameF_ne]
  unfold isOp
  rw [Bool.and_eq_false_iff, decide_eq_false_iff_not, decide_eq_false_iff_not]
  omega
structure Nz (S : Sums) : Prop where
  name : S 66 = nmL
  e : ∀ f, f ≠ 66 → f ≠ 12 → S f = []
theorem nz : Nz sums := ⟨rfl, fun f h1 h2 => by simp [sums, sums0, h1, h2]⟩
theorem Nz.nk (h : Nz S) : Nk S :=
  ⟨h.e _ (by decide) (by decide), h.e _ (by decide) (by decide), h.e _ (by decide) (by decide), h.e _ (by decide) (by decide), h.e _ (by decide) (by decide), h.e _ (by decide) (by decide),
    ⟨nmOk_of h.name, h.e _ (by decide) (by decide), h.e _ (by decide) (by decide), h.e _ (by decide) (by decide), h.e _ (by decide) (by decide), h.e _ (by decide) (by decide), h.e _ (by decide) (by decide), h.e _ (by decide) (by decide), h.e _ (by decide) (by decide), h.e _ (by decide) (by decide)⟩,
    ⟨h.e _ (by decide) (by decide), h.e _ (by decide) (by decide), h.e _ (by decide) (by decide), h.e _ (by decide) (by decide)⟩,
    ⟨h.e _ (by decide) (by decide), h.e _ (by decide) (by decide), h.e _ (by decide) (by decide), h.e _ (by decide) (by decide), h.e _ (by decide) (by decide), h.e _ (by decide) (by decide)⟩,
    ⟨h.e _ (by decide) (by decide), h.e _ (by decide) (by decide), h.e _ (by decide) (by decide), h.e _ (by decide) (by decide), h.e _ (by decide) (by decide), h.e _ (by decide) (by decide), h.e _ (by decide) (by decide)⟩⟩
theorem preF_some {u : UnT.D} {s : StS} (h : preF u = some s) : sizeB u = true ∧ stAll u = true ∧ standF u = some s ∧ vlAll u s.1 = true ∧ enAll u = true ∧ ldAll u = true := by
  unfold preF at h
  split at h
  · rename_i h1
    rw [Bool.and_eq_true] at h1
    obtain ⟨h2, h3⟩ := Option.filter_eq_some_iff.1 h
    rw [Bool.and_eq_true, Bool.and_eq_true] at h3
    exact ⟨h1.1, h1.2, h2, h3.1.1, h3.1.2, h3.2⟩
  · cases h
theorem check_any (hN : Nk S) {u : UnT.D} (hz : SizeOk u) (hzv : nv u ≤ 20000000000000) (hzb : nb u ≤ 20000000000000) (hzs : ns u ≤ 20000000000000) :
    ∃ O I, (∀ s, preF u = some s → TermH u O I) ∧ ∀ (m : Mem) {Q : Nat → Prop} {vo bo so : Option Addr}, UAt Q m u vo bo so → (∀ f, Q f → f < m.next) →
      ∃ m1, callw Tryd.prog TT S 22 [.agg (uCells u vo bo so).toArray] m = some (.bool (checkP u O I), m1) ∧ Keeps m m1 [] := by
  have key : ∃ O I, ∀ s, preF u = some s → TermH u O I := by
    cases hp : preF u with
    | none => exact ⟨[], [], fun s h => by cases h⟩
    | some s =>
      obtain ⟨h1, _, _, _, h5, _⟩ := preF_some hp
      obtain ⟨O, I, hT, _⟩ := term_ex (nxOk_of h5) (sizeB_pos h1)
      exact ⟨O, I, fun _ _ => hT⟩
  obtain ⟨O, I, hT⟩ := key
  refine ⟨O, I, hT, fun m Q vo bo so hU hQ => ?_⟩
  obtain ⟨_, m1, c1, rfl, k1⟩ := check_run hN hU hQ hz hzv hzb hzs hT
  exact ⟨m1, c1, k1⟩
end Go.Proofs.YtlogdohlcdhepaaDoor.base

