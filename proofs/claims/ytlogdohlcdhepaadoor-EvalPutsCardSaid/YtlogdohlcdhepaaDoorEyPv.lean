/-
  This text proves what a run of EvalPuts' unit leaves in memory, over the abstract run.
  Condition: of the calls nothing is known ahead but ssa.Name's at the ops.
-/
import Derived.Test.YtlogdohlcdhepaaDoorEyPu
set_option maxRecDepth 100000
set_option linter.unusedSimpArgs false
set_option linter.unusedVariables false
namespace Go.Proofs.YtlogdohlcdhepaaDoor.base
open Go.Sh gen
variable {S : Sums} {m : Mem}
theorem nu_of (hN : Nz S) : Nu S := by
  refine ⟨⟨⟨?_, ?_, ?_, ?_, ?_⟩, ?_, ?_, ?_, ?_, ?_, ?_, ?_, ?_⟩, ?_, ?_, ?_, ?_, ?_, ?_, ?_⟩
  all_goals exact hN.e _ (by decide) (by decide)
def puW (hw : List Int) (a i v : Int) : List Int := [a, i, v, 0, (putF hw (a + 1 + i) v).getD (a + 1 + i).toNat 0, (putF hw (a + 1 + i) v).getD (a + 1 + i).toNat 0, (putF hw (a + 1 + i) v).getD a.toNat 0 % 4294967296, (putF hw (a + 1 + i) v).getD a.toNat 0 / 4294967296]
theorem pu_call (hN : Nz S) {q : Nat} (hq : q < 20) (hck : ∀ (m : Mem) {Q : Nat → Prop} {vo bo so : Option Addr}, UAt Q m (uP (q + 1 : Nat)) vo bo so → (∀ f, Q f → f < m.next) →
      ∃ m1, callw Tryd.prog TT S 22 [.agg (uCells (uP (q + 1 : Nat)) vo bo so).toArray] m = some (.bool true, m1) ∧ Keeps m m1 [])
    {Q : Nat → Prop} {vo bo so : Option Addr} (hU : UAt Q m (uP (q + 1 : Nat)) vo bo so) (hQ : ∀ f, Q f → f < m.next) {hb hf wb wf : Nat} {hw : List Int} (hH : HeapAt m hb hf wb wf hw 50) (hhq : ¬ Q hf ∧ ¬ Q wf) (hhw : Wd hw) (hhl : hw.length ≤ 65536)
    {a v : Int} (ha : 0 ≤ a ∧ a ≤ 100000) (hv : 0 ≤ v ∧ v ≤ 18446744073709551615) :
    ∃ mX fo, callw Tryd.prog TT S 10 [.agg (uCells (uP (q + 1 : Nat)) vo bo so).toArray, .pointer (some ⟨hb, 0, none⟩), .slice (some ⟨m.next, 0, none⟩) 3 3, .int .i64 (-1), .int .i64 99] (m.new (words [a, (q : Int), v]) 45) =
        some (.agg #[.int .i64 1, .int .i64 0, .int .i64 (-1), .slice fo 1 1, .int .i64 9], mX) ∧
      AtQ (fun f => m.next ≤ f) mX (Ty.slice 44 (Ty.pair (Ty.int .i64) (Ty.pair (Ty.int .i64) (Ty.pair (Ty.slice 45 (Ty.int .u64)) (Ty.pair (Ty.slice 45 (Ty.int .u64)) Ty.unit))))) ((stD (uP (q + 1 : Nat)) 0).map (frW (puW hw a q v))) [.slice fo 1 1] ∧ HeapAt mX hb hf wb wf (putF hw (a + 1 + q) v) 50 ∧ Keeps m mX [hf, wf] := by
  obtain ⟨oW, kW, nW⟩ := new_own (m := m) (cs := words [a, (q : Int), v]) (e := 45) rfl
  obtain ⟨mW, hmW⟩ : ∃ mm, m.new (words [a, (q : Int), v]) 45 = mm := ⟨_, rfl⟩
  rw [hmW] at oW nW kW ⊢
  have hfl := hH.h.flt
  have hwl := hH.w.flt
  obtain ⟨vX, mX, cX, ⟨K, e1, e2, e3, e4, hX⟩, kX⟩ := run_run (m := mW) (nu_of hN) (hU.keep kW (by simp)) (fun f hf => by have := hQ f hf; omega) (uP_ok (by omega)) (fun m1 k1 => by
      obtain ⟨m2, c2, k2⟩ := hck m1 ((hU.keep kW (by simp)).keep k1 (by simp)) (fun f hf => by have := hQ f hf; have := k1.1; omega)
      exact ⟨m2, c2, k2⟩) (hH.keep kW (by simp) (by simp)) hhq hhw hhl
    (lo := some ⟨m.next, 0, none⟩) (loc := [a, (q : Int), v]) (c := 3) (Sl.of oW (by simp [words])).rs (fun _ => by have := oW.flt; omega) (fun w hw => by simp at hw; rcases hw with rfl | rfl | rfl <;> omega) (by simp) (wish := -1) (fuel := 99) (by omega) (by omega)
  have hz := pu_run (hwb := wb) (hw := hw) (a := a) (v := v) hq ha
  have e9 : (99 : Int).toNat + 1 = 100 := rfl
  rw [e9, hz] at hX
  obtain ⟨⟨fo, rfl, hfr⟩, hE⟩ := hX
  have hh := hE.heap
  rw [e1, e2, e3, e4] at hh
  exact ⟨mX, fo, cX, hfr.mono fun f hf => by omega, hh, keeps_mix kW.nil kX (fun g _ h => h)⟩
end Go.Proofs.YtlogdohlcdhepaaDoor.base

