/-
  This text proves that the program's does and the document's Step make the same of a machine and a heap, and what the program's Step does.
  Condition: nothing is known of their calls ahead ('S f = []').
-/
import Derived.Test.YtkcehgajpalgnaaDoorMacU
set_option maxRecDepth 100000
set_option linter.unusedSimpArgs false
set_option linter.unusedVariables false
namespace Go.Proofs.YtkcehgajpalgnaaDoor.base
open Go.Sh gen
variable {S : Sums} {m : Mem}
structure Sp (S : Sums) : Prop where
  nr : Nr S
  tw : Tw S
  hp : Hp S
  hr : Hr S
  left : S 49 = []
  does : S 33 = []
  step : S 12 = []
  ref : S 13 = []
structure Nx (M M1 : Ms) (ws ws1 : List Int) : Prop where
  ok : M1.ok
  wd : Wd ws1
  len : ws1.length = ws.length
  steps : M1.steps = M.steps + 1
  p0 : M.polls ≤ M1.polls
  p1 : M1.polls ≤ M.polls + 1
  pc0 : 0 ≤ M1.pc
  pc1 : M1.pc ≤ 1000001
def DoesTo (S : Sums) (M : Ms) (ws : List Int) (x : In5) (wish : Int) (M1 : Ms) (ws1 : List Int) : Prop := ∀ (m : Mem) (b f hb hf wb wf : Nat), MH m b f hb hf wb wf { M with pc := M.pc + 1, steps := M.steps + 1 } ws →
    ∃ v m1, callw Tryd.prog TT S 33 [.pointer (some ⟨b, 0, none⟩), .agg (icl x).toArray, .pointer (some ⟨hb, 0, none⟩), .int .i64 wish] m = some (v, m1) ∧ (MaAt m1 b f M1 ∧ HeapAt m1 hb hf wb wf ws1 100) ∧ Keeps m m1 [f, wf]
def RefTo (S : Sums) (M : Ms) (ws : List Int) (ls : List In5) (wish : Int) (M1 : Ms) (ws1 : List Int) : Prop := ∀ (m : Mem) (b f hb hf wb wf lf le : Nat) (lo : Option Addr), MR m b f hb hf wb wf M ws lo ls lf le →
    ∃ v m1, callw Tryd.prog TT S 13 [.pointer (some ⟨b, 0, none⟩), .slice lo ls.length ls.length, .pointer (some ⟨hb, 0, none⟩), .int .i64 wish] m = some (v, m1) ∧ (MaAt m1 b f M1 ∧ RefAt m1 hb hf wb wf ws1 100) ∧ Keeps m m1 [f, wf]
theorem putF_len (ws : List Int) (a v : Int) : (putF ws a v).length = ws.length := by
  unfold putF; split <;> simp
theorem putF_wd {ws : List Int} (h : Wd ws) (a : Int) {v : Int} (hv : wd v) : Wd (putF ws a v) := by
  unfold putF; split
  · exact h
  · exact wd_set h _ hv
theorem Wd.w {ws : List Int} (h : Wd ws) (i : Nat) : wd (ws.getD i 0) := h.at_ i
set_option maxHeartbeats 8000000 in
theorem joint (hS : Sp S) {M : Ms} {ws : List Int} {ls : List In5} (hok : M.ok) (hwd : Wd ws) (hll : ls.length ≤ 1000000) {p st : Nat} (hp : p < ls.length) (hpc : M.pc = (p : Int)) (hst : M.steps = (st : Int)) (hs2 : st ≤ 1000000) (hs0 : M.state = 0) (hpo : 0 ≤ M.polls ∧ M.polls ≤ 1000000) (hR : RightI ls[p] ls.length) (wish : Int) :
    ∃ M1 ws1, Nx M M1 ws ws1 ∧ DoesTo S M ws ls[p] wish M1 ws1 ∧ RefTo S M ws ls wish M1 ws1 := by
  obtain ⟨x, hx⟩ : ∃ x, ls[p] = x := ⟨_, rfl⟩
  rw [hx] at hR
  rw [hx]
  obtain ⟨o, a, b, c, n⟩ := x
  obtain ⟨h1, h2, h3, ⟨a0, a1, _⟩, ⟨b0, b1, _⟩, ⟨c0, c1, _⟩⟩ := id hR
  dsimp only at h1 h2 h3 a0 a1 b0 b1 c0 c1
  obtain ⟨ra, rfl⟩ := Int.eq_ofNat_of_zero_le a0
  obtain ⟨rb, rfl⟩ := Int.eq_ofNat_of_zero_le b0
  obtain ⟨rc, rfl⟩ := Int.eq_ofNat_of_zero_le c0
  have ha : ra < 16 := by omega
  have hb : rb < 16 := by omega
  have hc : rc < 16 := by omega
  clear a0 b0 c0 a1 b1 c1
  have okA : ({ M with pc := M.pc + 1, steps := M.steps + 1 } : Ms).ok := ⟨hok.r, hok.t, hok.wr, hok.wt⟩
  have wa := hok.wr.w ra
  have wb := hok.wr.w rb
  have wc := hok.wr.w rc
  have q1 : M.polls ≤ M.polls + 1 := by omega
  have pc0 : 0 ≤ M.pc + 1 := by omega
  have pc1 : M.pc + 1 ≤ 1000001 := by omega
  rcases (by omega : o = 1 ∨ o = 2 ∨ o = 3 ∨ o = 4 ∨ o = 5 ∨ o = 6 ∨ o = 7 ∨ o = 8 ∨ o = 9 ∨ o = 10 ∨ o = 11 ∨ o = 12 ∨ o = 13 ∨ o = 14 ∨ o = 15 ∨ o = 16 ∨ o = 17 ∨ o = 18 ∨ o = 19 ∨ o = 20 ∨ o = 21 ∨ o = 22 ∨ o = 23 ∨ o = 24 ∨ o = 25 ∨ o = 26 ∨ o = 27) with rfl | rfl | rfl | rfl | rfl | rfl | rfl | rfl | rfl | rfl | rfl | rfl | rfl | rfl | rfl | rfl | rfl | rfl | rfl | rfl | rfl | rfl | rfl | rfl | rfl | rfl | rfl
  · exact ⟨{ M with pc := M.pc + 1, steps := M.steps + 1, R := M.R.set ra (IntKind.u64.wrap n) }, ws, ⟨Ms.ok_reg okA ra (wd_wrap n), hwd, rfl, rfl, Int.le_refl _, q1, pc0, pc1⟩,
      fun m b f hb' hf wb' wf hX => does_Set hS.does hX ha hb hc n wish, fun m b f hb' hf wb' wf lf le lo hX => ref_Set hS.ref hS.nr hX hp hpc hst hs2 hs0 ha hb hc  hx hR wish⟩
  · exact ⟨{ M with pc := M.pc + 1, steps := M.steps + 1, R := M.R.set ra (M.R.getD rb 0) }, ws, ⟨Ms.ok_reg okA ra (wb), hwd, rfl, rfl, Int.le_refl _, q1, pc0, pc1⟩,
      fun m b f hb' hf wb' wf hX => does_Mov hS.does hX ha hb hc n wish, fun m b f hb' hf wb' wf lf le lo hX => ref_Mov hS.ref hS.nr hX hp hpc hst hs2 hs0 ha hb hc  hx hR wish⟩
  · have h4 : 0 ≤ n ∧ n < 400 := by simpa [numP] using h3
    obtain ⟨t, rfl⟩ := Int.eq_ofNat_of_zero_le h4.1
    have ht : t < 400 := by omega
    exact ⟨{ M with pc := M.pc + 1, steps := M.steps + 1, R := M.R.set ra (M.T.getD t 0) }, ws, ⟨Ms.ok_reg okA ra (hok.wt.w t), hwd, rfl, rfl, Int.le_refl _, q1, pc0, pc1⟩,
      fun m b f hb' hf wb' wf hX => does_Get hS.does hX ha hb hc ht wish, fun m b f hb' hf wb' wf lf le lo hX => ref_Get hS.ref hS.nr hX hp hpc hst hs2 hs0 ha hb hc ht hx hR wish⟩
  · have h4 : 0 ≤ n ∧ n < 400 := by simpa [numP] using h3
    obtain ⟨t, rfl⟩ := Int.eq_ofNat_of_zero_le h4.1
    have ht : t < 400 := by omega
    exact ⟨{ M with pc := M.pc + 1, steps := M.steps + 1, T := M.T.set t (M.R.getD ra 0) }, ws, ⟨Ms.ok_slot okA t wa, hwd, rfl, rfl, Int.le_refl _, q1, pc0, pc1⟩,
      fun m b f hb' hf wb' wf hX => does_Keep hS.does hX ha hb hc ht wish, fun m b f hb' hf wb' wf lf le lo hX => ref_Keep hS.ref hS.nr hX hp hpc hst hs2 hs0 ha hb hc ht hx hR wish⟩
  · obtain ⟨r, wr, hr1, hr2⟩ := tv_run hS.tw (k := 3) (by omega) wb wc
    exact ⟨{ M with pc := M.pc + 1, steps := M.steps + 1, R := M.R.set ra (r) }, ws, ⟨Ms.ok_reg okA ra (wr), hwd, rfl, rfl, Int.le_refl _, q1, pc0, pc1⟩,
      fun m b f hb' hf wb' wf hX => does_Add hS.does hX ha hb hc n hS.tw.op hr1 wish, fun m b f hb' hf wb' wf lf le lo hX => ref_Add hS.ref hS.nr hX hp hpc hst hs2 hs0 ha hb hc hS.tw.rop hr2 hx hR wish⟩
  · obtain ⟨r, wr, hr1, hr2⟩ := tv_run hS.tw (k := 4) (by omega) wb wc
    exact ⟨{ M with pc := M.pc + 1, steps := M.steps + 1, R := M.R.set ra (r) }, ws, ⟨Ms.ok_reg okA ra (wr), hwd, rfl, rfl, Int.le_refl _, q1, pc0, pc1⟩,
      fun m b f hb' hf wb' wf hX => does_Sub hS.does hX ha hb hc n hS.tw.op hr1 wish, fun m b f hb' hf wb' wf lf le lo hX => ref_Sub hS.ref hS.nr hX hp hpc hst hs2 hs0 ha hb hc hS.tw.rop hr2 hx hR wish⟩
  · obtain ⟨r, wr, hr1, hr2⟩ := tv_run hS.tw (k := 5) (by omega) wb wc
    exact ⟨{ M with pc := M.pc + 1, steps := M.steps + 1, R := M.R.set ra (r) }, ws, ⟨Ms.ok_reg okA ra (wr), hwd, rfl, rfl, Int.le_refl _, q1, pc0, pc1⟩,
      fun m b f hb' hf wb' wf hX => does_Mul hS.does hX ha hb hc n hS.tw.op hr1 wish, fun m b f hb' hf wb' wf lf le lo hX => ref_Mul hS.ref hS.nr hX hp hpc hst hs2 hs0 ha hb hc hS.tw.rop hr2 hx hR wish⟩
  · obtain ⟨r, wr, hr1, hr2⟩ := tv_run hS.tw (k := 6) (by omega) wb wc
    exact ⟨{ M with pc := M.pc + 1, steps := M.steps + 1, R := M.R.set ra (r) }, ws, ⟨Ms.ok_reg okA ra (wr), hwd, rfl, rfl, Int.le_refl _, q1, pc0, pc1⟩,
      fun m b f hb' hf wb' wf hX => does_Div hS.does hX ha hb hc n hS.tw.op hr1 wish, fun m b f hb' hf wb' wf lf le lo hX => ref_Div hS.ref hS.nr hX hp hpc hst hs2 hs0 ha hb hc hS.tw.rop hr2 hx hR wish⟩
  · obtain ⟨r, wr, hr1, hr2⟩ := tv_run hS.tw (k := 7) (by omega) wb wc
    exact ⟨{ M with pc := M.pc + 1, steps := M.steps + 1, R := M.R.set ra (r) }, ws, ⟨Ms.ok_reg okA ra (wr), hwd, rfl, rfl, Int.le_refl _, q1, pc0, pc1⟩,
      fun m b f hb' hf wb' wf hX => does_Rem hS.does hX ha hb hc n hS.tw.op hr1 wish, fun m b f hb' hf wb' wf lf le lo hX => ref_Rem hS.ref hS.nr hX hp hpc hst hs2 hs0 ha hb hc hS.tw.rop hr2 hx hR wish⟩
  · obtain ⟨r, wr, hr1, hr2⟩ := tv_run hS.tw (k := 8) (by omega) wb (b := 0) (by unfold wd; omega)
    exact ⟨{ M with pc := M.pc + 1, steps := M.steps + 1, R := M.R.set ra (r) }, ws, ⟨Ms.ok_reg okA ra (wr), hwd, rfl, rfl, Int.le_refl _, q1, pc0, pc1⟩,
      fun m b f hb' hf wb' wf hX => does_Neg hS.does hX ha hb hc n hS.tw.op hr1 wish, fun m b f hb' hf wb' wf lf le lo hX => ref_Neg hS.ref hS.nr hX hp hpc hst hs2 hs0 ha hb hc hS.tw.rop hr2 hx hR wish⟩
  · obtain ⟨r, wr, hr1, hr2⟩ := tv_run hS.tw (k := 9) (by omega) wb (b := 0) (by unfold wd; omega)
    exact ⟨{ M with pc := M.pc + 1, steps := M.steps + 1, R := M.R.set ra (r) }, ws, ⟨Ms.ok_reg okA ra (wr), hwd, rfl, rfl, Int.le_refl _, q1, pc0, pc1⟩,
      fun m b f hb' hf wb' wf hX => does_Not hS.does hX ha hb hc n hS.tw.op hr1 wish, fun m b f hb' hf wb' wf lf le lo hX => ref_Not hS.ref hS.nr hX hp hpc hst hs2 hs0 ha hb hc hS.tw.rop hr2 hx hR wish⟩
  · obtain ⟨r, wr, hr1, hr2⟩ := tv_run hS.tw (k := 10) (by omega) wb wc
    exact ⟨{ M with pc := M.pc + 1, steps := M.steps + 1, R := M.R.set ra (r) }, ws, ⟨Ms.ok_reg okA ra (wr), hwd, rfl, rfl, Int.le_refl _, q1, pc0, pc1⟩,
      fun m b f hb' hf wb' wf hX => does_Eq hS.does hX ha hb hc n hS.tw.op hr1 wish, fun m b f hb' hf wb' wf lf le lo hX => ref_Eq hS.ref hS.nr hX hp hpc hst hs2 hs0 ha hb hc hS.tw.rop hr2 hx hR wish⟩
  · obtain ⟨r, wr, hr1, hr2⟩ := tv_run hS.tw (k := 11) (by omega) wb wc
    exact ⟨{ M with pc := M.pc + 1, steps := M.steps + 1, R := M.R.set ra (r) }, ws, ⟨Ms.ok_reg okA ra (wr), hwd, rfl, rfl, Int.le_refl _, q1, pc0, pc1⟩,
      fun m b f hb' hf wb' wf hX => does_Ne hS.does hX ha hb hc n hS.tw.op hr1 wish, fun m b f hb' hf wb' wf lf le lo hX => ref_Ne hS.ref hS.nr hX hp hpc hst hs2 hs0 ha hb hc hS.tw.rop hr2 hx hR wish⟩
  · obtain ⟨r, wr, hr1, hr2⟩ := tv_run hS.tw (k := 12) (by omega) wb wc
    exact ⟨{ M with pc := M.pc + 1, steps := M.steps + 1, R := M.R.set ra (r) }, ws, ⟨Ms.ok_reg okA ra (wr), hwd, rfl, rfl, Int.le_refl _, q1, pc0, pc1⟩,
      fun m b f hb' hf wb' wf hX => does_Lt hS.does hX ha hb hc n hS.tw.op hr1 wish, fun m b f hb' hf wb' wf lf le lo hX => ref_Lt hS.ref hS.nr hX hp hpc hst hs2 hs0 ha hb hc hS.tw.rop hr2 hx hR wish⟩
  · obtain ⟨r, wr, hr1, hr2⟩ := tv_run hS.tw (k := 13) (by omega) wb wc
    exact ⟨{ M with pc := M.pc + 1, steps := M.steps + 1, R := M.R.set ra (r) }, ws, ⟨Ms.ok_reg okA ra (wr), hwd, rfl, rfl, Int.le_refl _, q1, pc0, pc1⟩,
      fun m b f hb' hf wb' wf hX => does_Le hS.does hX ha hb hc n hS.tw.op hr1 wish, fun m b f hb' hf wb' wf lf le lo hX => ref_Le hS.ref hS.nr hX hp hpc hst hs2 hs0 ha hb hc hS.tw.rop hr2 hx hR wish⟩
  · obtain ⟨r, wr, hr1, hr2⟩ := tv_run hS.tw (k := 14) (by omega) wb wc
    exact ⟨{ M with pc := M.pc + 1, steps := M.steps + 1, R := M.R.set ra (r) }, ws, ⟨Ms.ok_reg okA ra (wr), hwd, rfl, rfl, Int.le_refl _, q1, pc0, pc1⟩,
      fun m b f hb' hf wb' wf hX => does_Below hS.does hX ha hb hc n hS.tw.op hr1 wish, fun m b f hb' hf wb' wf lf le lo hX => ref_Below hS.ref hS.nr hX hp hpc hst hs2 hs0 ha hb hc hS.tw.rop hr2 hx hR wish⟩
  · exact ⟨{ M with pc := M.pc + 1, steps := M.steps + 1, R := M.R.set ra (IntKind.u64.wrap (ws.getD (M.R.getD rb 0).toNat 0 / 4294967296)) }, ws, ⟨Ms.ok_reg okA ra (wd_wrap _), hwd, rfl, rfl, Int.le_refl _, q1, pc0, pc1⟩,
      fun m b f hb' hf wb' wf hX => does_TypeOf hS.does hX ha hb hc hS.hp n wish, fun m b f hb' hf wb' wf lf le lo hX => ref_TypeOf hS.ref hS.nr hX hp hpc hst hs2 hs0 ha hb hc hS.hr hx hR wish⟩
  · exact ⟨{ M with pc := M.pc + 1, steps := M.steps + 1, R := M.R.set ra (IntKind.u64.wrap (ws.getD (M.R.getD rb 0).toNat 0 % 4294967296)) }, ws, ⟨Ms.ok_reg okA ra (wd_wrap _), hwd, rfl, rfl, Int.le_refl _, q1, pc0, pc1⟩,
      fun m b f hb' hf wb' wf hX => does_LenOf hS.does hX ha hb hc hS.hp n wish, fun m b f hb' hf wb' wf lf le lo hX => ref_LenOf hS.ref hS.nr hX hp hpc hst hs2 hs0 ha hb hc hS.hr hx hR wish⟩
  · exact ⟨{ M with pc := M.pc + 1, steps := M.steps + 1, R := M.R.set ra (ws.getD (IntKind.u64.wrap (M.R.getD rb 0 + IntKind.u64.wrap n)).toNat 0) }, ws, ⟨Ms.ok_reg okA ra (hwd.w _), hwd, rfl, rfl, Int.le_refl _, q1, pc0, pc1⟩,
      fun m b f hb' hf wb' wf hX => does_Word hS.does hX ha hb hc hS.hp n wish, fun m b f hb' hf wb' wf lf le lo hX => ref_Word hS.ref hS.nr hX hp hpc hst hs2 hs0 ha hb hc hS.hr hx hR wish⟩
  · exact ⟨{ M with pc := M.pc + 1, steps := M.steps + 1, R := M.R.set ra (ws.getD (IntKind.u64.wrap (IntKind.u64.wrap (M.R.getD rb 0 + 1) + M.R.getD rc 0)).toNat 0) }, ws, ⟨Ms.ok_reg okA ra (hwd.w _), hwd, rfl, rfl, Int.le_refl _, q1, pc0, pc1⟩,
      fun m b f hb' hf wb' wf hX => does_WordAt hS.does hX ha hb hc hS.hp n wish, fun m b f hb' hf wb' wf lf le lo hX => ref_WordAt hS.ref hS.nr hX hp hpc hst hs2 hs0 ha hb hc hS.hr hx hR wish⟩
  · exact ⟨{ M with pc := M.pc + 1, steps := M.steps + 1 }, putF ws (IntKind.u64.wrap (M.R.getD ra 0 + IntKind.u64.wrap n)) (M.R.getD rb 0), ⟨okA, putF_wd hwd _ wb, putF_len _ _ _, rfl, Int.le_refl _, q1, pc0, pc1⟩,
      fun m b f hb' hf wb' wf hX => does_Put hS.does hX ha hb hc hS.hp n wish, fun m b f hb' hf wb' wf lf le lo hX => ref_Put hS.ref hS.nr hX hp hpc hst hs2 hs0 ha hb hc hS.hr hx hR wish⟩
  · exact ⟨{ M with pc := M.pc + 1, steps := M.steps + 1 }, putF ws (IntKind.u64.wrap (IntKind.u64.wrap (M.R.getD ra 0 + 1) + M.R.getD rb 0)) (M.R.getD rc 0), ⟨okA, putF_wd hwd _ wc, putF_len _ _ _, rfl, Int.le_refl _, q1, pc0, pc1⟩,
      fun m b f hb' hf wb' wf hX => does_PutAt hS.does hX ha hb hc hS.hp n wish, fun m b f hb' hf wb' wf lf le lo hX => ref_PutAt hS.ref hS.nr hX hp hpc hst hs2 hs0 ha hb hc hS.hr hx hR wish⟩
  · have h4 : 0 ≤ n ∧ n ≤ ls.length := by simpa [numP] using h3
    have hn : -9223372036854775808 ≤ n ∧ n ≤ 9223372036854775807 := by omega
    exact ⟨{ M with pc := n, steps := M.steps + 1 }, ws, ⟨Ms.ok_pc okA n, hwd, rfl, rfl, Int.le_refl _, q1, h4.1, (by show n ≤ 1000001; omega)⟩,
      fun m b f hb' hf wb' wf hX => does_Jump hS.does hX ha hb hc hn wish, fun m b f hb' hf wb' wf lf le lo hX => ref_Jump hS.ref hS.nr hX hp hpc hst hs2 hs0 ha hb hc hn hx hR wish⟩
  · have h4 : 0 ≤ n ∧ n ≤ ls.length := by simpa [numP] using h3
    have hn : -9223372036854775808 ≤ n ∧ n ≤ 9223372036854775807 := by omega
    by_cases hz : M.R.getD ra 0 = 0
    · exact ⟨{ M with pc := n, steps := M.steps + 1 }, ws, ⟨Ms.ok_pc okA n, hwd, rfl, rfl, Int.le_refl _, q1, h4.1, (by show n ≤ 1000001; omega)⟩,
        fun m b f hb' hf wb' wf hX => does_JzYes hS.does hX ha hb hc hn hz wish, fun m b f hb' hf wb' wf lf le lo hX => ref_JzYes hS.ref hS.nr hX hp hpc hst hs2 hs0 ha hb hc hn hz hx hR wish⟩
    · exact ⟨{ M with pc := M.pc + 1, steps := M.steps + 1 }, ws, ⟨okA, hwd, rfl, rfl, Int.le_refl _, q1, pc0, pc1⟩,
        fun m b f hb' hf wb' wf hX => does_JzNo hS.does hX ha hb hc hn hz wish, fun m b f hb' hf wb' wf lf le lo hX => ref_JzNo hS.ref hS.nr hX hp hpc hst hs2 hs0 ha hb hc hn hz hx hR wish⟩
  · have h4 : 0 ≤ n ∧ n ≤ 1048576 := by simpa [numP] using h3
    have hn : -9223372036854775808 ≤ n ∧ n ≤ 9223372036854775807 := by omega
    by_cases hz : M.R.getD ra 0 = 0
    · exact ⟨{ M with pc := M.pc + 1, steps := M.steps + 1, state := 1, exit := n }, ws, ⟨Ms.ok_exit (Ms.ok_state okA 1) n, hwd, rfl, rfl, Int.le_refl _, q1, pc0, pc1⟩,
        fun m b f hb' hf wb' wf hX => does_GuardYes hS.does hX ha hb hc hn hS.left hz wish, fun m b f hb' hf wb' wf lf le lo hX => ref_GuardYes hS.ref hS.nr hX hp hpc hst hs2 hs0 ha hb hc hn hz hx hR wish⟩
    · exact ⟨{ M with pc := M.pc + 1, steps := M.steps + 1 }, ws, ⟨okA, hwd, rfl, rfl, Int.le_refl _, q1, pc0, pc1⟩,
        fun m b f hb' hf wb' wf hX => does_GuardNo hS.does hX ha hb hc hn hz wish, fun m b f hb' hf wb' wf lf le lo hX => ref_GuardNo hS.ref hS.nr hX hp hpc hst hs2 hs0 ha hb hc hn hz hx hR wish⟩
  · have h4 : 0 ≤ n ∧ n ≤ 1048576 := by simpa [numP] using h3
    have hn : -9223372036854775808 ≤ n ∧ n ≤ 9223372036854775807 := by omega
    have hpr : -9223372036854775808 ≤ M.polls + 1 ∧ M.polls + 1 ≤ 9223372036854775807 := by omega
    by_cases z1 : 0 ≤ wish
    · by_cases z2 : M.polls = wish
      · exact ⟨{ M with pc := M.pc + 1, steps := M.steps + 1, state := 1, exit := n }, ws, ⟨Ms.ok_exit (Ms.ok_state okA 1) n, hwd, rfl, rfl, Int.le_refl _, q1, pc0, pc1⟩,
          fun m b f hb' hf wb' wf hX => does_PollYes hS.does hX ha hb hc hn hS.left ⟨z1, z2⟩, fun m b f hb' hf wb' wf lf le lo hX => ref_PollYes hS.ref hS.nr hX hp hpc hst hs2 hs0 ha hb hc hn ⟨z1, z2⟩ hx hR⟩
      · exact ⟨{ M with pc := M.pc + 1, steps := M.steps + 1, polls := M.polls + 1 }, ws, ⟨Ms.ok_polls okA _, hwd, rfl, rfl, q1, Int.le_refl _, pc0, pc1⟩,
          fun m b f hb' hf wb' wf hX => does_PollNo hS.does hX ha hb hc hn hpr (fun h => z2 h.2), fun m b f hb' hf wb' wf lf le lo hX => ref_PollNoA hS.ref hS.nr hX hp hpc hst hs2 hs0 ha hb hc hn hpr z1 z2 hx hR⟩
    · exact ⟨{ M with pc := M.pc + 1, steps := M.steps + 1, polls := M.polls + 1 }, ws, ⟨Ms.ok_polls okA _, hwd, rfl, rfl, q1, Int.le_refl _, pc0, pc1⟩,
        fun m b f hb' hf wb' wf hX => does_PollNo hS.does hX ha hb hc hn hpr (fun h => z1 h.1), fun m b f hb' hf wb' wf lf le lo hX => ref_PollNoB hS.ref hS.nr hX hp hpc hst hs2 hs0 ha hb hc hn hpr z1 hx hR⟩
  · have h4 : 0 ≤ n ∧ n ≤ 1048576 := by simpa [numP] using h3
    have hn : -9223372036854775808 ≤ n ∧ n ≤ 9223372036854775807 := by omega
    exact ⟨{ M with pc := M.pc + 1, steps := M.steps + 1, state := 1, exit := n }, ws, ⟨Ms.ok_exit (Ms.ok_state okA 1) n, hwd, rfl, rfl, Int.le_refl _, q1, pc0, pc1⟩,
      fun m b f hb' hf wb' wf hX => does_Leave hS.does hX ha hb hc hn hS.left wish, fun m b f hb' hf wb' wf lf le lo hX => ref_Leave hS.ref hS.nr hX hp hpc hst hs2 hs0 ha hb hc hn hx hR wish⟩
variable {b f hb hf wb wf lf le : Nat} {M M1 : Ms} {ws ws1 : List Int} {lo : Option Addr} {ls : List In5}
structure MS (m : Mem) (b f hb hf wb wf : Nat) (M : Ms) (ws : List Int) (lo : Option Addr) (ls : List In5) (lf le : Nat) : Prop where
  hM : MaAt m b f M
  hH : HeapAt m hb hf wb wf ws 100
  hl : Rs m lo ls.length (icv ls) le 5 lf
  len : ls.length ≤ 1000000
  ok : M.ok
  wd : Wd ws
  le : ws.length ≤ 1000000
  n1 : ¬ hf = f
  n2 : ¬ wf = f
  n3 : ¬ lf = f
set_option maxHeartbeats 8000000 in
theorem step_good (hS : Sp S) (hX : MS m b f hb hf wb wf M ws lo ls lf le) {p st : Nat} (hp : p < ls.length) (hpc : M.pc = (p : Int)) (hst : M.steps = (st : Int)) (hs2 : st ≤ 1000000) (hs0 : M.state = 0) (hR : RightI ls[p] ls.length) (wish : Int) (hD : DoesTo S M ws ls[p] wish M1 ws1) :
    ∃ v m1, callw Tryd.prog TT S 12 [.pointer (some ⟨b, 0, none⟩), .slice lo ls.length ls.length, .pointer (some ⟨hb, 0, none⟩), .int .i64 wish] m = some (v, m1) ∧ (MaAt m1 b f M1 ∧ HeapAt m1 hb hf wb wf ws1 100) ∧ Keeps m m1 [f, wf] := by
  obtain ⟨hM, hH, hl, hll, hok, hwd, hle, n1, n2, n3'⟩ := hX
  obtain ⟨x, hx⟩ : ∃ x, ls[p] = x := ⟨_, rfl⟩
  rw [hx] at hR hD
  have s0 := hM.load1 (off := 419) (v := .int .i64 M.state) (Ms.scal hok 3)
  rw [hs0] at s0
  have p0 := hM.load1 (off := 416) (v := .int .i64 M.pc) (Ms.scal hok 0)
  rw [hpc] at p0
  obtain ⟨lb, hlo, ol⟩ := hl.rdo (by omega)
  have ld : loadRow m ⟨lb, p * 5, none⟩ 5 = some (icl x) := by rw [ol.load 5 (by rw [icv_len]; omega), icv_win hp, hx]
  have pp : (p : Int) < ls.length := by omega
  have ep : (p : Int) ≤ 9223372036854775807 := by omega
  have np : ¬ (p : Int) < 0 := by omega
  have nl : ¬ (ls.length : Int) ≤ p := by omega
  have hfm := hM.flt
  obtain ⟨o3, k3, n3⟩ := new_own (m := m) (cs := [.int .i64 0, .int .i64 0, .int .i64 0, .int .i64 0, .int .i64 0]) (e := 52) rfl
  have M3 := hM.keep k3 (by simp)
  have p3 := M3.load1 (off := 416) (v := .int .i64 M.pc) (Ms.scal hok 0)
  rw [hpc] at p3
  have ol3 := ol.keep k3 (by simp)
  have ldz : loadRow (m.new [.int .i64 0, .int .i64 0, .int .i64 0, .int .i64 0, .int .i64 0] 52) ⟨lb, p * 5, none⟩ 5 = some (icl x) := by rw [ol3.load 5 (by rw [icv_len]; omega), icv_win hp, hx]
  obtain ⟨m4, e4, o4, k4⟩ := store_own (r := _) rfl o3 (off := 0) (vs := icl x) (by simp) (by simp [one_int])
  simp [over] at o4
  have k34 := k3.fresh k4 (by simp)
  have M4 := hM.keep k34 (by simp)
  have x4 : loadRow m4 ⟨m.next, 0, none⟩ 5 = some (icl x) := by rw [o4.load 5 (by simp)]; rfl
  obtain ⟨_, mR, cR, ⟨bR, rfl, hbR⟩, kR⟩ := right_run (m := m4) hS.nr x (size := ls.length) (by omega)
  have hbt := hbR.2 hR
  subst hbt
  have MR := M4.keep kR (by simp)
  have oR := o4.keep kR (by simp)
  have xR : loadRow mR ⟨m.next, 0, none⟩ 5 = some (icl x) := by rw [oR.load 5 (by simp)]; rfl
  have pR := MR.load1 (off := 416) (v := .int .i64 M.pc) (Ms.scal hok 0)
  rw [hpc] at pR
  have hfR := MR.flt
  have wp : IntKind.i64.wrap ((p : Int) + 1) = (p : Int) + 1 := wrap_i64 (by omega) (by omega)
  have wst : IntKind.i64.wrap ((st : Int) + 1) = (st : Int) + 1 := wrap_i64 (by omega) (by omega)
  obtain ⟨m5, e5, o5, k5⟩ := store_own (r := _) rfl MR (off := 416) (vs := [.int .i64 ((p : Int) + 1)]) (by rw [Ms.len hok]; simp) (by simp [one_int])
  rw [Ms.opc hok] at o5
  have hok5 := Ms.ok_pc hok ((p : Int) + 1)
  have s5 := o5.load1 (off := 417) (v := .int .i64 M.steps) (Ms.scal hok5 1)
  rw [hst] at s5
  obtain ⟨m6, e6, o6, k6⟩ := store_own (r := _) rfl o5 (off := 417) (vs := [.int .i64 ((st : Int) + 1)]) (by rw [Ms.len hok5]; simp) (by simp [one_int])
  rw [Ms.osteps hok5] at o6
  have hok6 := Ms.ok_steps hok5 ((st : Int) + 1)
  have k56 := k5.trans k6
  have x6 := oR.keep k56 (by simp; omega)
  have q6 : loadRow m6 ⟨m.next, 0, none⟩ 5 = some (icl x) := by rw [x6.load 5 (by simp)]; rfl
  have H6 := ((hH.keep k34 (by simp) (by simp)).keep kR (by simp) (by simp)).keep k56 (by simpa using n1) (by simpa using n2)
  have k06 := ((k34.trans kR).nil (fs := [f, wf])).trans (k56.mono (by simp))
  have em : ({ M with pc := (p : Int) + 1, steps := (st : Int) + 1 } : Ms) = { M with pc := M.pc + 1, steps := M.steps + 1 } := by rw [hpc, hst]
  obtain ⟨v7, m7, c7, ⟨M7, H7⟩, k7⟩ := hD m6 b f hb hf wb wf ⟨by rw [← em]; exact o6, H6, by rw [← em]; exact hok6, hwd, hle, n1, n2⟩
  have x7 := x6.keep k7 (by have := H6.w.flt; have := hH.w.flt; simp; omega)
  have q7 : loadRow m7 ⟨m.next, 0, none⟩ 5 = some (icl x) := by rw [x7.load 5 (by simp)]; rfl
  refine fn_w 9 [13, 27, 46] k12 hS.step rfl ?_
  simp [-Int.natCast_add, -BitVec.toNat_or, -BitVec.toNat_ofInt, -BitVec.toNat_and, fieldAddr_of fa37_5, load_of ld3, fieldAddr_of fa37_2, len_slice u22, store_of sz3, index_slice u22 sz52, load_agg ld52, alloc_of zo52, store_of sz52, bin_ptr u27, fieldAddr_of fa37_3, hlo, s0, p0, hp, pp, ep, np, nl, ld, p3, ldz, e4, x4, cR, xR, pR, wp, e5, s5, wst, e6, q6, c7, q7]
  exact ⟨⟨M7, H7⟩, k06.trans k7⟩
set_option maxHeartbeats 8000000 in
theorem step_bad (hS : Sp S) (hX : MS m b f hb hf wb wf M ws lo ls lf le) (hpb : -9223372036854775808 ≤ M.pc ∧ M.pc ≤ 9223372036854775807) (hs0 : M.state = 0) (hR : ∀ p (hp : p < ls.length), M.pc = (p : Int) → ¬ RightI ls[p] ls.length) (wish : Int) :
    ∃ v m1, callw Tryd.prog TT S 12 [.pointer (some ⟨b, 0, none⟩), .slice lo ls.length ls.length, .pointer (some ⟨hb, 0, none⟩), .int .i64 wish] m = some (v, m1) ∧ (MaAt m1 b f { M with state := 2 } ∧ HeapAt m1 hb hf wb wf ws 100) ∧ Keeps m m1 [f, wf] := by
  obtain ⟨hM, hH, hl, hll, hok, hwd, hle, n1, n2, n3'⟩ := hX
  have s0 := hM.load1 (off := 419) (v := .int .i64 M.state) (Ms.scal hok 3)
  rw [hs0] at s0
  have p0 := hM.load1 (off := 416) (v := .int .i64 M.pc) (Ms.scal hok 0)
  by_cases hin : 0 ≤ M.pc ∧ M.pc < ls.length
  · obtain ⟨p, hpc⟩ := Int.eq_ofNat_of_zero_le hin.1
    have hp : p < ls.length := by omega
    have hR := hR p hp hpc
    obtain ⟨x, hx⟩ : ∃ x, ls[p] = x := ⟨_, rfl⟩
    rw [hx] at hR
    rw [hpc] at p0
    obtain ⟨lb, hlo, ol⟩ := hl.rdo (by omega)
    have ld : loadRow m ⟨lb, p * 5, none⟩ 5 = some (icl x) := by rw [ol.load 5 (by rw [icv_len]; omega), icv_win hp, hx]
    have pp : (p : Int) < ls.length := by omega
    have ep : (p : Int) ≤ 9223372036854775807 := by omega
    have np : ¬ (p : Int) < 0 := by omega
    have nl : ¬ (ls.length : Int) ≤ p := by omega
    have hfm := hM.flt
    obtain ⟨o3, k3, n3⟩ := new_own (m := m) (cs := [.int .i64 0, .int .i64 0, .int .i64 0, .int .i64 0, .int .i64 0]) (e := 52) rfl
    have M3 := hM.keep k3 (by simp)
    have p3 := M3.load1 (off := 416) (v := .int .i64 M.pc) (Ms.scal hok 0)
    rw [hpc] at p3
    have ol3 := ol.keep k3 (by simp)
    have ldz : loadRow (m.new [.int .i64 0, .int .i64 0, .int .i64 0, .int .i64 0, .int .i64 0] 52) ⟨lb, p * 5, none⟩ 5 = some (icl x) := by rw [ol3.load 5 (by rw [icv_len]; omega), icv_win hp, hx]
    obtain ⟨m4, e4, o4, k4⟩ := store_own (r := _) rfl o3 (off := 0) (vs := icl x) (by simp) (by simp [one_int])
    simp [over] at o4
    have k34 := k3.fresh k4 (by simp)
    have M4 := hM.keep k34 (by simp)
    have x4 : loadRow m4 ⟨m.next, 0, none⟩ 5 = some (icl x) := by rw [o4.load 5 (by simp)]; rfl
    obtain ⟨_, mR, cR, ⟨bR, rfl, hbR⟩, kR⟩ := right_run (m := m4) hS.nr x (size := ls.length) (by omega)
    have hbt : bR = false := by cases bR; rfl; exact absurd (hbR.1 rfl) hR
    subst hbt
    have MR := M4.keep kR (by simp)
    have oR := o4.keep kR (by simp)
    have xR : loadRow mR ⟨m.next, 0, none⟩ 5 = some (icl x) := by rw [oR.load 5 (by simp)]; rfl
    have hfR := MR.flt
    obtain ⟨m5, e5, o5, k5⟩ := store_own (r := _) rfl MR (off := 419) (vs := [.int .i64 2]) (by rw [Ms.len hok]; simp) (by simp [one_int])
    rw [Ms.ostate hok] at o5
    have H5 := ((hH.keep k34 (by simp) (by simp)).keep kR (by simp) (by simp)).keep k5 (by simpa using n1) (by simpa using n2)
    refine fn_w 9 [13, 27, 46] k12 hS.step rfl ?_
    simp [-Int.natCast_add, -BitVec.toNat_or, -BitVec.toNat_ofInt, -BitVec.toNat_and, fieldAddr_of fa37_5, load_of ld3, fieldAddr_of fa37_2, len_slice u22, store_of sz3, index_slice u22 sz52, load_agg ld52, alloc_of zo52, store_of sz52, bin_ptr u27, fieldAddr_of fa37_3, hlo, s0, p0, hp, pp, ep, np, nl, ld, p3, ldz, e4, x4, cR, xR, e5]
    exact ⟨⟨o5, H5⟩, ((k34.trans kR).nil (fs := [f, wf])).trans (k5.mono (by simp))⟩
  · have hpo : M.pc < 0 ∨ ls.length ≤ M.pc := by omega
    obtain ⟨m5, e5, o5, k5⟩ := store_own (r := _) rfl hM (off := 419) (vs := [.int .i64 2]) (by rw [Ms.len hok]; simp) (by simp [one_int])
    rw [Ms.ostate hok] at o5
    have H5 := hH.keep k5 (by simpa using n1) (by simpa using n2)
    refine fn_w 9 [13, 27, 46] k12 hS.step rfl ?_
    rcases hpo with h | h
    · simp [-Int.natCast_add, -BitVec.toNat_or, -BitVec.toNat_ofInt, -BitVec.toNat_and, fieldAddr_of fa37_5, load_of ld3, fieldAddr_of fa37_2, len_slice u22, store_of sz3, index_slice u22 sz52, load_agg ld52, alloc_of zo52, store_of sz52, bin_ptr u27, fieldAddr_of fa37_3, s0, p0, h, e5]
      exact ⟨⟨o5, H5⟩, k5.mono (by simp)⟩
    · have h0 : ¬ M.pc < 0 := by omega
      have h1 : ¬ M.pc < ls.length := by omega
      simp [-Int.natCast_add, -BitVec.toNat_or, -BitVec.toNat_ofInt, -BitVec.toNat_and, fieldAddr_of fa37_5, load_of ld3, fieldAddr_of fa37_2, len_slice u22, store_of sz3, index_slice u22 sz52, load_agg ld52, alloc_of zo52, store_of sz52, bin_ptr u27, fieldAddr_of fa37_3, s0, p0, h, h0, h1, e5]
      exact ⟨⟨o5, H5⟩, k5.mono (by simp)⟩
set_option maxHeartbeats 8000000 in
theorem ref_bad (hS : Sp S) (hX : MR m b f hb hf wb wf M ws lo ls lf le) (hpb : -9223372036854775808 ≤ M.pc ∧ M.pc ≤ 9223372036854775807) (hs0 : M.state = 0) (hR : ∀ p (hp : p < ls.length), M.pc = (p : Int) → ¬ RightI ls[p] ls.length) (wish : Int) :
    ∃ v m1, callw Tryd.prog TT S 13 [.pointer (some ⟨b, 0, none⟩), .slice lo ls.length ls.length, .pointer (some ⟨hb, 0, none⟩), .int .i64 wish] m = some (v, m1) ∧ (MaAt m1 b f { M with state := 2 } ∧ RefAt m1 hb hf wb wf ws 100) ∧ Keeps m m1 [f, wf] := by
  obtain ⟨hM, hH, hl, hll, hok, hwd, hle, n1, n2, n3'⟩ := hX
  have s0 := hM.load1 (off := 419) (v := .int .i64 M.state) (Ms.scal hok 3)
  rw [hs0] at s0
  have p0 := hM.load1 (off := 416) (v := .int .i64 M.pc) (Ms.scal hok 0)
  by_cases hin : 0 ≤ M.pc ∧ M.pc < ls.length
  · obtain ⟨p, hpc⟩ := Int.eq_ofNat_of_zero_le hin.1
    have hp : p < ls.length := by omega
    have hR := hR p hp hpc
    obtain ⟨x, hx⟩ : ∃ x, ls[p] = x := ⟨_, rfl⟩
    rw [hx] at hR
    rw [hpc] at p0
    obtain ⟨lb, hlo, ol⟩ := hl.rdo (by omega)
    have ld : loadRow m ⟨lb, p * 5, none⟩ 5 = some (icl x) := by rw [ol.load 5 (by rw [icv_len]; omega), icv_win hp, hx]
    have pp : (p : Int) < ls.length := by omega
    have ep : (p : Int) ≤ 9223372036854775807 := by omega
    have np : ¬ (p : Int) < 0 := by omega
    have nl : ¬ (ls.length : Int) ≤ p := by omega
    obtain ⟨_, mR, cR, ⟨bR, rfl, hbR⟩, kR⟩ := ins_run (m := m) hS.nr x (size := ls.length) (by omega)
    have hbt : bR = false := by cases bR; rfl; exact absurd (hbR.1 rfl) hR
    subst hbt
    have MR := hM.keep kR (by simp)
    have p1 := MR.load1 (off := 416) (v := .int .i64 M.pc) (Ms.scal hok 0)
    rw [hpc] at p1
    have olR := ol.keep kR (by simp)
    have ld1 : loadRow mR ⟨lb, p * 5, none⟩ 5 = some (icl x) := by rw [olR.load 5 (by rw [icv_len]; omega), icv_win hp, hx]
    obtain ⟨m5, e5, o5, k5⟩ := store_own (r := _) rfl MR (off := 419) (vs := [.int .i64 2]) (by rw [Ms.len hok]; simp) (by simp [one_int])
    rw [Ms.ostate hok] at o5
    have H5 := (hH.keep kR (by simp) (by simp)).keep k5 (by simpa using n1) (by simpa using n2)
    refine fn_w 71 [95, 105, 118, 132, 146, 162, 178, 197, 220, 240, 264, 271, 279, 285, 293, 302, 313, 329, 339, 339] k13 hS.ref rfl ?_
    simp [-Int.natCast_add, -BitVec.toNat_or, -BitVec.toNat_ofInt, -BitVec.toNat_and, fieldAddr_of fa37_5, load_of ld3, fieldAddr_of fa37_2, len_slice u22, index_slice u22 sz52, load_agg ld52, store_of sz3, alloc_of zo52, store_of sz52, fieldAddr_of fa37_0, fieldAddr_of fa37_3, fieldAddr_of fa52_0, fieldAddr_of fa52_1, fieldAddr_of fa52_4, load_of ld2, conv_i u2 u33, indexAddr_arr u34 sz33, store_of sz33, fieldAddr_of fa52_2, load_of ld33, fieldAddr_of fa37_1, indexAddr_arr u35 sz33, conv_i u3 u33, fieldAddr_of fa52_3, fieldAddr_of fa37_6, fieldAddr_of fa37_4, hlo, s0, p0, hp, pp, ep, np, nl, ld, cR, p1, ld1, e5]
    exact ⟨⟨o5, H5⟩, (kR.nil (fs := [f, wf])).trans (k5.mono (by simp))⟩
  · have hpo : M.pc < 0 ∨ ls.length ≤ M.pc := by omega
    obtain ⟨m5, e5, o5, k5⟩ := store_own (r := _) rfl hM (off := 419) (vs := [.int .i64 2]) (by rw [Ms.len hok]; simp) (by simp [one_int])
    rw [Ms.ostate hok] at o5
    have H5 := hH.keep k5 (by simpa using n1) (by simpa using n2)
    refine fn_w 71 [95, 105, 118, 132, 146, 162, 178, 197, 220, 240, 264, 271, 279, 285, 293, 302, 313, 329, 339, 339] k13 hS.ref rfl ?_
    rcases hpo with h | h
    · simp [-Int.natCast_add, -BitVec.toNat_or, -BitVec.toNat_ofInt, -BitVec.toNat_and, fieldAddr_of fa37_5, load_of ld3, fieldAddr_of fa37_2, len_slice u22, index_slice u22 sz52, load_agg ld52, store_of sz3, alloc_of zo52, store_of sz52, fieldAddr_of fa37_0, fieldAddr_of fa37_3, fieldAddr_of fa52_0, fieldAddr_of fa52_1, fieldAddr_of fa52_4, load_of ld2, conv_i u2 u33, indexAddr_arr u34 sz33, store_of sz33, fieldAddr_of fa52_2, load_of ld33, fieldAddr_of fa37_1, indexAddr_arr u35 sz33, conv_i u3 u33, fieldAddr_of fa52_3, fieldAddr_of fa37_6, fieldAddr_of fa37_4, s0, p0, h, e5]
      exact ⟨⟨o5, H5⟩, k5.mono (by simp)⟩
    · have h0 : ¬ M.pc < 0 := by omega
      have h1 : ¬ M.pc < ls.length := by omega
      simp [-Int.natCast_add, -BitVec.toNat_or, -BitVec.toNat_ofInt, -BitVec.toNat_and, fieldAddr_of fa37_5, load_of ld3, fieldAddr_of fa37_2, len_slice u22, index_slice u22 sz52, load_agg ld52, store_of sz3, alloc_of zo52, store_of sz52, fieldAddr_of fa37_0, fieldAddr_of fa37_3, fieldAddr_of fa52_0, fieldAddr_of fa52_1, fieldAddr_of fa52_4, load_of ld2, conv_i u2 u33, indexAddr_arr u34 sz33, store_of sz33, fieldAddr_of fa52_2, load_of ld33, fieldAddr_of fa37_1, indexAddr_arr u35 sz33, conv_i u3 u33, fieldAddr_of fa52_3, fieldAddr_of fa37_6, fieldAddr_of fa37_4, s0, p0, h, h0, h1, e5]
      exact ⟨⟨o5, H5⟩, k5.mono (by simp)⟩
structure Ny (M M1 : Ms) (ws ws1 : List Int) : Prop where
  ok : M1.ok
  wd : Wd ws1
  len : ws1.length = ws.length
  s0 : M.steps ≤ M1.steps
  s1 : M1.steps ≤ M.steps + 1
  p0 : M.polls ≤ M1.polls
  p1 : M1.polls ≤ M.polls + 1
  pc0 : -1 ≤ M1.pc
  pc1 : M1.pc ≤ 1000001
theorem step_both (hS : Sp S) (hok : M.ok) (hwd : Wd ws) (hll : ls.length ≤ 1000000) (hst : 0 ≤ M.steps ∧ M.steps ≤ 1000000) (hpo : 0 ≤ M.polls ∧ M.polls ≤ 1000000) (hpc : -1 ≤ M.pc ∧ M.pc ≤ 1000001) (hs0 : M.state = 0) (wish : Int) :
    ∃ M1 ws1, Ny M M1 ws ws1 ∧ (∀ (m : Mem) (b f hb hf wb wf lf le : Nat) (lo : Option Addr), MS m b f hb hf wb wf M ws lo ls lf le →
      ∃ v m1, callw Tryd.prog TT S 12 [.pointer (some ⟨b, 0, none⟩), .slice lo ls.length ls.length, .pointer (some ⟨hb, 0, none⟩), .int .i64 wish] m = some (v, m1) ∧ (MaAt m1 b f M1 ∧ HeapAt m1 hb hf wb wf ws1 100) ∧ Keeps m m1 [f, wf]) ∧ RefTo S M ws ls wish M1 ws1 := by
  by_cases hin : ∃ p, ∃ (hp : p < ls.length), M.pc = (p : Int) ∧ RightI ls[p] ls.length
  · obtain ⟨p, hp, h1, h2⟩ := hin
    obtain ⟨st, h3⟩ := Int.eq_ofNat_of_zero_le hst.1
    obtain ⟨M1, ws1, n, hD, hR⟩ := joint hS hok hwd hll hp h1 h3 (by omega) hs0 hpo h2 wish
    have ns := n.steps
    have np := n.pc0
    exact ⟨M1, ws1, ⟨n.ok, n.wd, n.len, by omega, by omega, n.p0, n.p1, by omega, n.pc1⟩, fun m b f hb hf wb wf lf le lo hX => step_good hS hX hp h1 h3 (by omega) hs0 h2 wish hD, hR⟩
  · have hR : ∀ p (hp : p < ls.length), M.pc = (p : Int) → ¬ RightI ls[p] ls.length := fun p hp h1 h2 => hin ⟨p, hp, h1, h2⟩
    exact ⟨{ M with state := 2 }, ws, ⟨Ms.ok_state hok 2, hwd, rfl, Int.le_refl _, by show M.steps ≤ M.steps + 1; omega, Int.le_refl _, by show M.polls ≤ M.polls + 1; omega, hpc.1, hpc.2⟩,
      fun m b f hb hf wb wf lf le lo hX => step_bad hS hX ⟨by omega, by omega⟩ hs0 hR wish, fun m b f hb hf wb wf lf le lo hX => ref_bad hS hX ⟨by omega, by omega⟩ hs0 hR wish⟩
end Go.Proofs.YtkcehgajpalgnaaDoor.base

