/-
  This text proves what the document's Step does to a machine, over the abstract run.
  Condition: nothing is known of their calls ahead ('S f = []').
-/
import Derived.Test.YtkcehgajpalgnaaDoorMacT
set_option maxRecDepth 100000
set_option linter.unusedSimpArgs false
set_option linter.unusedVariables false
namespace Go.Proofs.YtkcehgajpalgnaaDoor.base
open Go.Sh gen
variable {S : Sums} {m : Mem}
structure MR (m : Mem) (b f hb hf wb wf : Nat) (M : Ms) (ws : List Int) (lo : Option Addr) (ls : List In5) (lf le : Nat) : Prop where
  hM : MaAt m b f M
  hH : RefAt m hb hf wb wf ws 100
  hl : Rs m lo ls.length (icv ls) le 5 lf
  len : ls.length ≤ 1000000
  ok : M.ok
  wd : Wd ws
  le : ws.length ≤ 1000000
  n1 : ¬ hf = f
  n2 : ¬ wf = f
  n3 : ¬ lf = f
variable {b f hb hf wb wf lf le : Nat} {M : Ms} {ws : List Int} {lo : Option Addr} {ls : List In5}
set_option maxHeartbeats 8000000 in
theorem ref_Set (hS : S 13 = []) (hN : Nr S) (hX : MR m b f hb hf wb wf M ws lo ls lf le) {p st : Nat} (hp : p < ls.length) (hpc : M.pc = (p : Int)) (hst : M.steps = (st : Int)) (hs2 : st ≤ 1000000) (hs0 : M.state = 0) {ra rb rc : Nat} (ha : ra < 16) (hb' : rb < 16) (hc : rc < 16) {n : Int} (hx : ls[p] = (1, (ra : Int), (rb : Int), (rc : Int), n)) (hR : RightI (1, (ra : Int), (rb : Int), (rc : Int), n) ls.length) (wish : Int) :
    ∃ v m1, callw Tryd.prog TT S 13 [.pointer (some ⟨b, 0, none⟩), .slice lo ls.length ls.length, .pointer (some ⟨hb, 0, none⟩), .int .i64 wish] m = some (v, m1) ∧ (MaAt m1 b f { M with pc := M.pc + 1, steps := M.steps + 1, R := M.R.set ra (IntKind.u64.wrap n) } ∧ RefAt m1 hb hf wb wf (ws) 100) ∧ Keeps m m1 [f, wf] := by
  obtain ⟨hM, hH, hl, hll, hok, hwd, hle, n1, n2, n3'⟩ := hX
  have s0 := hM.load1 (off := 419) (v := .int .i64 M.state) (Ms.scal hok 3)
  rw [hs0] at s0
  have p0 := hM.load1 (off := 416) (v := .int .i64 M.pc) (Ms.scal hok 0)
  rw [hpc] at p0
  obtain ⟨lb, hlo, ol⟩ := hl.rdo (by omega)
  have ld : loadRow m ⟨lb, p * 5, none⟩ 5 = some (icl (1, (ra : Int), (rb : Int), (rc : Int), n)) := by rw [ol.load 5 (by rw [icv_len]; omega), icv_win hp, hx]
  obtain ⟨_, mR, cR, ⟨bR, rfl, hbR⟩, kR⟩ := ins_run (m := m) hN (1, (ra : Int), (rb : Int), (rc : Int), n) (size := ls.length) (by omega)
  have hbt := hbR.2 hR
  subst hbt
  have MR := hM.keep kR (by simp)
  have p1 := MR.load1 (off := 416) (v := .int .i64 M.pc) (Ms.scal hok 0)
  rw [hpc] at p1
  have olR := ol.keep kR (by simp)
  have ld1 : loadRow mR ⟨lb, p * 5, none⟩ 5 = some (icl (1, (ra : Int), (rb : Int), (rc : Int), n)) := by rw [olR.load 5 (by rw [icv_len]; omega), icv_win hp, hx]
  have pp : (p : Int) < ls.length := by omega
  have ep : (p : Int) ≤ 9223372036854775807 := by omega
  have np : ¬ (p : Int) < 0 := by omega
  have nl : ¬ (ls.length : Int) ≤ p := by omega
  have hfm := hM.flt
  have hfR := MR.flt
  obtain ⟨o3, k3, n3⟩ := new_own (m := mR) (cs := [.int .i64 0, .int .i64 0, .int .i64 0, .int .i64 0, .int .i64 0]) (e := 52) rfl
  obtain ⟨m4, e4, o4, k4⟩ := store_own (r := _) rfl o3 (off := 0) (vs := icl (1, (ra : Int), (rb : Int), (rc : Int), n)) (by simp) (by simp [one_int])
  simp [over] at o4
  have k34 := k3.fresh k4 (by simp)
  have M4 := MR.keep k34 (by simp)
  have p4 := M4.load1 (off := 416) (v := .int .i64 M.pc) (Ms.scal hok 0)
  rw [hpc] at p4
  have wp : IntKind.i64.wrap ((p : Int) + 1) = (p : Int) + 1 := wrap_i64 (by omega) (by omega)
  have wst : IntKind.i64.wrap ((st : Int) + 1) = (st : Int) + 1 := wrap_i64 (by omega) (by omega)
  obtain ⟨m5, e5, o5, k5⟩ := store_own (r := _) rfl M4 (off := 416) (vs := [.int .i64 ((p : Int) + 1)]) (by rw [Ms.len hok]; simp) (by simp [one_int])
  rw [Ms.opc hok] at o5
  have hok5 := Ms.ok_pc hok ((p : Int) + 1)
  have s5 := o5.load1 (off := 417) (v := .int .i64 M.steps) (Ms.scal hok5 1)
  rw [hst] at s5
  obtain ⟨m6, e6, o6, k6⟩ := store_own (r := _) rfl o5 (off := 417) (vs := [.int .i64 ((st : Int) + 1)]) (by rw [Ms.len hok5]; simp) (by simp [one_int])
  rw [Ms.osteps hok5] at o6
  have hok6 := Ms.ok_steps hok5 ((st : Int) + 1)
  have k56 := k5.trans k6
  have x6 := o4.keep k56 (by simp; omega)
  have q0 := x6.load1 (off := 0) rfl
  have q1 := x6.load1 (off := 1) rfl
  have q2 := x6.load1 (off := 2) rfl
  have q3 := x6.load1 (off := 3) rfl
  have q4 := x6.load1 (off := 4) rfl
  have la := o6.load1 (off := ra) (Ms.reg hok6 ha)
  have lb' := o6.load1 (off := rb) (Ms.reg hok6 hb')
  have lc := o6.load1 (off := rc) (Ms.reg hok6 hc)
  generalize hva : M.R.getD ra 0 = va at *
  generalize hvb : M.R.getD rb 0 = vb at *
  generalize hvc : M.R.getD rc 0 = vc at *
  have ea : (ra : Int) ≤ 9223372036854775807 := by omega
  have eb : (rb : Int) ≤ 9223372036854775807 := by omega
  have ec : (rc : Int) ≤ 9223372036854775807 := by omega
  have H6 := ((hH.keep kR (by simp) (by simp)).keep k34 (by simp) (by simp)).keep k56 (by simpa using n1) (by simpa using n2)
  have k06 := ((kR.trans k34).nil (fs := [f, wf])).trans (k56.mono (by simp))
  obtain ⟨m7, e7, o7, k7⟩ := store_own (r := _) rfl o6 (off := ra) (vs := [.int .u64 (IntKind.u64.wrap n)]) (by rw [Ms.len hok6]; simp; try omega) (by simp [one_int])
  rw [Ms.oreg hok6 ha] at o7
  have q1s := (x6.keep k7 (by simp; omega)).load1 (off := 1) rfl
  have q4s := (x6.keep k7 (by simp; omega)).load1 (off := 4) rfl
  refine fn_w 71 [95, 105, 118, 132, 146, 162, 178, 197, 220, 240, 264, 271, 279, 285, 293, 302, 313, 329, 339, 339] k13 hS rfl ?_
  simp [-Int.natCast_add, -BitVec.toNat_or, -BitVec.toNat_ofInt, -BitVec.toNat_and, fieldAddr_of fa37_5, load_of ld3, fieldAddr_of fa37_2, len_slice u22, index_slice u22 sz52, load_agg ld52, store_of sz3, alloc_of zo52, store_of sz52, fieldAddr_of fa37_0, fieldAddr_of fa37_3, fieldAddr_of fa52_0, fieldAddr_of fa52_1, fieldAddr_of fa52_4, load_of ld2, conv_i u2 u33, indexAddr_arr u34 sz33, store_of sz33, fieldAddr_of fa52_2, load_of ld33, fieldAddr_of fa37_1, indexAddr_arr u35 sz33, conv_i u3 u33, fieldAddr_of fa52_3, fieldAddr_of fa37_6, fieldAddr_of fa37_4, hlo, s0, p0, hp, pp, ep, np, nl, ld, cR, p1, ld1, e4, p4, wp, e5, s5, wst, e6, q0, q1, q2, q3, q4, la, lb', lc, ha, hb', hc, ea, eb, ec, e7, q1s, q4s]
  rw [hpc, hst]
  exact ⟨⟨o7, H6.keep k7 (by simpa using n1) (by simpa using n2)⟩, k06.trans (k7.mono (by simp))⟩
set_option maxHeartbeats 8000000 in
theorem ref_Mov (hS : S 13 = []) (hN : Nr S) (hX : MR m b f hb hf wb wf M ws lo ls lf le) {p st : Nat} (hp : p < ls.length) (hpc : M.pc = (p : Int)) (hst : M.steps = (st : Int)) (hs2 : st ≤ 1000000) (hs0 : M.state = 0) {ra rb rc : Nat} (ha : ra < 16) (hb' : rb < 16) (hc : rc < 16) {n : Int} (hx : ls[p] = (2, (ra : Int), (rb : Int), (rc : Int), n)) (hR : RightI (2, (ra : Int), (rb : Int), (rc : Int), n) ls.length) (wish : Int) :
    ∃ v m1, callw Tryd.prog TT S 13 [.pointer (some ⟨b, 0, none⟩), .slice lo ls.length ls.length, .pointer (some ⟨hb, 0, none⟩), .int .i64 wish] m = some (v, m1) ∧ (MaAt m1 b f { M with pc := M.pc + 1, steps := M.steps + 1, R := M.R.set ra (M.R.getD rb 0) } ∧ RefAt m1 hb hf wb wf (ws) 100) ∧ Keeps m m1 [f, wf] := by
  obtain ⟨hM, hH, hl, hll, hok, hwd, hle, n1, n2, n3'⟩ := hX
  have s0 := hM.load1 (off := 419) (v := .int .i64 M.state) (Ms.scal hok 3)
  rw [hs0] at s0
  have p0 := hM.load1 (off := 416) (v := .int .i64 M.pc) (Ms.scal hok 0)
  rw [hpc] at p0
  obtain ⟨lb, hlo, ol⟩ := hl.rdo (by omega)
  have ld : loadRow m ⟨lb, p * 5, none⟩ 5 = some (icl (2, (ra : Int), (rb : Int), (rc : Int), n)) := by rw [ol.load 5 (by rw [icv_len]; omega), icv_win hp, hx]
  obtain ⟨_, mR, cR, ⟨bR, rfl, hbR⟩, kR⟩ := ins_run (m := m) hN (2, (ra : Int), (rb : Int), (rc : Int), n) (size := ls.length) (by omega)
  have hbt := hbR.2 hR
  subst hbt
  have MR := hM.keep kR (by simp)
  have p1 := MR.load1 (off := 416) (v := .int .i64 M.pc) (Ms.scal hok 0)
  rw [hpc] at p1
  have olR := ol.keep kR (by simp)
  have ld1 : loadRow mR ⟨lb, p * 5, none⟩ 5 = some (icl (2, (ra : Int), (rb : Int), (rc : Int), n)) := by rw [olR.load 5 (by rw [icv_len]; omega), icv_win hp, hx]
  have pp : (p : Int) < ls.length := by omega
  have ep : (p : Int) ≤ 9223372036854775807 := by omega
  have np : ¬ (p : Int) < 0 := by omega
  have nl : ¬ (ls.length : Int) ≤ p := by omega
  have hfm := hM.flt
  have hfR := MR.flt
  obtain ⟨o3, k3, n3⟩ := new_own (m := mR) (cs := [.int .i64 0, .int .i64 0, .int .i64 0, .int .i64 0, .int .i64 0]) (e := 52) rfl
  obtain ⟨m4, e4, o4, k4⟩ := store_own (r := _) rfl o3 (off := 0) (vs := icl (2, (ra : Int), (rb : Int), (rc : Int), n)) (by simp) (by simp [one_int])
  simp [over] at o4
  have k34 := k3.fresh k4 (by simp)
  have M4 := MR.keep k34 (by simp)
  have p4 := M4.load1 (off := 416) (v := .int .i64 M.pc) (Ms.scal hok 0)
  rw [hpc] at p4
  have wp : IntKind.i64.wrap ((p : Int) + 1) = (p : Int) + 1 := wrap_i64 (by omega) (by omega)
  have wst : IntKind.i64.wrap ((st : Int) + 1) = (st : Int) + 1 := wrap_i64 (by omega) (by omega)
  obtain ⟨m5, e5, o5, k5⟩ := store_own (r := _) rfl M4 (off := 416) (vs := [.int .i64 ((p : Int) + 1)]) (by rw [Ms.len hok]; simp) (by simp [one_int])
  rw [Ms.opc hok] at o5
  have hok5 := Ms.ok_pc hok ((p : Int) + 1)
  have s5 := o5.load1 (off := 417) (v := .int .i64 M.steps) (Ms.scal hok5 1)
  rw [hst] at s5
  obtain ⟨m6, e6, o6, k6⟩ := store_own (r := _) rfl o5 (off := 417) (vs := [.int .i64 ((st : Int) + 1)]) (by rw [Ms.len hok5]; simp) (by simp [one_int])
  rw [Ms.osteps hok5] at o6
  have hok6 := Ms.ok_steps hok5 ((st : Int) + 1)
  have k56 := k5.trans k6
  have x6 := o4.keep k56 (by simp; omega)
  have q0 := x6.load1 (off := 0) rfl
  have q1 := x6.load1 (off := 1) rfl
  have q2 := x6.load1 (off := 2) rfl
  have q3 := x6.load1 (off := 3) rfl
  have q4 := x6.load1 (off := 4) rfl
  have la := o6.load1 (off := ra) (Ms.reg hok6 ha)
  have lb' := o6.load1 (off := rb) (Ms.reg hok6 hb')
  have lc := o6.load1 (off := rc) (Ms.reg hok6 hc)
  generalize hva : M.R.getD ra 0 = va at *
  generalize hvb : M.R.getD rb 0 = vb at *
  generalize hvc : M.R.getD rc 0 = vc at *
  have ea : (ra : Int) ≤ 9223372036854775807 := by omega
  have eb : (rb : Int) ≤ 9223372036854775807 := by omega
  have ec : (rc : Int) ≤ 9223372036854775807 := by omega
  have H6 := ((hH.keep kR (by simp) (by simp)).keep k34 (by simp) (by simp)).keep k56 (by simpa using n1) (by simpa using n2)
  have k06 := ((kR.trans k34).nil (fs := [f, wf])).trans (k56.mono (by simp))
  try rw [hvb]
  obtain ⟨m7, e7, o7, k7⟩ := store_own (r := _) rfl o6 (off := ra) (vs := [.int .u64 (vb)]) (by rw [Ms.len hok6]; simp; try omega) (by simp [one_int])
  rw [Ms.oreg hok6 ha] at o7
  have q1s := (x6.keep k7 (by simp; omega)).load1 (off := 1) rfl
  have q4s := (x6.keep k7 (by simp; omega)).load1 (off := 4) rfl
  refine fn_w 71 [95, 105, 118, 132, 146, 162, 178, 197, 220, 240, 264, 271, 279, 285, 293, 302, 313, 329, 339, 339] k13 hS rfl ?_
  simp [-Int.natCast_add, -BitVec.toNat_or, -BitVec.toNat_ofInt, -BitVec.toNat_and, fieldAddr_of fa37_5, load_of ld3, fieldAddr_of fa37_2, len_slice u22, index_slice u22 sz52, load_agg ld52, store_of sz3, alloc_of zo52, store_of sz52, fieldAddr_of fa37_0, fieldAddr_of fa37_3, fieldAddr_of fa52_0, fieldAddr_of fa52_1, fieldAddr_of fa52_4, load_of ld2, conv_i u2 u33, indexAddr_arr u34 sz33, store_of sz33, fieldAddr_of fa52_2, load_of ld33, fieldAddr_of fa37_1, indexAddr_arr u35 sz33, conv_i u3 u33, fieldAddr_of fa52_3, fieldAddr_of fa37_6, fieldAddr_of fa37_4, hlo, s0, p0, hp, pp, ep, np, nl, ld, cR, p1, ld1, e4, p4, wp, e5, s5, wst, e6, q0, q1, q2, q3, q4, la, lb', lc, ha, hb', hc, ea, eb, ec, e7, q1s, q4s]
  rw [hpc, hst]
  exact ⟨⟨o7, H6.keep k7 (by simpa using n1) (by simpa using n2)⟩, k06.trans (k7.mono (by simp))⟩
set_option maxHeartbeats 8000000 in
theorem ref_Get (hS : S 13 = []) (hN : Nr S) (hX : MR m b f hb hf wb wf M ws lo ls lf le) {p st : Nat} (hp : p < ls.length) (hpc : M.pc = (p : Int)) (hst : M.steps = (st : Int)) (hs2 : st ≤ 1000000) (hs0 : M.state = 0) {ra rb rc : Nat} (ha : ra < 16) (hb' : rb < 16) (hc : rc < 16) {n : Nat} (hn : n < 400) (hx : ls[p] = (3, (ra : Int), (rb : Int), (rc : Int), (n : Int))) (hR : RightI (3, (ra : Int), (rb : Int), (rc : Int), (n : Int)) ls.length) (wish : Int) :
    ∃ v m1, callw Tryd.prog TT S 13 [.pointer (some ⟨b, 0, none⟩), .slice lo ls.length ls.length, .pointer (some ⟨hb, 0, none⟩), .int .i64 wish] m = some (v, m1) ∧ (MaAt m1 b f { M with pc := M.pc + 1, steps := M.steps + 1, R := M.R.set ra (M.T.getD n 0) } ∧ RefAt m1 hb hf wb wf (ws) 100) ∧ Keeps m m1 [f, wf] := by
  obtain ⟨hM, hH, hl, hll, hok, hwd, hle, n1, n2, n3'⟩ := hX
  have s0 := hM.load1 (off := 419) (v := .int .i64 M.state) (Ms.scal hok 3)
  rw [hs0] at s0
  have p0 := hM.load1 (off := 416) (v := .int .i64 M.pc) (Ms.scal hok 0)
  rw [hpc] at p0
  obtain ⟨lb, hlo, ol⟩ := hl.rdo (by omega)
  have ld : loadRow m ⟨lb, p * 5, none⟩ 5 = some (icl (3, (ra : Int), (rb : Int), (rc : Int), (n : Int))) := by rw [ol.load 5 (by rw [icv_len]; omega), icv_win hp, hx]
  obtain ⟨_, mR, cR, ⟨bR, rfl, hbR⟩, kR⟩ := ins_run (m := m) hN (3, (ra : Int), (rb : Int), (rc : Int), (n : Int)) (size := ls.length) (by omega)
  have hbt := hbR.2 hR
  subst hbt
  have MR := hM.keep kR (by simp)
  have p1 := MR.load1 (off := 416) (v := .int .i64 M.pc) (Ms.scal hok 0)
  rw [hpc] at p1
  have olR := ol.keep kR (by simp)
  have ld1 : loadRow mR ⟨lb, p * 5, none⟩ 5 = some (icl (3, (ra : Int), (rb : Int), (rc : Int), (n : Int))) := by rw [olR.load 5 (by rw [icv_len]; omega), icv_win hp, hx]
  have pp : (p : Int) < ls.length := by omega
  have ep : (p : Int) ≤ 9223372036854775807 := by omega
  have np : ¬ (p : Int) < 0 := by omega
  have nl : ¬ (ls.length : Int) ≤ p := by omega
  have hfm := hM.flt
  have hfR := MR.flt
  obtain ⟨o3, k3, n3⟩ := new_own (m := mR) (cs := [.int .i64 0, .int .i64 0, .int .i64 0, .int .i64 0, .int .i64 0]) (e := 52) rfl
  obtain ⟨m4, e4, o4, k4⟩ := store_own (r := _) rfl o3 (off := 0) (vs := icl (3, (ra : Int), (rb : Int), (rc : Int), (n : Int))) (by simp) (by simp [one_int])
  simp [over] at o4
  have k34 := k3.fresh k4 (by simp)
  have M4 := MR.keep k34 (by simp)
  have p4 := M4.load1 (off := 416) (v := .int .i64 M.pc) (Ms.scal hok 0)
  rw [hpc] at p4
  have wp : IntKind.i64.wrap ((p : Int) + 1) = (p : Int) + 1 := wrap_i64 (by omega) (by omega)
  have wst : IntKind.i64.wrap ((st : Int) + 1) = (st : Int) + 1 := wrap_i64 (by omega) (by omega)
  obtain ⟨m5, e5, o5, k5⟩ := store_own (r := _) rfl M4 (off := 416) (vs := [.int .i64 ((p : Int) + 1)]) (by rw [Ms.len hok]; simp) (by simp [one_int])
  rw [Ms.opc hok] at o5
  have hok5 := Ms.ok_pc hok ((p : Int) + 1)
  have s5 := o5.load1 (off := 417) (v := .int .i64 M.steps) (Ms.scal hok5 1)
  rw [hst] at s5
  obtain ⟨m6, e6, o6, k6⟩ := store_own (r := _) rfl o5 (off := 417) (vs := [.int .i64 ((st : Int) + 1)]) (by rw [Ms.len hok5]; simp) (by simp [one_int])
  rw [Ms.osteps hok5] at o6
  have hok6 := Ms.ok_steps hok5 ((st : Int) + 1)
  have k56 := k5.trans k6
  have x6 := o4.keep k56 (by simp; omega)
  have q0 := x6.load1 (off := 0) rfl
  have q1 := x6.load1 (off := 1) rfl
  have q2 := x6.load1 (off := 2) rfl
  have q3 := x6.load1 (off := 3) rfl
  have q4 := x6.load1 (off := 4) rfl
  have la := o6.load1 (off := ra) (Ms.reg hok6 ha)
  have lb' := o6.load1 (off := rb) (Ms.reg hok6 hb')
  have lc := o6.load1 (off := rc) (Ms.reg hok6 hc)
  generalize hva : M.R.getD ra 0 = va at *
  generalize hvb : M.R.getD rb 0 = vb at *
  generalize hvc : M.R.getD rc 0 = vc at *
  have ea : (ra : Int) ≤ 9223372036854775807 := by omega
  have eb : (rb : Int) ≤ 9223372036854775807 := by omega
  have ec : (rc : Int) ≤ 9223372036854775807 := by omega
  have H6 := ((hH.keep kR (by simp) (by simp)).keep k34 (by simp) (by simp)).keep k56 (by simpa using n1) (by simpa using n2)
  have k06 := ((kR.trans k34).nil (fs := [f, wf])).trans (k56.mono (by simp))
  have ls' := o6.load1 (off := 16 + n) (Ms.slot hok6 hn)
  have en : (n : Int) ≤ 9223372036854775807 := by omega
  generalize hvt : M.T.getD n 0 = vt at *
  obtain ⟨m7, e7, o7, k7⟩ := store_own (r := _) rfl o6 (off := ra) (vs := [.int .u64 (vt)]) (by rw [Ms.len hok6]; simp; try omega) (by simp [one_int])
  rw [Ms.oreg hok6 ha] at o7
  have q1s := (x6.keep k7 (by simp; omega)).load1 (off := 1) rfl
  have q4s := (x6.keep k7 (by simp; omega)).load1 (off := 4) rfl
  refine fn_w 71 [95, 105, 118, 132, 146, 162, 178, 197, 220, 240, 264, 271, 279, 285, 293, 302, 313, 329, 339, 339] k13 hS rfl ?_
  simp [-Int.natCast_add, -BitVec.toNat_or, -BitVec.toNat_ofInt, -BitVec.toNat_and, fieldAddr_of fa37_5, load_of ld3, fieldAddr_of fa37_2, len_slice u22, index_slice u22 sz52, load_agg ld52, store_of sz3, alloc_of zo52, store_of sz52, fieldAddr_of fa37_0, fieldAddr_of fa37_3, fieldAddr_of fa52_0, fieldAddr_of fa52_1, fieldAddr_of fa52_4, load_of ld2, conv_i u2 u33, indexAddr_arr u34 sz33, store_of sz33, fieldAddr_of fa52_2, load_of ld33, fieldAddr_of fa37_1, indexAddr_arr u35 sz33, conv_i u3 u33, fieldAddr_of fa52_3, fieldAddr_of fa37_6, fieldAddr_of fa37_4, hlo, s0, p0, hp, pp, ep, np, nl, ld, cR, p1, ld1, e4, p4, wp, e5, s5, wst, e6, q0, q1, q2, q3, q4, la, lb', lc, ha, hb', hc, ea, eb, ec, ls', hn, en, e7, q1s, q4s]
  rw [hpc, hst]
  exact ⟨⟨o7, H6.keep k7 (by simpa using n1) (by simpa using n2)⟩, k06.trans (k7.mono (by simp))⟩
set_option maxHeartbeats 8000000 in
theorem ref_Keep (hS : S 13 = []) (hN : Nr S) (hX : MR m b f hb hf wb wf M ws lo ls lf le) {p st : Nat} (hp : p < ls.length) (hpc : M.pc = (p : Int)) (hst : M.steps = (st : Int)) (hs2 : st ≤ 1000000) (hs0 : M.state = 0) {ra rb rc : Nat} (ha : ra < 16) (hb' : rb < 16) (hc : rc < 16) {n : Nat} (hn : n < 400) (hx : ls[p] = (4, (ra : Int), (rb : Int), (rc : Int), (n : Int))) (hR : RightI (4, (ra : Int), (rb : Int), (rc : Int), (n : Int)) ls.length) (wish : Int) :
    ∃ v m1, callw Tryd.prog TT S 13 [.pointer (some ⟨b, 0, none⟩), .slice lo ls.length ls.length, .pointer (some ⟨hb, 0, none⟩), .int .i64 wish] m = some (v, m1) ∧ (MaAt m1 b f { M with pc := M.pc + 1, steps := M.steps + 1, T := M.T.set n (M.R.getD ra 0) } ∧ RefAt m1 hb hf wb wf (ws) 100) ∧ Keeps m m1 [f, wf] := by
  obtain ⟨hM, hH, hl, hll, hok, hwd, hle, n1, n2, n3'⟩ := hX
  have s0 := hM.load1 (off := 419) (v := .int .i64 M.state) (Ms.scal hok 3)
  rw [hs0] at s0
  have p0 := hM.load1 (off := 416) (v := .int .i64 M.pc) (Ms.scal hok 0)
  rw [hpc] at p0
  obtain ⟨lb, hlo, ol⟩ := hl.rdo (by omega)
  have ld : loadRow m ⟨lb, p * 5, none⟩ 5 = some (icl (4, (ra : Int), (rb : Int), (rc : Int), (n : Int))) := by rw [ol.load 5 (by rw [icv_len]; omega), icv_win hp, hx]
  obtain ⟨_, mR, cR, ⟨bR, rfl, hbR⟩, kR⟩ := ins_run (m := m) hN (4, (ra : Int), (rb : Int), (rc : Int), (n : Int)) (size := ls.length) (by omega)
  have hbt := hbR.2 hR
  subst hbt
  have MR := hM.keep kR (by simp)
  have p1 := MR.load1 (off := 416) (v := .int .i64 M.pc) (Ms.scal hok 0)
  rw [hpc] at p1
  have olR := ol.keep kR (by simp)
  have ld1 : loadRow mR ⟨lb, p * 5, none⟩ 5 = some (icl (4, (ra : Int), (rb : Int), (rc : Int), (n : Int))) := by rw [olR.load 5 (by rw [icv_len]; omega), icv_win hp, hx]
  have pp : (p : Int) < ls.length := by omega
  have ep : (p : Int) ≤ 9223372036854775807 := by omega
  have np : ¬ (p : Int) < 0 := by omega
  have nl : ¬ (ls.length : Int) ≤ p := by omega
  have hfm := hM.flt
  have hfR := MR.flt
  obtain ⟨o3, k3, n3⟩ := new_own (m := mR) (cs := [.int .i64 0, .int .i64 0, .int .i64 0, .int .i64 0, .int .i64 0]) (e := 52) rfl
  obtain ⟨m4, e4, o4, k4⟩ := store_own (r := _) rfl o3 (off := 0) (vs := icl (4, (ra : Int), (rb : Int), (rc : Int), (n : Int))) (by simp) (by simp [one_int])
  simp [over] at o4
  have k34 := k3.fresh k4 (by simp)
  have M4 := MR.keep k34 (by simp)
  have p4 := M4.load1 (off := 416) (v := .int .i64 M.pc) (Ms.scal hok 0)
  rw [hpc] at p4
  have wp : IntKind.i64.wrap ((p : Int) + 1) = (p : Int) + 1 := wrap_i64 (by omega) (by omega)
  have wst : IntKind.i64.wrap ((st : Int) + 1) = (st : Int) + 1 := wrap_i64 (by omega) (by omega)
  obtain ⟨m5, e5, o5, k5⟩ := store_own (r := _) rfl M4 (off := 416) (vs := [.int .i64 ((p : Int) + 1)]) (by rw [Ms.len hok]; simp) (by simp [one_int])
  rw [Ms.opc hok] at o5
  have hok5 := Ms.ok_pc hok ((p : Int) + 1)
  have s5 := o5.load1 (off := 417) (v := .int .i64 M.steps) (Ms.scal hok5 1)
  rw [hst] at s5
  obtain ⟨m6, e6, o6, k6⟩ := store_own (r := _) rfl o5 (off := 417) (vs := [.int .i64 ((st : Int) + 1)]) (by rw [Ms.len hok5]; simp) (by simp [one_int])
  rw [Ms.osteps hok5] at o6
  have hok6 := Ms.ok_steps hok5 ((st : Int) + 1)
  have k56 := k5.trans k6
  have x6 := o4.keep k56 (by simp; omega)
  have q0 := x6.load1 (off := 0) rfl
  have q1 := x6.load1 (off := 1) rfl
  have q2 := x6.load1 (off := 2) rfl
  have q3 := x6.load1 (off := 3) rfl
  have q4 := x6.load1 (off := 4) rfl
  have la := o6.load1 (off := ra) (Ms.reg hok6 ha)
  have lb' := o6.load1 (off := rb) (Ms.reg hok6 hb')
  have lc := o6.load1 (off := rc) (Ms.reg hok6 hc)
  generalize hva : M.R.getD ra 0 = va at *
  generalize hvb : M.R.getD rb 0 = vb at *
  generalize hvc : M.R.getD rc 0 = vc at *
  have ea : (ra : Int) ≤ 9223372036854775807 := by omega
  have eb : (rb : Int) ≤ 9223372036854775807 := by omega
  have ec : (rc : Int) ≤ 9223372036854775807 := by omega
  have H6 := ((hH.keep kR (by simp) (by simp)).keep k34 (by simp) (by simp)).keep k56 (by simpa using n1) (by simpa using n2)
  have k06 := ((kR.trans k34).nil (fs := [f, wf])).trans (k56.mono (by simp))
  try rw [hva]
  have en : (n : Int) ≤ 9223372036854775807 := by omega
  obtain ⟨m7, e7, o7, k7⟩ := store_own (r := _) rfl o6 (off := 16 + n) (vs := [.int .u64 va]) (by rw [Ms.len hok6]; simp; try omega) (by simp [one_int])
  rw [Ms.oslot hok6 hn] at o7
  have q1s := (x6.keep k7 (by simp; omega)).load1 (off := 1) rfl
  have q4s := (x6.keep k7 (by simp; omega)).load1 (off := 4) rfl
  refine fn_w 71 [95, 105, 118, 132, 146, 162, 178, 197, 220, 240, 264, 271, 279, 285, 293, 302, 313, 329, 339, 339] k13 hS rfl ?_
  simp [-Int.natCast_add, -BitVec.toNat_or, -BitVec.toNat_ofInt, -BitVec.toNat_and, fieldAddr_of fa37_5, load_of ld3, fieldAddr_of fa37_2, len_slice u22, index_slice u22 sz52, load_agg ld52, store_of sz3, alloc_of zo52, store_of sz52, fieldAddr_of fa37_0, fieldAddr_of fa37_3, fieldAddr_of fa52_0, fieldAddr_of fa52_1, fieldAddr_of fa52_4, load_of ld2, conv_i u2 u33, indexAddr_arr u34 sz33, store_of sz33, fieldAddr_of fa52_2, load_of ld33, fieldAddr_of fa37_1, indexAddr_arr u35 sz33, conv_i u3 u33, fieldAddr_of fa52_3, fieldAddr_of fa37_6, fieldAddr_of fa37_4, hlo, s0, p0, hp, pp, ep, np, nl, ld, cR, p1, ld1, e4, p4, wp, e5, s5, wst, e6, q0, q1, q2, q3, q4, la, lb', lc, ha, hb', hc, ea, eb, ec, hn, en, e7, q1s, q4s]
  rw [hpc, hst]
  exact ⟨⟨o7, H6.keep k7 (by simpa using n1) (by simpa using n2)⟩, k06.trans (k7.mono (by simp))⟩
set_option maxHeartbeats 8000000 in
theorem ref_Add (hS : S 13 = []) (hN : Nr S) (hX : MR m b f hb hf wb wf M ws lo ls lf le) {p st : Nat} (hp : p < ls.length) (hpc : M.pc = (p : Int)) (hst : M.steps = (st : Int)) (hs2 : st ≤ 1000000) (hs0 : M.state = 0) {ra rb rc : Nat} (ha : ra < 16) (hb' : rb < 16) (hc : rc < 16) {n r : Int} (hop : S 39 = []) (hr : ∀ m : Mem, callw Tryd.prog TT S 38 [.int .i64 3, .int .u64 (M.R.getD rb 0), .int .u64 (M.R.getD rc 0)] m = some (.tuple #[.int .u64 r, .bool true], m)) (hx : ls[p] = (5, (ra : Int), (rb : Int), (rc : Int), n)) (hR : RightI (5, (ra : Int), (rb : Int), (rc : Int), n) ls.length) (wish : Int) :
    ∃ v m1, callw Tryd.prog TT S 13 [.pointer (some ⟨b, 0, none⟩), .slice lo ls.length ls.length, .pointer (some ⟨hb, 0, none⟩), .int .i64 wish] m = some (v, m1) ∧ (MaAt m1 b f { M with pc := M.pc + 1, steps := M.steps + 1, R := M.R.set ra (r) } ∧ RefAt m1 hb hf wb wf (ws) 100) ∧ Keeps m m1 [f, wf] := by
  obtain ⟨hM, hH, hl, hll, hok, hwd, hle, n1, n2, n3'⟩ := hX
  have s0 := hM.load1 (off := 419) (v := .int .i64 M.state) (Ms.scal hok 3)
  rw [hs0] at s0
  have p0 := hM.load1 (off := 416) (v := .int .i64 M.pc) (Ms.scal hok 0)
  rw [hpc] at p0
  obtain ⟨lb, hlo, ol⟩ := hl.rdo (by omega)
  have ld : loadRow m ⟨lb, p * 5, none⟩ 5 = some (icl (5, (ra : Int), (rb : Int), (rc : Int), n)) := by rw [ol.load 5 (by rw [icv_len]; omega), icv_win hp, hx]
  obtain ⟨_, mR, cR, ⟨bR, rfl, hbR⟩, kR⟩ := ins_run (m := m) hN (5, (ra : Int), (rb : Int), (rc : Int), n) (size := ls.length) (by omega)
  have hbt := hbR.2 hR
  subst hbt
  have MR := hM.keep kR (by simp)
  have p1 := MR.load1 (off := 416) (v := .int .i64 M.pc) (Ms.scal hok 0)
  rw [hpc] at p1
  have olR := ol.keep kR (by simp)
  have ld1 : loadRow mR ⟨lb, p * 5, none⟩ 5 = some (icl (5, (ra : Int), (rb : Int), (rc : Int), n)) := by rw [olR.load 5 (by rw [icv_len]; omega), icv_win hp, hx]
  have pp : (p : Int) < ls.length := by omega
  have ep : (p : Int) ≤ 9223372036854775807 := by omega
  have np : ¬ (p : Int) < 0 := by omega
  have nl : ¬ (ls.length : Int) ≤ p := by omega
  have hfm := hM.flt
  have hfR := MR.flt
  obtain ⟨o3, k3, n3⟩ := new_own (m := mR) (cs := [.int .i64 0, .int .i64 0, .int .i64 0, .int .i64 0, .int .i64 0]) (e := 52) rfl
  obtain ⟨m4, e4, o4, k4⟩ := store_own (r := _) rfl o3 (off := 0) (vs := icl (5, (ra : Int), (rb : Int), (rc : Int), n)) (by simp) (by simp [one_int])
  simp [over] at o4
  have k34 := k3.fresh k4 (by simp)
  have M4 := MR.keep k34 (by simp)
  have p4 := M4.load1 (off := 416) (v := .int .i64 M.pc) (Ms.scal hok 0)
  rw [hpc] at p4
  have wp : IntKind.i64.wrap ((p : Int) + 1) = (p : Int) + 1 := wrap_i64 (by omega) (by omega)
  have wst : IntKind.i64.wrap ((st : Int) + 1) = (st : Int) + 1 := wrap_i64 (by omega) (by omega)
  obtain ⟨m5, e5, o5, k5⟩ := store_own (r := _) rfl M4 (off := 416) (vs := [.int .i64 ((p : Int) + 1)]) (by rw [Ms.len hok]; simp) (by simp [one_int])
  rw [Ms.opc hok] at o5
  have hok5 := Ms.ok_pc hok ((p : Int) + 1)
  have s5 := o5.load1 (off := 417) (v := .int .i64 M.steps) (Ms.scal hok5 1)
  rw [hst] at s5
  obtain ⟨m6, e6, o6, k6⟩ := store_own (r := _) rfl o5 (off := 417) (vs := [.int .i64 ((st : Int) + 1)]) (by rw [Ms.len hok5]; simp) (by simp [one_int])
  rw [Ms.osteps hok5] at o6
  have hok6 := Ms.ok_steps hok5 ((st : Int) + 1)
  have k56 := k5.trans k6
  have x6 := o4.keep k56 (by simp; omega)
  have q0 := x6.load1 (off := 0) rfl
  have q1 := x6.load1 (off := 1) rfl
  have q2 := x6.load1 (off := 2) rfl
  have q3 := x6.load1 (off := 3) rfl
  have q4 := x6.load1 (off := 4) rfl
  have la := o6.load1 (off := ra) (Ms.reg hok6 ha)
  have lb' := o6.load1 (off := rb) (Ms.reg hok6 hb')
  have lc := o6.load1 (off := rc) (Ms.reg hok6 hc)
  generalize hva : M.R.getD ra 0 = va at *
  generalize hvb : M.R.getD rb 0 = vb at *
  generalize hvc : M.R.getD rc 0 = vc at *
  have ea : (ra : Int) ≤ 9223372036854775807 := by omega
  have eb : (rb : Int) ≤ 9223372036854775807 := by omega
  have ec : (rc : Int) ≤ 9223372036854775807 := by omega
  have H6 := ((hH.keep kR (by simp) (by simp)).keep k34 (by simp) (by simp)).keep k56 (by simpa using n1) (by simpa using n2)
  have k06 := ((kR.trans k34).nil (fs := [f, wf])).trans (k56.mono (by simp))
  have hopr := fun m' => rop_run (m := m') hop (k := 5) (by omega)
  obtain ⟨m7, e7, o7, k7⟩ := store_own (r := _) rfl o6 (off := ra) (vs := [.int .u64 (r)]) (by rw [Ms.len hok6]; simp; try omega) (by simp [one_int])
  rw [Ms.oreg hok6 ha] at o7
  have q1s := (x6.keep k7 (by simp; omega)).load1 (off := 1) rfl
  have q4s := (x6.keep k7 (by simp; omega)).load1 (off := 4) rfl
  refine fn_w 71 [95, 105, 118, 132, 146, 162, 178, 197, 220, 240, 264, 271, 279, 285, 293, 302, 313, 329, 339, 339] k13 hS rfl ?_
  simp [-Int.natCast_add, -BitVec.toNat_or, -BitVec.toNat_ofInt, -BitVec.toNat_and, fieldAddr_of fa37_5, load_of ld3, fieldAddr_of fa37_2, len_slice u22, index_slice u22 sz52, load_agg ld52, store_of sz3, alloc_of zo52, store_of sz52, fieldAddr_of fa37_0, fieldAddr_of fa37_3, fieldAddr_of fa52_0, fieldAddr_of fa52_1, fieldAddr_of fa52_4, load_of ld2, conv_i u2 u33, indexAddr_arr u34 sz33, store_of sz33, fieldAddr_of fa52_2, load_of ld33, fieldAddr_of fa37_1, indexAddr_arr u35 sz33, conv_i u3 u33, fieldAddr_of fa52_3, fieldAddr_of fa37_6, fieldAddr_of fa37_4, hlo, s0, p0, hp, pp, ep, np, nl, ld, cR, p1, ld1, e4, p4, wp, e5, s5, wst, e6, q0, q1, q2, q3, q4, la, lb', lc, ha, hb', hc, ea, eb, ec, hopr, hr, e7, q1s, q4s]
  rw [hpc, hst]
  exact ⟨⟨o7, H6.keep k7 (by simpa using n1) (by simpa using n2)⟩, k06.trans (k7.mono (by simp))⟩
set_option maxHeartbeats 8000000 in
theorem ref_Sub (hS : S 13 = []) (hN : Nr S) (hX : MR m b f hb hf wb wf M ws lo ls lf le) {p st : Nat} (hp : p < ls.length) (hpc : M.pc = (p : Int)) (hst : M.steps = (st : Int)) (hs2 : st ≤ 1000000) (hs0 : M.state = 0) {ra rb rc : Nat} (ha : ra < 16) (hb' : rb < 16) (hc : rc < 16) {n r : Int} (hop : S 39 = []) (hr : ∀ m : Mem, callw Tryd.prog TT S 38 [.int .i64 4, .int .u64 (M.R.getD rb 0), .int .u64 (M.R.getD rc 0)] m = some (.tuple #[.int .u64 r, .bool true], m)) (hx : ls[p] = (6, (ra : Int), (rb : Int), (rc : Int), n)) (hR : RightI (6, (ra : Int), (rb : Int), (rc : Int), n) ls.length) (wish : Int) :
    ∃ v m1, callw Tryd.prog TT S 13 [.pointer (some ⟨b, 0, none⟩), .slice lo ls.length ls.length, .pointer (some ⟨hb, 0, none⟩), .int .i64 wish] m = some (v, m1) ∧ (MaAt m1 b f { M with pc := M.pc + 1, steps := M.steps + 1, R := M.R.set ra (r) } ∧ RefAt m1 hb hf wb wf (ws) 100) ∧ Keeps m m1 [f, wf] := by
  obtain ⟨hM, hH, hl, hll, hok, hwd, hle, n1, n2, n3'⟩ := hX
  have s0 := hM.load1 (off := 419) (v := .int .i64 M.state) (Ms.scal hok 3)
  rw [hs0] at s0
  have p0 := hM.load1 (off := 416) (v := .int .i64 M.pc) (Ms.scal hok 0)
  rw [hpc] at p0
  obtain ⟨lb, hlo, ol⟩ := hl.rdo (by omega)
  have ld : loadRow m ⟨lb, p * 5, none⟩ 5 = some (icl (6, (ra : Int), (rb : Int), (rc : Int), n)) := by rw [ol.load 5 (by rw [icv_len]; omega), icv_win hp, hx]
  obtain ⟨_, mR, cR, ⟨bR, rfl, hbR⟩, kR⟩ := ins_run (m := m) hN (6, (ra : Int), (rb : Int), (rc : Int), n) (size := ls.length) (by omega)
  have hbt := hbR.2 hR
  subst hbt
  have MR := hM.keep kR (by simp)
  have p1 := MR.load1 (off := 416) (v := .int .i64 M.pc) (Ms.scal hok 0)
  rw [hpc] at p1
  have olR := ol.keep kR (by simp)
  have ld1 : loadRow mR ⟨lb, p * 5, none⟩ 5 = some (icl (6, (ra : Int), (rb : Int), (rc : Int), n)) := by rw [olR.load 5 (by rw [icv_len]; omega), icv_win hp, hx]
  have pp : (p : Int) < ls.length := by omega
  have ep : (p : Int) ≤ 9223372036854775807 := by omega
  have np : ¬ (p : Int) < 0 := by omega
  have nl : ¬ (ls.length : Int) ≤ p := by omega
  have hfm := hM.flt
  have hfR := MR.flt
  obtain ⟨o3, k3, n3⟩ := new_own (m := mR) (cs := [.int .i64 0, .int .i64 0, .int .i64 0, .int .i64 0, .int .i64 0]) (e := 52) rfl
  obtain ⟨m4, e4, o4, k4⟩ := store_own (r := _) rfl o3 (off := 0) (vs := icl (6, (ra : Int), (rb : Int), (rc : Int), n)) (by simp) (by simp [one_int])
  simp [over] at o4
  have k34 := k3.fresh k4 (by simp)
  have M4 := MR.keep k34 (by simp)
  have p4 := M4.load1 (off := 416) (v := .int .i64 M.pc) (Ms.scal hok 0)
  rw [hpc] at p4
  have wp : IntKind.i64.wrap ((p : Int) + 1) = (p : Int) + 1 := wrap_i64 (by omega) (by omega)
  have wst : IntKind.i64.wrap ((st : Int) + 1) = (st : Int) + 1 := wrap_i64 (by omega) (by omega)
  obtain ⟨m5, e5, o5, k5⟩ := store_own (r := _) rfl M4 (off := 416) (vs := [.int .i64 ((p : Int) + 1)]) (by rw [Ms.len hok]; simp) (by simp [one_int])
  rw [Ms.opc hok] at o5
  have hok5 := Ms.ok_pc hok ((p : Int) + 1)
  have s5 := o5.load1 (off := 417) (v := .int .i64 M.steps) (Ms.scal hok5 1)
  rw [hst] at s5
  obtain ⟨m6, e6, o6, k6⟩ := store_own (r := _) rfl o5 (off := 417) (vs := [.int .i64 ((st : Int) + 1)]) (by rw [Ms.len hok5]; simp) (by simp [one_int])
  rw [Ms.osteps hok5] at o6
  have hok6 := Ms.ok_steps hok5 ((st : Int) + 1)
  have k56 := k5.trans k6
  have x6 := o4.keep k56 (by simp; omega)
  have q0 := x6.load1 (off := 0) rfl
  have q1 := x6.load1 (off := 1) rfl
  have q2 := x6.load1 (off := 2) rfl
  have q3 := x6.load1 (off := 3) rfl
  have q4 := x6.load1 (off := 4) rfl
  have la := o6.load1 (off := ra) (Ms.reg hok6 ha)
  have lb' := o6.load1 (off := rb) (Ms.reg hok6 hb')
  have lc := o6.load1 (off := rc) (Ms.reg hok6 hc)
  generalize hva : M.R.getD ra 0 = va at *
  generalize hvb : M.R.getD rb 0 = vb at *
  generalize hvc : M.R.getD rc 0 = vc at *
  have ea : (ra : Int) ≤ 9223372036854775807 := by omega
  have eb : (rb : Int) ≤ 9223372036854775807 := by omega
  have ec : (rc : Int) ≤ 9223372036854775807 := by omega
  have H6 := ((hH.keep kR (by simp) (by simp)).keep k34 (by simp) (by simp)).keep k56 (by simpa using n1) (by simpa using n2)
  have k06 := ((kR.trans k34).nil (fs := [f, wf])).trans (k56.mono (by simp))
  have hopr := fun m' => rop_run (m := m') hop (k := 6) (by omega)
  obtain ⟨m7, e7, o7, k7⟩ := store_own (r := _) rfl o6 (off := ra) (vs := [.int .u64 (r)]) (by rw [Ms.len hok6]; simp; try omega) (by simp [one_int])
  rw [Ms.oreg hok6 ha] at o7
  have q1s := (x6.keep k7 (by simp; omega)).load1 (off := 1) rfl
  have q4s := (x6.keep k7 (by simp; omega)).load1 (off := 4) rfl
  refine fn_w 71 [95, 105, 118, 132, 146, 162, 178, 197, 220, 240, 264, 271, 279, 285, 293, 302, 313, 329, 339, 339] k13 hS rfl ?_
  simp [-Int.natCast_add, -BitVec.toNat_or, -BitVec.toNat_ofInt, -BitVec.toNat_and, fieldAddr_of fa37_5, load_of ld3, fieldAddr_of fa37_2, len_slice u22, index_slice u22 sz52, load_agg ld52, store_of sz3, alloc_of zo52, store_of sz52, fieldAddr_of fa37_0, fieldAddr_of fa37_3, fieldAddr_of fa52_0, fieldAddr_of fa52_1, fieldAddr_of fa52_4, load_of ld2, conv_i u2 u33, indexAddr_arr u34 sz33, store_of sz33, fieldAddr_of fa52_2, load_of ld33, fieldAddr_of fa37_1, indexAddr_arr u35 sz33, conv_i u3 u33, fieldAddr_of fa52_3, fieldAddr_of fa37_6, fieldAddr_of fa37_4, hlo, s0, p0, hp, pp, ep, np, nl, ld, cR, p1, ld1, e4, p4, wp, e5, s5, wst, e6, q0, q1, q2, q3, q4, la, lb', lc, ha, hb', hc, ea, eb, ec, hopr, hr, e7, q1s, q4s]
  rw [hpc, hst]
  exact ⟨⟨o7, H6.keep k7 (by simpa using n1) (by simpa using n2)⟩, k06.trans (k7.mono (by simp))⟩
set_option maxHeartbeats 8000000 in
theorem ref_Mul (hS : S 13 = []) (hN : Nr S) (hX : MR m b f hb hf wb wf M ws lo ls lf le) {p st : Nat} (hp : p < ls.length) (hpc : M.pc = (p : Int)) (hst : M.steps = (st : Int)) (hs2 : st ≤ 1000000) (hs0 : M.state = 0) {ra rb rc : Nat} (ha : ra < 16) (hb' : rb < 16) (hc : rc < 16) {n r : Int} (hop : S 39 = []) (hr : ∀ m : Mem, callw Tryd.prog TT S 38 [.int .i64 5, .int .u64 (M.R.getD rb 0), .int .u64 (M.R.getD rc 0)] m = some (.tuple #[.int .u64 r, .bool true], m)) (hx : ls[p] = (7, (ra : Int), (rb : Int), (rc : Int), n)) (hR : RightI (7, (ra : Int), (rb : Int), (rc : Int), n) ls.length) (wish : Int) :
    ∃ v m1, callw Tryd.prog TT S 13 [.pointer (some ⟨b, 0, none⟩), .slice lo ls.length ls.length, .pointer (some ⟨hb, 0, none⟩), .int .i64 wish] m = some (v, m1) ∧ (MaAt m1 b f { M with pc := M.pc + 1, steps := M.steps + 1, R := M.R.set ra (r) } ∧ RefAt m1 hb hf wb wf (ws) 100) ∧ Keeps m m1 [f, wf] := by
  obtain ⟨hM, hH, hl, hll, hok, hwd, hle, n1, n2, n3'⟩ := hX
  have s0 := hM.load1 (off := 419) (v := .int .i64 M.state) (Ms.scal hok 3)
  rw [hs0] at s0
  have p0 := hM.load1 (off := 416) (v := .int .i64 M.pc) (Ms.scal hok 0)
  rw [hpc] at p0
  obtain ⟨lb, hlo, ol⟩ := hl.rdo (by omega)
  have ld : loadRow m ⟨lb, p * 5, none⟩ 5 = some (icl (7, (ra : Int), (rb : Int), (rc : Int), n)) := by rw [ol.load 5 (by rw [icv_len]; omega), icv_win hp, hx]
  obtain ⟨_, mR, cR, ⟨bR, rfl, hbR⟩, kR⟩ := ins_run (m := m) hN (7, (ra : Int), (rb : Int), (rc : Int), n) (size := ls.length) (by omega)
  have hbt := hbR.2 hR
  subst hbt
  have MR := hM.keep kR (by simp)
  have p1 := MR.load1 (off := 416) (v := .int .i64 M.pc) (Ms.scal hok 0)
  rw [hpc] at p1
  have olR := ol.keep kR (by simp)
  have ld1 : loadRow mR ⟨lb, p * 5, none⟩ 5 = some (icl (7, (ra : Int), (rb : Int), (rc : Int), n)) := by rw [olR.load 5 (by rw [icv_len]; omega), icv_win hp, hx]
  have pp : (p : Int) < ls.length := by omega
  have ep : (p : Int) ≤ 9223372036854775807 := by omega
  have np : ¬ (p : Int) < 0 := by omega
  have nl : ¬ (ls.length : Int) ≤ p := by omega
  have hfm := hM.flt
  have hfR := MR.flt
  obtain ⟨o3, k3, n3⟩ := new_own (m := mR) (cs := [.int .i64 0, .int .i64 0, .int .i64 0, .int .i64 0, .int .i64 0]) (e := 52) rfl
  obtain ⟨m4, e4, o4, k4⟩ := store_own (r := _) rfl o3 (off := 0) (vs := icl (7, (ra : Int), (rb : Int), (rc : Int), n)) (by simp) (by simp [one_int])
  simp [over] at o4
  have k34 := k3.fresh k4 (by simp)
  have M4 := MR.keep k34 (by simp)
  have p4 := M4.load1 (off := 416) (v := .int .i64 M.pc) (Ms.scal hok 0)
  rw [hpc] at p4
  have wp : IntKind.i64.wrap ((p : Int) + 1) = (p : Int) + 1 := wrap_i64 (by omega) (by omega)
  have wst : IntKind.i64.wrap ((st : Int) + 1) = (st : Int) + 1 := wrap_i64 (by omega) (by omega)
  obtain ⟨m5, e5, o5, k5⟩ := store_own (r := _) rfl M4 (off := 416) (vs := [.int .i64 ((p : Int) + 1)]) (by rw [Ms.len hok]; simp) (by simp [one_int])
  rw [Ms.opc hok] at o5
  have hok5 := Ms.ok_pc hok ((p : Int) + 1)
  have s5 := o5.load1 (off := 417) (v := .int .i64 M.steps) (Ms.scal hok5 1)
  rw [hst] at s5
  obtain ⟨m6, e6, o6, k6⟩ := store_own (r := _) rfl o5 (off := 417) (vs := [.int .i64 ((st : Int) + 1)]) (by rw [Ms.len hok5]; simp) (by simp [one_int])
  rw [Ms.osteps hok5] at o6
  have hok6 := Ms.ok_steps hok5 ((st : Int) + 1)
  have k56 := k5.trans k6
  have x6 := o4.keep k56 (by simp; omega)
  have q0 := x6.load1 (off := 0) rfl
  have q1 := x6.load1 (off := 1) rfl
  have q2 := x6.load1 (off := 2) rfl
  have q3 := x6.load1 (off := 3) rfl
  have q4 := x6.load1 (off := 4) rfl
  have la := o6.load1 (off := ra) (Ms.reg hok6 ha)
  have lb' := o6.load1 (off := rb) (Ms.reg hok6 hb')
  have lc := o6.load1 (off := rc) (Ms.reg hok6 hc)
  generalize hva : M.R.getD ra 0 = va at *
  generalize hvb : M.R.getD rb 0 = vb at *
  generalize hvc : M.R.getD rc 0 = vc at *
  have ea : (ra : Int) ≤ 9223372036854775807 := by omega
  have eb : (rb : Int) ≤ 9223372036854775807 := by omega
  have ec : (rc : Int) ≤ 9223372036854775807 := by omega
  have H6 := ((hH.keep kR (by simp) (by simp)).keep k34 (by simp) (by simp)).keep k56 (by simpa using n1) (by simpa using n2)
  have k06 := ((kR.trans k34).nil (fs := [f, wf])).trans (k56.mono (by simp))
  have hopr := fun m' => rop_run (m := m') hop (k := 7) (by omega)
  obtain ⟨m7, e7, o7, k7⟩ := store_own (r := _) rfl o6 (off := ra) (vs := [.int .u64 (r)]) (by rw [Ms.len hok6]; simp; try omega) (by simp [one_int])
  rw [Ms.oreg hok6 ha] at o7
  have q1s := (x6.keep k7 (by simp; omega)).load1 (off := 1) rfl
  have q4s := (x6.keep k7 (by simp; omega)).load1 (off := 4) rfl
  refine fn_w 71 [95, 105, 118, 132, 146, 162, 178, 197, 220, 240, 264, 271, 279, 285, 293, 302, 313, 329, 339, 339] k13 hS rfl ?_
  simp [-Int.natCast_add, -BitVec.toNat_or, -BitVec.toNat_ofInt, -BitVec.toNat_and, fieldAddr_of fa37_5, load_of ld3, fieldAddr_of fa37_2, len_slice u22, index_slice u22 sz52, load_agg ld52, store_of sz3, alloc_of zo52, store_of sz52, fieldAddr_of fa37_0, fieldAddr_of fa37_3, fieldAddr_of fa52_0, fieldAddr_of fa52_1, fieldAddr_of fa52_4, load_of ld2, conv_i u2 u33, indexAddr_arr u34 sz33, store_of sz33, fieldAddr_of fa52_2, load_of ld33, fieldAddr_of fa37_1, indexAddr_arr u35 sz33, conv_i u3 u33, fieldAddr_of fa52_3, fieldAddr_of fa37_6, fieldAddr_of fa37_4, hlo, s0, p0, hp, pp, ep, np, nl, ld, cR, p1, ld1, e4, p4, wp, e5, s5, wst, e6, q0, q1, q2, q3, q4, la, lb', lc, ha, hb', hc, ea, eb, ec, hopr, hr, e7, q1s, q4s]
  rw [hpc, hst]
  exact ⟨⟨o7, H6.keep k7 (by simpa using n1) (by simpa using n2)⟩, k06.trans (k7.mono (by simp))⟩
set_option maxHeartbeats 8000000 in
theorem ref_Div (hS : S 13 = []) (hN : Nr S) (hX : MR m b f hb hf wb wf M ws lo ls lf le) {p st : Nat} (hp : p < ls.length) (hpc : M.pc = (p : Int)) (hst : M.steps = (st : Int)) (hs2 : st ≤ 1000000) (hs0 : M.state = 0) {ra rb rc : Nat} (ha : ra < 16) (hb' : rb < 16) (hc : rc < 16) {n r : Int} (hop : S 39 = []) (hr : ∀ m : Mem, callw Tryd.prog TT S 38 [.int .i64 6, .int .u64 (M.R.getD rb 0), .int .u64 (M.R.getD rc 0)] m = some (.tuple #[.int .u64 r, .bool true], m)) (hx : ls[p] = (8, (ra : Int), (rb : Int), (rc : Int), n)) (hR : RightI (8, (ra : Int), (rb : Int), (rc : Int), n) ls.length) (wish : Int) :
    ∃ v m1, callw Tryd.prog TT S 13 [.pointer (some ⟨b, 0, none⟩), .slice lo ls.length ls.length, .pointer (some ⟨hb, 0, none⟩), .int .i64 wish] m = some (v, m1) ∧ (MaAt m1 b f { M with pc := M.pc + 1, steps := M.steps + 1, R := M.R.set ra (r) } ∧ RefAt m1 hb hf wb wf (ws) 100) ∧ Keeps m m1 [f, wf] := by
  obtain ⟨hM, hH, hl, hll, hok, hwd, hle, n1, n2, n3'⟩ := hX
  have s0 := hM.load1 (off := 419) (v := .int .i64 M.state) (Ms.scal hok 3)
  rw [hs0] at s0
  have p0 := hM.load1 (off := 416) (v := .int .i64 M.pc) (Ms.scal hok 0)
  rw [hpc] at p0
  obtain ⟨lb, hlo, ol⟩ := hl.rdo (by omega)
  have ld : loadRow m ⟨lb, p * 5, none⟩ 5 = some (icl (8, (ra : Int), (rb : Int), (rc : Int), n)) := by rw [ol.load 5 (by rw [icv_len]; omega), icv_win hp, hx]
  obtain ⟨_, mR, cR, ⟨bR, rfl, hbR⟩, kR⟩ := ins_run (m := m) hN (8, (ra : Int), (rb : Int), (rc : Int), n) (size := ls.length) (by omega)
  have hbt := hbR.2 hR
  subst hbt
  have MR := hM.keep kR (by simp)
  have p1 := MR.load1 (off := 416) (v := .int .i64 M.pc) (Ms.scal hok 0)
  rw [hpc] at p1
  have olR := ol.keep kR (by simp)
  have ld1 : loadRow mR ⟨lb, p * 5, none⟩ 5 = some (icl (8, (ra : Int), (rb : Int), (rc : Int), n)) := by rw [olR.load 5 (by rw [icv_len]; omega), icv_win hp, hx]
  have pp : (p : Int) < ls.length := by omega
  have ep : (p : Int) ≤ 9223372036854775807 := by omega
  have np : ¬ (p : Int) < 0 := by omega
  have nl : ¬ (ls.length : Int) ≤ p := by omega
  have hfm := hM.flt
  have hfR := MR.flt
  obtain ⟨o3, k3, n3⟩ := new_own (m := mR) (cs := [.int .i64 0, .int .i64 0, .int .i64 0, .int .i64 0, .int .i64 0]) (e := 52) rfl
  obtain ⟨m4, e4, o4, k4⟩ := store_own (r := _) rfl o3 (off := 0) (vs := icl (8, (ra : Int), (rb : Int), (rc : Int), n)) (by simp) (by simp [one_int])
  simp [over] at o4
  have k34 := k3.fresh k4 (by simp)
  have M4 := MR.keep k34 (by simp)
  have p4 := M4.load1 (off := 416) (v := .int .i64 M.pc) (Ms.scal hok 0)
  rw [hpc] at p4
  have wp : IntKind.i64.wrap ((p : Int) + 1) = (p : Int) + 1 := wrap_i64 (by omega) (by omega)
  have wst : IntKind.i64.wrap ((st : Int) + 1) = (st : Int) + 1 := wrap_i64 (by omega) (by omega)
  obtain ⟨m5, e5, o5, k5⟩ := store_own (r := _) rfl M4 (off := 416) (vs := [.int .i64 ((p : Int) + 1)]) (by rw [Ms.len hok]; simp) (by simp [one_int])
  rw [Ms.opc hok] at o5
  have hok5 := Ms.ok_pc hok ((p : Int) + 1)
  have s5 := o5.load1 (off := 417) (v := .int .i64 M.steps) (Ms.scal hok5 1)
  rw [hst] at s5
  obtain ⟨m6, e6, o6, k6⟩ := store_own (r := _) rfl o5 (off := 417) (vs := [.int .i64 ((st : Int) + 1)]) (by rw [Ms.len hok5]; simp) (by simp [one_int])
  rw [Ms.osteps hok5] at o6
  have hok6 := Ms.ok_steps hok5 ((st : Int) + 1)
  have k56 := k5.trans k6
  have x6 := o4.keep k56 (by simp; omega)
  have q0 := x6.load1 (off := 0) rfl
  have q1 := x6.load1 (off := 1) rfl
  have q2 := x6.load1 (off := 2) rfl
  have q3 := x6.load1 (off := 3) rfl
  have q4 := x6.load1 (off := 4) rfl
  have la := o6.load1 (off := ra) (Ms.reg hok6 ha)
  have lb' := o6.load1 (off := rb) (Ms.reg hok6 hb')
  have lc := o6.load1 (off := rc) (Ms.reg hok6 hc)
  generalize hva : M.R.getD ra 0 = va at *
  generalize hvb : M.R.getD rb 0 = vb at *
  generalize hvc : M.R.getD rc 0 = vc at *
  have ea : (ra : Int) ≤ 9223372036854775807 := by omega
  have eb : (rb : Int) ≤ 9223372036854775807 := by omega
  have ec : (rc : Int) ≤ 9223372036854775807 := by omega
  have H6 := ((hH.keep kR (by simp) (by simp)).keep k34 (by simp) (by simp)).keep k56 (by simpa using n1) (by simpa using n2)
  have k06 := ((kR.trans k34).nil (fs := [f, wf])).trans (k56.mono (by simp))
  have hopr := fun m' => rop_run (m := m') hop (k := 8) (by omega)
  obtain ⟨m7, e7, o7, k7⟩ := store_own (r := _) rfl o6 (off := ra) (vs := [.int .u64 (r)]) (by rw [Ms.len hok6]; simp; try omega) (by simp [one_int])
  rw [Ms.oreg hok6 ha] at o7
  have q1s := (x6.keep k7 (by simp; omega)).load1 (off := 1) rfl
  have q4s := (x6.keep k7 (by simp; omega)).load1 (off := 4) rfl
  refine fn_w 71 [95, 105, 118, 132, 146, 162, 178, 197, 220, 240, 264, 271, 279, 285, 293, 302, 313, 329, 339, 339] k13 hS rfl ?_
  simp [-Int.natCast_add, -BitVec.toNat_or, -BitVec.toNat_ofInt, -BitVec.toNat_and, fieldAddr_of fa37_5, load_of ld3, fieldAddr_of fa37_2, len_slice u22, index_slice u22 sz52, load_agg ld52, store_of sz3, alloc_of zo52, store_of sz52, fieldAddr_of fa37_0, fieldAddr_of fa37_3, fieldAddr_of fa52_0, fieldAddr_of fa52_1, fieldAddr_of fa52_4, load_of ld2, conv_i u2 u33, indexAddr_arr u34 sz33, store_of sz33, fieldAddr_of fa52_2, load_of ld33, fieldAddr_of fa37_1, indexAddr_arr u35 sz33, conv_i u3 u33, fieldAddr_of fa52_3, fieldAddr_of fa37_6, fieldAddr_of fa37_4, hlo, s0, p0, hp, pp, ep, np, nl, ld, cR, p1, ld1, e4, p4, wp, e5, s5, wst, e6, q0, q1, q2, q3, q4, la, lb', lc, ha, hb', hc, ea, eb, ec, hopr, hr, e7, q1s, q4s]
  rw [hpc, hst]
  exact ⟨⟨o7, H6.keep k7 (by simpa using n1) (by simpa using n2)⟩, k06.trans (k7.mono (by simp))⟩
set_option maxHeartbeats 8000000 in
theorem ref_Rem (hS : S 13 = []) (hN : Nr S) (hX : MR m b f hb hf wb wf M ws lo ls lf le) {p st : Nat} (hp : p < ls.length) (hpc : M.pc = (p : Int)) (hst : M.steps = (st : Int)) (hs2 : st ≤ 1000000) (hs0 : M.state = 0) {ra rb rc : Nat} (ha : ra < 16) (hb' : rb < 16) (hc : rc < 16) {n r : Int} (hop : S 39 = []) (hr : ∀ m : Mem, callw Tryd.prog TT S 38 [.int .i64 7, .int .u64 (M.R.getD rb 0), .int .u64 (M.R.getD rc 0)] m = some (.tuple #[.int .u64 r, .bool true], m)) (hx : ls[p] = (9, (ra : Int), (rb : Int), (rc : Int), n)) (hR : RightI (9, (ra : Int), (rb : Int), (rc : Int), n) ls.length) (wish : Int) :
    ∃ v m1, callw Tryd.prog TT S 13 [.pointer (some ⟨b, 0, none⟩), .slice lo ls.length ls.length, .pointer (some ⟨hb, 0, none⟩), .int .i64 wish] m = some (v, m1) ∧ (MaAt m1 b f { M with pc := M.pc + 1, steps := M.steps + 1, R := M.R.set ra (r) } ∧ RefAt m1 hb hf wb wf (ws) 100) ∧ Keeps m m1 [f, wf] := by
  obtain ⟨hM, hH, hl, hll, hok, hwd, hle, n1, n2, n3'⟩ := hX
  have s0 := hM.load1 (off := 419) (v := .int .i64 M.state) (Ms.scal hok 3)
  rw [hs0] at s0
  have p0 := hM.load1 (off := 416) (v := .int .i64 M.pc) (Ms.scal hok 0)
  rw [hpc] at p0
  obtain ⟨lb, hlo, ol⟩ := hl.rdo (by omega)
  have ld : loadRow m ⟨lb, p * 5, none⟩ 5 = some (icl (9, (ra : Int), (rb : Int), (rc : Int), n)) := by rw [ol.load 5 (by rw [icv_len]; omega), icv_win hp, hx]
  obtain ⟨_, mR, cR, ⟨bR, rfl, hbR⟩, kR⟩ := ins_run (m := m) hN (9, (ra : Int), (rb : Int), (rc : Int), n) (size := ls.length) (by omega)
  have hbt := hbR.2 hR
  subst hbt
  have MR := hM.keep kR (by simp)
  have p1 := MR.load1 (off := 416) (v := .int .i64 M.pc) (Ms.scal hok 0)
  rw [hpc] at p1
  have olR := ol.keep kR (by simp)
  have ld1 : loadRow mR ⟨lb, p * 5, none⟩ 5 = some (icl (9, (ra : Int), (rb : Int), (rc : Int), n)) := by rw [olR.load 5 (by rw [icv_len]; omega), icv_win hp, hx]
  have pp : (p : Int) < ls.length := by omega
  have ep : (p : Int) ≤ 9223372036854775807 := by omega
  have np : ¬ (p : Int) < 0 := by omega
  have nl : ¬ (ls.length : Int) ≤ p := by omega
  have hfm := hM.flt
  have hfR := MR.flt
  obtain ⟨o3, k3, n3⟩ := new_own (m := mR) (cs := [.int .i64 0, .int .i64 0, .int .i64 0, .int .i64 0, .int .i64 0]) (e := 52) rfl
  obtain ⟨m4, e4, o4, k4⟩ := store_own (r := _) rfl o3 (off := 0) (vs := icl (9, (ra : Int), (rb : Int), (rc : Int), n)) (by simp) (by simp [one_int])
  simp [over] at o4
  have k34 := k3.fresh k4 (by simp)
  have M4 := MR.keep k34 (by simp)
  have p4 := M4.load1 (off := 416) (v := .int .i64 M.pc) (Ms.scal hok 0)
  rw [hpc] at p4
  have wp : IntKind.i64.wrap ((p : Int) + 1) = (p : Int) + 1 := wrap_i64 (by omega) (by omega)
  have wst : IntKind.i64.wrap ((st : Int) + 1) = (st : Int) + 1 := wrap_i64 (by omega) (by omega)
  obtain ⟨m5, e5, o5, k5⟩ := store_own (r := _) rfl M4 (off := 416) (vs := [.int .i64 ((p : Int) + 1)]) (by rw [Ms.len hok]; simp) (by simp [one_int])
  rw [Ms.opc hok] at o5
  have hok5 := Ms.ok_pc hok ((p : Int) + 1)
  have s5 := o5.load1 (off := 417) (v := .int .i64 M.steps) (Ms.scal hok5 1)
  rw [hst] at s5
  obtain ⟨m6, e6, o6, k6⟩ := store_own (r := _) rfl o5 (off := 417) (vs := [.int .i64 ((st : Int) + 1)]) (by rw [Ms.len hok5]; simp) (by simp [one_int])
  rw [Ms.osteps hok5] at o6
  have hok6 := Ms.ok_steps hok5 ((st : Int) + 1)
  have k56 := k5.trans k6
  have x6 := o4.keep k56 (by simp; omega)
  have q0 := x6.load1 (off := 0) rfl
  have q1 := x6.load1 (off := 1) rfl
  have q2 := x6.load1 (off := 2) rfl
  have q3 := x6.load1 (off := 3) rfl
  have q4 := x6.load1 (off := 4) rfl
  have la := o6.load1 (off := ra) (Ms.reg hok6 ha)
  have lb' := o6.load1 (off := rb) (Ms.reg hok6 hb')
  have lc := o6.load1 (off := rc) (Ms.reg hok6 hc)
  generalize hva : M.R.getD ra 0 = va at *
  generalize hvb : M.R.getD rb 0 = vb at *
  generalize hvc : M.R.getD rc 0 = vc at *
  have ea : (ra : Int) ≤ 9223372036854775807 := by omega
  have eb : (rb : Int) ≤ 9223372036854775807 := by omega
  have ec : (rc : Int) ≤ 9223372036854775807 := by omega
  have H6 := ((hH.keep kR (by simp) (by simp)).keep k34 (by simp) (by simp)).keep k56 (by simpa using n1) (by simpa using n2)
  have k06 := ((kR.trans k34).nil (fs := [f, wf])).trans (k56.mono (by simp))
  have hopr := fun m' => rop_run (m := m') hop (k := 9) (by omega)
  obtain ⟨m7, e7, o7, k7⟩ := store_own (r := _) rfl o6 (off := ra) (vs := [.int .u64 (r)]) (by rw [Ms.len hok6]; simp; try omega) (by simp [one_int])
  rw [Ms.oreg hok6 ha] at o7
  have q1s := (x6.keep k7 (by simp; omega)).load1 (off := 1) rfl
  have q4s := (x6.keep k7 (by simp; omega)).load1 (off := 4) rfl
  refine fn_w 71 [95, 105, 118, 132, 146, 162, 178, 197, 220, 240, 264, 271, 279, 285, 293, 302, 313, 329, 339, 339] k13 hS rfl ?_
  simp [-Int.natCast_add, -BitVec.toNat_or, -BitVec.toNat_ofInt, -BitVec.toNat_and, fieldAddr_of fa37_5, load_of ld3, fieldAddr_of fa37_2, len_slice u22, index_slice u22 sz52, load_agg ld52, store_of sz3, alloc_of zo52, store_of sz52, fieldAddr_of fa37_0, fieldAddr_of fa37_3, fieldAddr_of fa52_0, fieldAddr_of fa52_1, fieldAddr_of fa52_4, load_of ld2, conv_i u2 u33, indexAddr_arr u34 sz33, store_of sz33, fieldAddr_of fa52_2, load_of ld33, fieldAddr_of fa37_1, indexAddr_arr u35 sz33, conv_i u3 u33, fieldAddr_of fa52_3, fieldAddr_of fa37_6, fieldAddr_of fa37_4, hlo, s0, p0, hp, pp, ep, np, nl, ld, cR, p1, ld1, e4, p4, wp, e5, s5, wst, e6, q0, q1, q2, q3, q4, la, lb', lc, ha, hb', hc, ea, eb, ec, hopr, hr, e7, q1s, q4s]
  rw [hpc, hst]
  exact ⟨⟨o7, H6.keep k7 (by simpa using n1) (by simpa using n2)⟩, k06.trans (k7.mono (by simp))⟩
set_option maxHeartbeats 8000000 in
theorem ref_Eq (hS : S 13 = []) (hN : Nr S) (hX : MR m b f hb hf wb wf M ws lo ls lf le) {p st : Nat} (hp : p < ls.length) (hpc : M.pc = (p : Int)) (hst : M.steps = (st : Int)) (hs2 : st ≤ 1000000) (hs0 : M.state = 0) {ra rb rc : Nat} (ha : ra < 16) (hb' : rb < 16) (hc : rc < 16) {n r : Int} (hop : S 39 = []) (hr : ∀ m : Mem, callw Tryd.prog TT S 38 [.int .i64 10, .int .u64 (M.R.getD rb 0), .int .u64 (M.R.getD rc 0)] m = some (.tuple #[.int .u64 r, .bool true], m)) (hx : ls[p] = (12, (ra : Int), (rb : Int), (rc : Int), n)) (hR : RightI (12, (ra : Int), (rb : Int), (rc : Int), n) ls.length) (wish : Int) :
    ∃ v m1, callw Tryd.prog TT S 13 [.pointer (some ⟨b, 0, none⟩), .slice lo ls.length ls.length, .pointer (some ⟨hb, 0, none⟩), .int .i64 wish] m = some (v, m1) ∧ (MaAt m1 b f { M with pc := M.pc + 1, steps := M.steps + 1, R := M.R.set ra (r) } ∧ RefAt m1 hb hf wb wf (ws) 100) ∧ Keeps m m1 [f, wf] := by
  obtain ⟨hM, hH, hl, hll, hok, hwd, hle, n1, n2, n3'⟩ := hX
  have s0 := hM.load1 (off := 419) (v := .int .i64 M.state) (Ms.scal hok 3)
  rw [hs0] at s0
  have p0 := hM.load1 (off := 416) (v := .int .i64 M.pc) (Ms.scal hok 0)
  rw [hpc] at p0
  obtain ⟨lb, hlo, ol⟩ := hl.rdo (by omega)
  have ld : loadRow m ⟨lb, p * 5, none⟩ 5 = some (icl (12, (ra : Int), (rb : Int), (rc : Int), n)) := by rw [ol.load 5 (by rw [icv_len]; omega), icv_win hp, hx]
  obtain ⟨_, mR, cR, ⟨bR, rfl, hbR⟩, kR⟩ := ins_run (m := m) hN (12, (ra : Int), (rb : Int), (rc : Int), n) (size := ls.length) (by omega)
  have hbt := hbR.2 hR
  subst hbt
  have MR := hM.keep kR (by simp)
  have p1 := MR.load1 (off := 416) (v := .int .i64 M.pc) (Ms.scal hok 0)
  rw [hpc] at p1
  have olR := ol.keep kR (by simp)
  have ld1 : loadRow mR ⟨lb, p * 5, none⟩ 5 = some (icl (12, (ra : Int), (rb : Int), (rc : Int), n)) := by rw [olR.load 5 (by rw [icv_len]; omega), icv_win hp, hx]
  have pp : (p : Int) < ls.length := by omega
  have ep : (p : Int) ≤ 9223372036854775807 := by omega
  have np : ¬ (p : Int) < 0 := by omega
  have nl : ¬ (ls.length : Int) ≤ p := by omega
  have hfm := hM.flt
  have hfR := MR.flt
  obtain ⟨o3, k3, n3⟩ := new_own (m := mR) (cs := [.int .i64 0, .int .i64 0, .int .i64 0, .int .i64 0, .int .i64 0]) (e := 52) rfl
  obtain ⟨m4, e4, o4, k4⟩ := store_own (r := _) rfl o3 (off := 0) (vs := icl (12, (ra : Int), (rb : Int), (rc : Int), n)) (by simp) (by simp [one_int])
  simp [over] at o4
  have k34 := k3.fresh k4 (by simp)
  have M4 := MR.keep k34 (by simp)
  have p4 := M4.load1 (off := 416) (v := .int .i64 M.pc) (Ms.scal hok 0)
  rw [hpc] at p4
  have wp : IntKind.i64.wrap ((p : Int) + 1) = (p : Int) + 1 := wrap_i64 (by omega) (by omega)
  have wst : IntKind.i64.wrap ((st : Int) + 1) = (st : Int) + 1 := wrap_i64 (by omega) (by omega)
  obtain ⟨m5, e5, o5, k5⟩ := store_own (r := _) rfl M4 (off := 416) (vs := [.int .i64 ((p : Int) + 1)]) (by rw [Ms.len hok]; simp) (by simp [one_int])
  rw [Ms.opc hok] at o5
  have hok5 := Ms.ok_pc hok ((p : Int) + 1)
  have s5 := o5.load1 (off := 417) (v := .int .i64 M.steps) (Ms.scal hok5 1)
  rw [hst] at s5
  obtain ⟨m6, e6, o6, k6⟩ := store_own (r := _) rfl o5 (off := 417) (vs := [.int .i64 ((st : Int) + 1)]) (by rw [Ms.len hok5]; simp) (by simp [one_int])
  rw [Ms.osteps hok5] at o6
  have hok6 := Ms.ok_steps hok5 ((st : Int) + 1)
  have k56 := k5.trans k6
  have x6 := o4.keep k56 (by simp; omega)
  have q0 := x6.load1 (off := 0) rfl
  have q1 := x6.load1 (off := 1) rfl
  have q2 := x6.load1 (off := 2) rfl
  have q3 := x6.load1 (off := 3) rfl
  have q4 := x6.load1 (off := 4) rfl
  have la := o6.load1 (off := ra) (Ms.reg hok6 ha)
  have lb' := o6.load1 (off := rb) (Ms.reg hok6 hb')
  have lc := o6.load1 (off := rc) (Ms.reg hok6 hc)
  generalize hva : M.R.getD ra 0 = va at *
  generalize hvb : M.R.getD rb 0 = vb at *
  generalize hvc : M.R.getD rc 0 = vc at *
  have ea : (ra : Int) ≤ 9223372036854775807 := by omega
  have eb : (rb : Int) ≤ 9223372036854775807 := by omega
  have ec : (rc : Int) ≤ 9223372036854775807 := by omega
  have H6 := ((hH.keep kR (by simp) (by simp)).keep k34 (by simp) (by simp)).keep k56 (by simpa using n1) (by simpa using n2)
  have k06 := ((kR.trans k34).nil (fs := [f, wf])).trans (k56.mono (by simp))
  have hopr := fun m' => rop_run (m := m') hop (k := 12) (by omega)
  obtain ⟨m7, e7, o7, k7⟩ := store_own (r := _) rfl o6 (off := ra) (vs := [.int .u64 (r)]) (by rw [Ms.len hok6]; simp; try omega) (by simp [one_int])
  rw [Ms.oreg hok6 ha] at o7
  have q1s := (x6.keep k7 (by simp; omega)).load1 (off := 1) rfl
  have q4s := (x6.keep k7 (by simp; omega)).load1 (off := 4) rfl
  refine fn_w 71 [95, 105, 118, 132, 146, 162, 178, 197, 220, 240, 264, 271, 279, 285, 293, 302, 313, 329, 339, 339] k13 hS rfl ?_
  simp [-Int.natCast_add, -BitVec.toNat_or, -BitVec.toNat_ofInt, -BitVec.toNat_and, fieldAddr_of fa37_5, load_of ld3, fieldAddr_of fa37_2, len_slice u22, index_slice u22 sz52, load_agg ld52, store_of sz3, alloc_of zo52, store_of sz52, fieldAddr_of fa37_0, fieldAddr_of fa37_3, fieldAddr_of fa52_0, fieldAddr_of fa52_1, fieldAddr_of fa52_4, load_of ld2, conv_i u2 u33, indexAddr_arr u34 sz33, store_of sz33, fieldAddr_of fa52_2, load_of ld33, fieldAddr_of fa37_1, indexAddr_arr u35 sz33, conv_i u3 u33, fieldAddr_of fa52_3, fieldAddr_of fa37_6, fieldAddr_of fa37_4, hlo, s0, p0, hp, pp, ep, np, nl, ld, cR, p1, ld1, e4, p4, wp, e5, s5, wst, e6, q0, q1, q2, q3, q4, la, lb', lc, ha, hb', hc, ea, eb, ec, hopr, hr, e7, q1s, q4s]
  rw [hpc, hst]
  exact ⟨⟨o7, H6.keep k7 (by simpa using n1) (by simpa using n2)⟩, k06.trans (k7.mono (by simp))⟩
set_option maxHeartbeats 8000000 in
theorem ref_Ne (hS : S 13 = []) (hN : Nr S) (hX : MR m b f hb hf wb wf M ws lo ls lf le) {p st : Nat} (hp : p < ls.length) (hpc : M.pc = (p : Int)) (hst : M.steps = (st : Int)) (hs2 : st ≤ 1000000) (hs0 : M.state = 0) {ra rb rc : Nat} (ha : ra < 16) (hb' : rb < 16) (hc : rc < 16) {n r : Int} (hop : S 39 = []) (hr : ∀ m : Mem, callw Tryd.prog TT S 38 [.int .i64 11, .int .u64 (M.R.getD rb 0), .int .u64 (M.R.getD rc 0)] m = some (.tuple #[.int .u64 r, .bool true], m)) (hx : ls[p] = (13, (ra : Int), (rb : Int), (rc : Int), n)) (hR : RightI (13, (ra : Int), (rb : Int), (rc : Int), n) ls.length) (wish : Int) :
    ∃ v m1, callw Tryd.prog TT S 13 [.pointer (some ⟨b, 0, none⟩), .slice lo ls.length ls.length, .pointer (some ⟨hb, 0, none⟩), .int .i64 wish] m = some (v, m1) ∧ (MaAt m1 b f { M with pc := M.pc + 1, steps := M.steps + 1, R := M.R.set ra (r) } ∧ RefAt m1 hb hf wb wf (ws) 100) ∧ Keeps m m1 [f, wf] := by
  obtain ⟨hM, hH, hl, hll, hok, hwd, hle, n1, n2, n3'⟩ := hX
  have s0 := hM.load1 (off := 419) (v := .int .i64 M.state) (Ms.scal hok 3)
  rw [hs0] at s0
  have p0 := hM.load1 (off := 416) (v := .int .i64 M.pc) (Ms.scal hok 0)
  rw [hpc] at p0
  obtain ⟨lb, hlo, ol⟩ := hl.rdo (by omega)
  have ld : loadRow m ⟨lb, p * 5, none⟩ 5 = some (icl (13, (ra : Int), (rb : Int), (rc : Int), n)) := by rw [ol.load 5 (by rw [icv_len]; omega), icv_win hp, hx]
  obtain ⟨_, mR, cR, ⟨bR, rfl, hbR⟩, kR⟩ := ins_run (m := m) hN (13, (ra : Int), (rb : Int), (rc : Int), n) (size := ls.length) (by omega)
  have hbt := hbR.2 hR
  subst hbt
  have MR := hM.keep kR (by simp)
  have p1 := MR.load1 (off := 416) (v := .int .i64 M.pc) (Ms.scal hok 0)
  rw [hpc] at p1
  have olR := ol.keep kR (by simp)
  have ld1 : loadRow mR ⟨lb, p * 5, none⟩ 5 = some (icl (13, (ra : Int), (rb : Int), (rc : Int), n)) := by rw [olR.load 5 (by rw [icv_len]; omega), icv_win hp, hx]
  have pp : (p : Int) < ls.length := by omega
  have ep : (p : Int) ≤ 9223372036854775807 := by omega
  have np : ¬ (p : Int) < 0 := by omega
  have nl : ¬ (ls.length : Int) ≤ p := by omega
  have hfm := hM.flt
  have hfR := MR.flt
  obtain ⟨o3, k3, n3⟩ := new_own (m := mR) (cs := [.int .i64 0, .int .i64 0, .int .i64 0, .int .i64 0, .int .i64 0]) (e := 52) rfl
  obtain ⟨m4, e4, o4, k4⟩ := store_own (r := _) rfl o3 (off := 0) (vs := icl (13, (ra : Int), (rb : Int), (rc : Int), n)) (by simp) (by simp [one_int])
  simp [over] at o4
  have k34 := k3.fresh k4 (by simp)
  have M4 := MR.keep k34 (by simp)
  have p4 := M4.load1 (off := 416) (v := .int .i64 M.pc) (Ms.scal hok 0)
  rw [hpc] at p4
  have wp : IntKind.i64.wrap ((p : Int) + 1) = (p : Int) + 1 := wrap_i64 (by omega) (by omega)
  have wst : IntKind.i64.wrap ((st : Int) + 1) = (st : Int) + 1 := wrap_i64 (by omega) (by omega)
  obtain ⟨m5, e5, o5, k5⟩ := store_own (r := _) rfl M4 (off := 416) (vs := [.int .i64 ((p : Int) + 1)]) (by rw [Ms.len hok]; simp) (by simp [one_int])
  rw [Ms.opc hok] at o5
  have hok5 := Ms.ok_pc hok ((p : Int) + 1)
  have s5 := o5.load1 (off := 417) (v := .int .i64 M.steps) (Ms.scal hok5 1)
  rw [hst] at s5
  obtain ⟨m6, e6, o6, k6⟩ := store_own (r := _) rfl o5 (off := 417) (vs := [.int .i64 ((st : Int) + 1)]) (by rw [Ms.len hok5]; simp) (by simp [one_int])
  rw [Ms.osteps hok5] at o6
  have hok6 := Ms.ok_steps hok5 ((st : Int) + 1)
  have k56 := k5.trans k6
  have x6 := o4.keep k56 (by simp; omega)
  have q0 := x6.load1 (off := 0) rfl
  have q1 := x6.load1 (off := 1) rfl
  have q2 := x6.load1 (off := 2) rfl
  have q3 := x6.load1 (off := 3) rfl
  have q4 := x6.load1 (off := 4) rfl
  have la := o6.load1 (off := ra) (Ms.reg hok6 ha)
  have lb' := o6.load1 (off := rb) (Ms.reg hok6 hb')
  have lc := o6.load1 (off := rc) (Ms.reg hok6 hc)
  generalize hva : M.R.getD ra 0 = va at *
  generalize hvb : M.R.getD rb 0 = vb at *
  generalize hvc : M.R.getD rc 0 = vc at *
  have ea : (ra : Int) ≤ 9223372036854775807 := by omega
  have eb : (rb : Int) ≤ 9223372036854775807 := by omega
  have ec : (rc : Int) ≤ 9223372036854775807 := by omega
  have H6 := ((hH.keep kR (by simp) (by simp)).keep k34 (by simp) (by simp)).keep k56 (by simpa using n1) (by simpa using n2)
  have k06 := ((kR.trans k34).nil (fs := [f, wf])).trans (k56.mono (by simp))
  have hopr := fun m' => rop_run (m := m') hop (k := 13) (by omega)
  obtain ⟨m7, e7, o7, k7⟩ := store_own (r := _) rfl o6 (off := ra) (vs := [.int .u64 (r)]) (by rw [Ms.len hok6]; simp; try omega) (by simp [one_int])
  rw [Ms.oreg hok6 ha] at o7
  have q1s := (x6.keep k7 (by simp; omega)).load1 (off := 1) rfl
  have q4s := (x6.keep k7 (by simp; omega)).load1 (off := 4) rfl
  refine fn_w 71 [95, 105, 118, 132, 146, 162, 178, 197, 220, 240, 264, 271, 279, 285, 293, 302, 313, 329, 339, 339] k13 hS rfl ?_
  simp [-Int.natCast_add, -BitVec.toNat_or, -BitVec.toNat_ofInt, -BitVec.toNat_and, fieldAddr_of fa37_5, load_of ld3, fieldAddr_of fa37_2, len_slice u22, index_slice u22 sz52, load_agg ld52, store_of sz3, alloc_of zo52, store_of sz52, fieldAddr_of fa37_0, fieldAddr_of fa37_3, fieldAddr_of fa52_0, fieldAddr_of fa52_1, fieldAddr_of fa52_4, load_of ld2, conv_i u2 u33, indexAddr_arr u34 sz33, store_of sz33, fieldAddr_of fa52_2, load_of ld33, fieldAddr_of fa37_1, indexAddr_arr u35 sz33, conv_i u3 u33, fieldAddr_of fa52_3, fieldAddr_of fa37_6, fieldAddr_of fa37_4, hlo, s0, p0, hp, pp, ep, np, nl, ld, cR, p1, ld1, e4, p4, wp, e5, s5, wst, e6, q0, q1, q2, q3, q4, la, lb', lc, ha, hb', hc, ea, eb, ec, hopr, hr, e7, q1s, q4s]
  rw [hpc, hst]
  exact ⟨⟨o7, H6.keep k7 (by simpa using n1) (by simpa using n2)⟩, k06.trans (k7.mono (by simp))⟩
set_option maxHeartbeats 8000000 in
theorem ref_Lt (hS : S 13 = []) (hN : Nr S) (hX : MR m b f hb hf wb wf M ws lo ls lf le) {p st : Nat} (hp : p < ls.length) (hpc : M.pc = (p : Int)) (hst : M.steps = (st : Int)) (hs2 : st ≤ 1000000) (hs0 : M.state = 0) {ra rb rc : Nat} (ha : ra < 16) (hb' : rb < 16) (hc : rc < 16) {n r : Int} (hop : S 39 = []) (hr : ∀ m : Mem, callw Tryd.prog TT S 38 [.int .i64 12, .int .u64 (M.R.getD rb 0), .int .u64 (M.R.getD rc 0)] m = some (.tuple #[.int .u64 r, .bool true], m)) (hx : ls[p] = (14, (ra : Int), (rb : Int), (rc : Int), n)) (hR : RightI (14, (ra : Int), (rb : Int), (rc : Int), n) ls.length) (wish : Int) :
    ∃ v m1, callw Tryd.prog TT S 13 [.pointer (some ⟨b, 0, none⟩), .slice lo ls.length ls.length, .pointer (some ⟨hb, 0, none⟩), .int .i64 wish] m = some (v, m1) ∧ (MaAt m1 b f { M with pc := M.pc + 1, steps := M.steps + 1, R := M.R.set ra (r) } ∧ RefAt m1 hb hf wb wf (ws) 100) ∧ Keeps m m1 [f, wf] := by
  obtain ⟨hM, hH, hl, hll, hok, hwd, hle, n1, n2, n3'⟩ := hX
  have s0 := hM.load1 (off := 419) (v := .int .i64 M.state) (Ms.scal hok 3)
  rw [hs0] at s0
  have p0 := hM.load1 (off := 416) (v := .int .i64 M.pc) (Ms.scal hok 0)
  rw [hpc] at p0
  obtain ⟨lb, hlo, ol⟩ := hl.rdo (by omega)
  have ld : loadRow m ⟨lb, p * 5, none⟩ 5 = some (icl (14, (ra : Int), (rb : Int), (rc : Int), n)) := by rw [ol.load 5 (by rw [icv_len]; omega), icv_win hp, hx]
  obtain ⟨_, mR, cR, ⟨bR, rfl, hbR⟩, kR⟩ := ins_run (m := m) hN (14, (ra : Int), (rb : Int), (rc : Int), n) (size := ls.length) (by omega)
  have hbt := hbR.2 hR
  subst hbt
  have MR := hM.keep kR (by simp)
  have p1 := MR.load1 (off := 416) (v := .int .i64 M.pc) (Ms.scal hok 0)
  rw [hpc] at p1
  have olR := ol.keep kR (by simp)
  have ld1 : loadRow mR ⟨lb, p * 5, none⟩ 5 = some (icl (14, (ra : Int), (rb : Int), (rc : Int), n)) := by rw [olR.load 5 (by rw [icv_len]; omega), icv_win hp, hx]
  have pp : (p : Int) < ls.length := by omega
  have ep : (p : Int) ≤ 9223372036854775807 := by omega
  have np : ¬ (p : Int) < 0 := by omega
  have nl : ¬ (ls.length : Int) ≤ p := by omega
  have hfm := hM.flt
  have hfR := MR.flt
  obtain ⟨o3, k3, n3⟩ := new_own (m := mR) (cs := [.int .i64 0, .int .i64 0, .int .i64 0, .int .i64 0, .int .i64 0]) (e := 52) rfl
  obtain ⟨m4, e4, o4, k4⟩ := store_own (r := _) rfl o3 (off := 0) (vs := icl (14, (ra : Int), (rb : Int), (rc : Int), n)) (by simp) (by simp [one_int])
  simp [over] at o4
  have k34 := k3.fresh k4 (by simp)
  have M4 := MR.keep k34 (by simp)
  have p4 := M4.load1 (off := 416) (v := .int .i64 M.pc) (Ms.scal hok 0)
  rw [hpc] at p4
  have wp : IntKind.i64.wrap ((p : Int) + 1) = (p : Int) + 1 := wrap_i64 (by omega) (by omega)
  have wst : IntKind.i64.wrap ((st : Int) + 1) = (st : Int) + 1 := wrap_i64 (by omega) (by omega)
  obtain ⟨m5, e5, o5, k5⟩ := store_own (r := _) rfl M4 (off := 416) (vs := [.int .i64 ((p : Int) + 1)]) (by rw [Ms.len hok]; simp) (by simp [one_int])
  rw [Ms.opc hok] at o5
  have hok5 := Ms.ok_pc hok ((p : Int) + 1)
  have s5 := o5.load1 (off := 417) (v := .int .i64 M.steps) (Ms.scal hok5 1)
  rw [hst] at s5
  obtain ⟨m6, e6, o6, k6⟩ := store_own (r := _) rfl o5 (off := 417) (vs := [.int .i64 ((st : Int) + 1)]) (by rw [Ms.len hok5]; simp) (by simp [one_int])
  rw [Ms.osteps hok5] at o6
  have hok6 := Ms.ok_steps hok5 ((st : Int) + 1)
  have k56 := k5.trans k6
  have x6 := o4.keep k56 (by simp; omega)
  have q0 := x6.load1 (off := 0) rfl
  have q1 := x6.load1 (off := 1) rfl
  have q2 := x6.load1 (off := 2) rfl
  have q3 := x6.load1 (off := 3) rfl
  have q4 := x6.load1 (off := 4) rfl
  have la := o6.load1 (off := ra) (Ms.reg hok6 ha)
  have lb' := o6.load1 (off := rb) (Ms.reg hok6 hb')
  have lc := o6.load1 (off := rc) (Ms.reg hok6 hc)
  generalize hva : M.R.getD ra 0 = va at *
  generalize hvb : M.R.getD rb 0 = vb at *
  generalize hvc : M.R.getD rc 0 = vc at *
  have ea : (ra : Int) ≤ 9223372036854775807 := by omega
  have eb : (rb : Int) ≤ 9223372036854775807 := by omega
  have ec : (rc : Int) ≤ 9223372036854775807 := by omega
  have H6 := ((hH.keep kR (by simp) (by simp)).keep k34 (by simp) (by simp)).keep k56 (by simpa using n1) (by simpa using n2)
  have k06 := ((kR.trans k34).nil (fs := [f, wf])).trans (k56.mono (by simp))
  have hopr := fun m' => rop_run (m := m') hop (k := 14) (by omega)
  obtain ⟨m7, e7, o7, k7⟩ := store_own (r := _) rfl o6 (off := ra) (vs := [.int .u64 (r)]) (by rw [Ms.len hok6]; simp; try omega) (by simp [one_int])
  rw [Ms.oreg hok6 ha] at o7
  have q1s := (x6.keep k7 (by simp; omega)).load1 (off := 1) rfl
  have q4s := (x6.keep k7 (by simp; omega)).load1 (off := 4) rfl
  refine fn_w 71 [95, 105, 118, 132, 146, 162, 178, 197, 220, 240, 264, 271, 279, 285, 293, 302, 313, 329, 339, 339] k13 hS rfl ?_
  simp [-Int.natCast_add, -BitVec.toNat_or, -BitVec.toNat_ofInt, -BitVec.toNat_and, fieldAddr_of fa37_5, load_of ld3, fieldAddr_of fa37_2, len_slice u22, index_slice u22 sz52, load_agg ld52, store_of sz3, alloc_of zo52, store_of sz52, fieldAddr_of fa37_0, fieldAddr_of fa37_3, fieldAddr_of fa52_0, fieldAddr_of fa52_1, fieldAddr_of fa52_4, load_of ld2, conv_i u2 u33, indexAddr_arr u34 sz33, store_of sz33, fieldAddr_of fa52_2, load_of ld33, fieldAddr_of fa37_1, indexAddr_arr u35 sz33, conv_i u3 u33, fieldAddr_of fa52_3, fieldAddr_of fa37_6, fieldAddr_of fa37_4, hlo, s0, p0, hp, pp, ep, np, nl, ld, cR, p1, ld1, e4, p4, wp, e5, s5, wst, e6, q0, q1, q2, q3, q4, la, lb', lc, ha, hb', hc, ea, eb, ec, hopr, hr, e7, q1s, q4s]
  rw [hpc, hst]
  exact ⟨⟨o7, H6.keep k7 (by simpa using n1) (by simpa using n2)⟩, k06.trans (k7.mono (by simp))⟩
set_option maxHeartbeats 8000000 in
theorem ref_Le (hS : S 13 = []) (hN : Nr S) (hX : MR m b f hb hf wb wf M ws lo ls lf le) {p st : Nat} (hp : p < ls.length) (hpc : M.pc = (p : Int)) (hst : M.steps = (st : Int)) (hs2 : st ≤ 1000000) (hs0 : M.state = 0) {ra rb rc : Nat} (ha : ra < 16) (hb' : rb < 16) (hc : rc < 16) {n r : Int} (hop : S 39 = []) (hr : ∀ m : Mem, callw Tryd.prog TT S 38 [.int .i64 13, .int .u64 (M.R.getD rb 0), .int .u64 (M.R.getD rc 0)] m = some (.tuple #[.int .u64 r, .bool true], m)) (hx : ls[p] = (15, (ra : Int), (rb : Int), (rc : Int), n)) (hR : RightI (15, (ra : Int), (rb : Int), (rc : Int), n) ls.length) (wish : Int) :
    ∃ v m1, callw Tryd.prog TT S 13 [.pointer (some ⟨b, 0, none⟩), .slice lo ls.length ls.length, .pointer (some ⟨hb, 0, none⟩), .int .i64 wish] m = some (v, m1) ∧ (MaAt m1 b f { M with pc := M.pc + 1, steps := M.steps + 1, R := M.R.set ra (r) } ∧ RefAt m1 hb hf wb wf (ws) 100) ∧ Keeps m m1 [f, wf] := by
  obtain ⟨hM, hH, hl, hll, hok, hwd, hle, n1, n2, n3'⟩ := hX
  have s0 := hM.load1 (off := 419) (v := .int .i64 M.state) (Ms.scal hok 3)
  rw [hs0] at s0
  have p0 := hM.load1 (off := 416) (v := .int .i64 M.pc) (Ms.scal hok 0)
  rw [hpc] at p0
  obtain ⟨lb, hlo, ol⟩ := hl.rdo (by omega)
  have ld : loadRow m ⟨lb, p * 5, none⟩ 5 = some (icl (15, (ra : Int), (rb : Int), (rc : Int), n)) := by rw [ol.load 5 (by rw [icv_len]; omega), icv_win hp, hx]
  obtain ⟨_, mR, cR, ⟨bR, rfl, hbR⟩, kR⟩ := ins_run (m := m) hN (15, (ra : Int), (rb : Int), (rc : Int), n) (size := ls.length) (by omega)
  have hbt := hbR.2 hR
  subst hbt
  have MR := hM.keep kR (by simp)
  have p1 := MR.load1 (off := 416) (v := .int .i64 M.pc) (Ms.scal hok 0)
  rw [hpc] at p1
  have olR := ol.keep kR (by simp)
  have ld1 : loadRow mR ⟨lb, p * 5, none⟩ 5 = some (icl (15, (ra : Int), (rb : Int), (rc : Int), n)) := by rw [olR.load 5 (by rw [icv_len]; omega), icv_win hp, hx]
  have pp : (p : Int) < ls.length := by omega
  have ep : (p : Int) ≤ 9223372036854775807 := by omega
  have np : ¬ (p : Int) < 0 := by omega
  have nl : ¬ (ls.length : Int) ≤ p := by omega
  have hfm := hM.flt
  have hfR := MR.flt
  obtain ⟨o3, k3, n3⟩ := new_own (m := mR) (cs := [.int .i64 0, .int .i64 0, .int .i64 0, .int .i64 0, .int .i64 0]) (e := 52) rfl
  obtain ⟨m4, e4, o4, k4⟩ := store_own (r := _) rfl o3 (off := 0) (vs := icl (15, (ra : Int), (rb : Int), (rc : Int), n)) (by simp) (by simp [one_int])
  simp [over] at o4
  have k34 := k3.fresh k4 (by simp)
  have M4 := MR.keep k34 (by simp)
  have p4 := M4.load1 (off := 416) (v := .int .i64 M.pc) (Ms.scal hok 0)
  rw [hpc] at p4
  have wp : IntKind.i64.wrap ((p : Int) + 1) = (p : Int) + 1 := wrap_i64 (by omega) (by omega)
  have wst : IntKind.i64.wrap ((st : Int) + 1) = (st : Int) + 1 := wrap_i64 (by omega) (by omega)
  obtain ⟨m5, e5, o5, k5⟩ := store_own (r := _) rfl M4 (off := 416) (vs := [.int .i64 ((p : Int) + 1)]) (by rw [Ms.len hok]; simp) (by simp [one_int])
  rw [Ms.opc hok] at o5
  have hok5 := Ms.ok_pc hok ((p : Int) + 1)
  have s5 := o5.load1 (off := 417) (v := .int .i64 M.steps) (Ms.scal hok5 1)
  rw [hst] at s5
  obtain ⟨m6, e6, o6, k6⟩ := store_own (r := _) rfl o5 (off := 417) (vs := [.int .i64 ((st : Int) + 1)]) (by rw [Ms.len hok5]; simp) (by simp [one_int])
  rw [Ms.osteps hok5] at o6
  have hok6 := Ms.ok_steps hok5 ((st : Int) + 1)
  have k56 := k5.trans k6
  have x6 := o4.keep k56 (by simp; omega)
  have q0 := x6.load1 (off := 0) rfl
  have q1 := x6.load1 (off := 1) rfl
  have q2 := x6.load1 (off := 2) rfl
  have q3 := x6.load1 (off := 3) rfl
  have q4 := x6.load1 (off := 4) rfl
  have la := o6.load1 (off := ra) (Ms.reg hok6 ha)
  have lb' := o6.load1 (off := rb) (Ms.reg hok6 hb')
  have lc := o6.load1 (off := rc) (Ms.reg hok6 hc)
  generalize hva : M.R.getD ra 0 = va at *
  generalize hvb : M.R.getD rb 0 = vb at *
  generalize hvc : M.R.getD rc 0 = vc at *
  have ea : (ra : Int) ≤ 9223372036854775807 := by omega
  have eb : (rb : Int) ≤ 9223372036854775807 := by omega
  have ec : (rc : Int) ≤ 9223372036854775807 := by omega
  have H6 := ((hH.keep kR (by simp) (by simp)).keep k34 (by simp) (by simp)).keep k56 (by simpa using n1) (by simpa using n2)
  have k06 := ((kR.trans k34).nil (fs := [f, wf])).trans (k56.mono (by simp))
  have hopr := fun m' => rop_run (m := m') hop (k := 15) (by omega)
  obtain ⟨m7, e7, o7, k7⟩ := store_own (r := _) rfl o6 (off := ra) (vs := [.int .u64 (r)]) (by rw [Ms.len hok6]; simp; try omega) (by simp [one_int])
  rw [Ms.oreg hok6 ha] at o7
  have q1s := (x6.keep k7 (by simp; omega)).load1 (off := 1) rfl
  have q4s := (x6.keep k7 (by simp; omega)).load1 (off := 4) rfl
  refine fn_w 71 [95, 105, 118, 132, 146, 162, 178, 197, 220, 240, 264, 271, 279, 285, 293, 302, 313, 329, 339, 339] k13 hS rfl ?_
  simp [-Int.natCast_add, -BitVec.toNat_or, -BitVec.toNat_ofInt, -BitVec.toNat_and, fieldAddr_of fa37_5, load_of ld3, fieldAddr_of fa37_2, len_slice u22, index_slice u22 sz52, load_agg ld52, store_of sz3, alloc_of zo52, store_of sz52, fieldAddr_of fa37_0, fieldAddr_of fa37_3, fieldAddr_of fa52_0, fieldAddr_of fa52_1, fieldAddr_of fa52_4, load_of ld2, conv_i u2 u33, indexAddr_arr u34 sz33, store_of sz33, fieldAddr_of fa52_2, load_of ld33, fieldAddr_of fa37_1, indexAddr_arr u35 sz33, conv_i u3 u33, fieldAddr_of fa52_3, fieldAddr_of fa37_6, fieldAddr_of fa37_4, hlo, s0, p0, hp, pp, ep, np, nl, ld, cR, p1, ld1, e4, p4, wp, e5, s5, wst, e6, q0, q1, q2, q3, q4, la, lb', lc, ha, hb', hc, ea, eb, ec, hopr, hr, e7, q1s, q4s]
  rw [hpc, hst]
  exact ⟨⟨o7, H6.keep k7 (by simpa using n1) (by simpa using n2)⟩, k06.trans (k7.mono (by simp))⟩
set_option maxHeartbeats 8000000 in
theorem ref_Below (hS : S 13 = []) (hN : Nr S) (hX : MR m b f hb hf wb wf M ws lo ls lf le) {p st : Nat} (hp : p < ls.length) (hpc : M.pc = (p : Int)) (hst : M.steps = (st : Int)) (hs2 : st ≤ 1000000) (hs0 : M.state = 0) {ra rb rc : Nat} (ha : ra < 16) (hb' : rb < 16) (hc : rc < 16) {n r : Int} (hop : S 39 = []) (hr : ∀ m : Mem, callw Tryd.prog TT S 38 [.int .i64 14, .int .u64 (M.R.getD rb 0), .int .u64 (M.R.getD rc 0)] m = some (.tuple #[.int .u64 r, .bool true], m)) (hx : ls[p] = (16, (ra : Int), (rb : Int), (rc : Int), n)) (hR : RightI (16, (ra : Int), (rb : Int), (rc : Int), n) ls.length) (wish : Int) :
    ∃ v m1, callw Tryd.prog TT S 13 [.pointer (some ⟨b, 0, none⟩), .slice lo ls.length ls.length, .pointer (some ⟨hb, 0, none⟩), .int .i64 wish] m = some (v, m1) ∧ (MaAt m1 b f { M with pc := M.pc + 1, steps := M.steps + 1, R := M.R.set ra (r) } ∧ RefAt m1 hb hf wb wf (ws) 100) ∧ Keeps m m1 [f, wf] := by
  obtain ⟨hM, hH, hl, hll, hok, hwd, hle, n1, n2, n3'⟩ := hX
  have s0 := hM.load1 (off := 419) (v := .int .i64 M.state) (Ms.scal hok 3)
  rw [hs0] at s0
  have p0 := hM.load1 (off := 416) (v := .int .i64 M.pc) (Ms.scal hok 0)
  rw [hpc] at p0
  obtain ⟨lb, hlo, ol⟩ := hl.rdo (by omega)
  have ld : loadRow m ⟨lb, p * 5, none⟩ 5 = some (icl (16, (ra : Int), (rb : Int), (rc : Int), n)) := by rw [ol.load 5 (by rw [icv_len]; omega), icv_win hp, hx]
  obtain ⟨_, mR, cR, ⟨bR, rfl, hbR⟩, kR⟩ := ins_run (m := m) hN (16, (ra : Int), (rb : Int), (rc : Int), n) (size := ls.length) (by omega)
  have hbt := hbR.2 hR
  subst hbt
  have MR := hM.keep kR (by simp)
  have p1 := MR.load1 (off := 416) (v := .int .i64 M.pc) (Ms.scal hok 0)
  rw [hpc] at p1
  have olR := ol.keep kR (by simp)
  have ld1 : loadRow mR ⟨lb, p * 5, none⟩ 5 = some (icl (16, (ra : Int), (rb : Int), (rc : Int), n)) := by rw [olR.load 5 (by rw [icv_len]; omega), icv_win hp, hx]
  have pp : (p : Int) < ls.length := by omega
  have ep : (p : Int) ≤ 9223372036854775807 := by omega
  have np : ¬ (p : Int) < 0 := by omega
  have nl : ¬ (ls.length : Int) ≤ p := by omega
  have hfm := hM.flt
  have hfR := MR.flt
  obtain ⟨o3, k3, n3⟩ := new_own (m := mR) (cs := [.int .i64 0, .int .i64 0, .int .i64 0, .int .i64 0, .int .i64 0]) (e := 52) rfl
  obtain ⟨m4, e4, o4, k4⟩ := store_own (r := _) rfl o3 (off := 0) (vs := icl (16, (ra : Int), (rb : Int), (rc : Int), n)) (by simp) (by simp [one_int])
  simp [over] at o4
  have k34 := k3.fresh k4 (by simp)
  have M4 := MR.keep k34 (by simp)
  have p4 := M4.load1 (off := 416) (v := .int .i64 M.pc) (Ms.scal hok 0)
  rw [hpc] at p4
  have wp : IntKind.i64.wrap ((p : Int) + 1) = (p : Int) + 1 := wrap_i64 (by omega) (by omega)
  have wst : IntKind.i64.wrap ((st : Int) + 1) = (st : Int) + 1 := wrap_i64 (by omega) (by omega)
  obtain ⟨m5, e5, o5, k5⟩ := store_own (r := _) rfl M4 (off := 416) (vs := [.int .i64 ((p : Int) + 1)]) (by rw [Ms.len hok]; simp) (by simp [one_int])
  rw [Ms.opc hok] at o5
  have hok5 := Ms.ok_pc hok ((p : Int) + 1)
  have s5 := o5.load1 (off := 417) (v := .int .i64 M.steps) (Ms.scal hok5 1)
  rw [hst] at s5
  obtain ⟨m6, e6, o6, k6⟩ := store_own (r := _) rfl o5 (off := 417) (vs := [.int .i64 ((st : Int) + 1)]) (by rw [Ms.len hok5]; simp) (by simp [one_int])
  rw [Ms.osteps hok5] at o6
  have hok6 := Ms.ok_steps hok5 ((st : Int) + 1)
  have k56 := k5.trans k6
  have x6 := o4.keep k56 (by simp; omega)
  have q0 := x6.load1 (off := 0) rfl
  have q1 := x6.load1 (off := 1) rfl
  have q2 := x6.load1 (off := 2) rfl
  have q3 := x6.load1 (off := 3) rfl
  have q4 := x6.load1 (off := 4) rfl
  have la := o6.load1 (off := ra) (Ms.reg hok6 ha)
  have lb' := o6.load1 (off := rb) (Ms.reg hok6 hb')
  have lc := o6.load1 (off := rc) (Ms.reg hok6 hc)
  generalize hva : M.R.getD ra 0 = va at *
  generalize hvb : M.R.getD rb 0 = vb at *
  generalize hvc : M.R.getD rc 0 = vc at *
  have ea : (ra : Int) ≤ 9223372036854775807 := by omega
  have eb : (rb : Int) ≤ 9223372036854775807 := by omega
  have ec : (rc : Int) ≤ 9223372036854775807 := by omega
  have H6 := ((hH.keep kR (by simp) (by simp)).keep k34 (by simp) (by simp)).keep k56 (by simpa using n1) (by simpa using n2)
  have k06 := ((kR.trans k34).nil (fs := [f, wf])).trans (k56.mono (by simp))
  have hopr := fun m' => rop_run (m := m') hop (k := 16) (by omega)
  obtain ⟨m7, e7, o7, k7⟩ := store_own (r := _) rfl o6 (off := ra) (vs := [.int .u64 (r)]) (by rw [Ms.len hok6]; simp; try omega) (by simp [one_int])
  rw [Ms.oreg hok6 ha] at o7
  have q1s := (x6.keep k7 (by simp; omega)).load1 (off := 1) rfl
  have q4s := (x6.keep k7 (by simp; omega)).load1 (off := 4) rfl
  refine fn_w 71 [95, 105, 118, 132, 146, 162, 178, 197, 220, 240, 264, 271, 279, 285, 293, 302, 313, 329, 339, 339] k13 hS rfl ?_
  simp [-Int.natCast_add, -BitVec.toNat_or, -BitVec.toNat_ofInt, -BitVec.toNat_and, fieldAddr_of fa37_5, load_of ld3, fieldAddr_of fa37_2, len_slice u22, index_slice u22 sz52, load_agg ld52, store_of sz3, alloc_of zo52, store_of sz52, fieldAddr_of fa37_0, fieldAddr_of fa37_3, fieldAddr_of fa52_0, fieldAddr_of fa52_1, fieldAddr_of fa52_4, load_of ld2, conv_i u2 u33, indexAddr_arr u34 sz33, store_of sz33, fieldAddr_of fa52_2, load_of ld33, fieldAddr_of fa37_1, indexAddr_arr u35 sz33, conv_i u3 u33, fieldAddr_of fa52_3, fieldAddr_of fa37_6, fieldAddr_of fa37_4, hlo, s0, p0, hp, pp, ep, np, nl, ld, cR, p1, ld1, e4, p4, wp, e5, s5, wst, e6, q0, q1, q2, q3, q4, la, lb', lc, ha, hb', hc, ea, eb, ec, hopr, hr, e7, q1s, q4s]
  rw [hpc, hst]
  exact ⟨⟨o7, H6.keep k7 (by simpa using n1) (by simpa using n2)⟩, k06.trans (k7.mono (by simp))⟩
set_option maxHeartbeats 8000000 in
theorem ref_Neg (hS : S 13 = []) (hN : Nr S) (hX : MR m b f hb hf wb wf M ws lo ls lf le) {p st : Nat} (hp : p < ls.length) (hpc : M.pc = (p : Int)) (hst : M.steps = (st : Int)) (hs2 : st ≤ 1000000) (hs0 : M.state = 0) {ra rb rc : Nat} (ha : ra < 16) (hb' : rb < 16) (hc : rc < 16) {n r : Int} (hop : S 39 = []) (hr : ∀ m : Mem, callw Tryd.prog TT S 38 [.int .i64 8, .int .u64 (M.R.getD rb 0), .int .u64 0] m = some (.tuple #[.int .u64 r, .bool true], m)) (hx : ls[p] = (10, (ra : Int), (rb : Int), (rc : Int), n)) (hR : RightI (10, (ra : Int), (rb : Int), (rc : Int), n) ls.length) (wish : Int) :
    ∃ v m1, callw Tryd.prog TT S 13 [.pointer (some ⟨b, 0, none⟩), .slice lo ls.length ls.length, .pointer (some ⟨hb, 0, none⟩), .int .i64 wish] m = some (v, m1) ∧ (MaAt m1 b f { M with pc := M.pc + 1, steps := M.steps + 1, R := M.R.set ra (r) } ∧ RefAt m1 hb hf wb wf (ws) 100) ∧ Keeps m m1 [f, wf] := by
  obtain ⟨hM, hH, hl, hll, hok, hwd, hle, n1, n2, n3'⟩ := hX
  have s0 := hM.load1 (off := 419) (v := .int .i64 M.state) (Ms.scal hok 3)
  rw [hs0] at s0
  have p0 := hM.load1 (off := 416) (v := .int .i64 M.pc) (Ms.scal hok 0)
  rw [hpc] at p0
  obtain ⟨lb, hlo, ol⟩ := hl.rdo (by omega)
  have ld : loadRow m ⟨lb, p * 5, none⟩ 5 = some (icl (10, (ra : Int), (rb : Int), (rc : Int), n)) := by rw [ol.load 5 (by rw [icv_len]; omega), icv_win hp, hx]
  obtain ⟨_, mR, cR, ⟨bR, rfl, hbR⟩, kR⟩ := ins_run (m := m) hN (10, (ra : Int), (rb : Int), (rc : Int), n) (size := ls.length) (by omega)
  have hbt := hbR.2 hR
  subst hbt
  have MR := hM.keep kR (by simp)
  have p1 := MR.load1 (off := 416) (v := .int .i64 M.pc) (Ms.scal hok 0)
  rw [hpc] at p1
  have olR := ol.keep kR (by simp)
  have ld1 : loadRow mR ⟨lb, p * 5, none⟩ 5 = some (icl (10, (ra : Int), (rb : Int), (rc : Int), n)) := by rw [olR.load 5 (by rw [icv_len]; omega), icv_win hp, hx]
  have pp : (p : Int) < ls.length := by omega
  have ep : (p : Int) ≤ 9223372036854775807 := by omega
  have np : ¬ (p : Int) < 0 := by omega
  have nl : ¬ (ls.length : Int) ≤ p := by omega
  have hfm := hM.flt
  have hfR := MR.flt
  obtain ⟨o3, k3, n3⟩ := new_own (m := mR) (cs := [.int .i64 0, .int .i64 0, .int .i64 0, .int .i64 0, .int .i64 0]) (e := 52) rfl
  obtain ⟨m4, e4, o4, k4⟩ := store_own (r := _) rfl o3 (off := 0) (vs := icl (10, (ra : Int), (rb : Int), (rc : Int), n)) (by simp) (by simp [one_int])
  simp [over] at o4
  have k34 := k3.fresh k4 (by simp)
  have M4 := MR.keep k34 (by simp)
  have p4 := M4.load1 (off := 416) (v := .int .i64 M.pc) (Ms.scal hok 0)
  rw [hpc] at p4
  have wp : IntKind.i64.wrap ((p : Int) + 1) = (p : Int) + 1 := wrap_i64 (by omega) (by omega)
  have wst : IntKind.i64.wrap ((st : Int) + 1) = (st : Int) + 1 := wrap_i64 (by omega) (by omega)
  obtain ⟨m5, e5, o5, k5⟩ := store_own (r := _) rfl M4 (off := 416) (vs := [.int .i64 ((p : Int) + 1)]) (by rw [Ms.len hok]; simp) (by simp [one_int])
  rw [Ms.opc hok] at o5
  have hok5 := Ms.ok_pc hok ((p : Int) + 1)
  have s5 := o5.load1 (off := 417) (v := .int .i64 M.steps) (Ms.scal hok5 1)
  rw [hst] at s5
  obtain ⟨m6, e6, o6, k6⟩ := store_own (r := _) rfl o5 (off := 417) (vs := [.int .i64 ((st : Int) + 1)]) (by rw [Ms.len hok5]; simp) (by simp [one_int])
  rw [Ms.osteps hok5] at o6
  have hok6 := Ms.ok_steps hok5 ((st : Int) + 1)
  have k56 := k5.trans k6
  have x6 := o4.keep k56 (by simp; omega)
  have q0 := x6.load1 (off := 0) rfl
  have q1 := x6.load1 (off := 1) rfl
  have q2 := x6.load1 (off := 2) rfl
  have q3 := x6.load1 (off := 3) rfl
  have q4 := x6.load1 (off := 4) rfl
  have la := o6.load1 (off := ra) (Ms.reg hok6 ha)
  have lb' := o6.load1 (off := rb) (Ms.reg hok6 hb')
  have lc := o6.load1 (off := rc) (Ms.reg hok6 hc)
  generalize hva : M.R.getD ra 0 = va at *
  generalize hvb : M.R.getD rb 0 = vb at *
  generalize hvc : M.R.getD rc 0 = vc at *
  have ea : (ra : Int) ≤ 9223372036854775807 := by omega
  have eb : (rb : Int) ≤ 9223372036854775807 := by omega
  have ec : (rc : Int) ≤ 9223372036854775807 := by omega
  have H6 := ((hH.keep kR (by simp) (by simp)).keep k34 (by simp) (by simp)).keep k56 (by simpa using n1) (by simpa using n2)
  have k06 := ((kR.trans k34).nil (fs := [f, wf])).trans (k56.mono (by simp))
  have hopr := fun m' => rop_run (m := m') hop (k := 10) (by omega)
  obtain ⟨m7, e7, o7, k7⟩ := store_own (r := _) rfl o6 (off := ra) (vs := [.int .u64 (r)]) (by rw [Ms.len hok6]; simp; try omega) (by simp [one_int])
  rw [Ms.oreg hok6 ha] at o7
  have q1s := (x6.keep k7 (by simp; omega)).load1 (off := 1) rfl
  have q4s := (x6.keep k7 (by simp; omega)).load1 (off := 4) rfl
  refine fn_w 71 [95, 105, 118, 132, 146, 162, 178, 197, 220, 240, 264, 271, 279, 285, 293, 302, 313, 329, 339, 339] k13 hS rfl ?_
  simp [-Int.natCast_add, -BitVec.toNat_or, -BitVec.toNat_ofInt, -BitVec.toNat_and, fieldAddr_of fa37_5, load_of ld3, fieldAddr_of fa37_2, len_slice u22, index_slice u22 sz52, load_agg ld52, store_of sz3, alloc_of zo52, store_of sz52, fieldAddr_of fa37_0, fieldAddr_of fa37_3, fieldAddr_of fa52_0, fieldAddr_of fa52_1, fieldAddr_of fa52_4, load_of ld2, conv_i u2 u33, indexAddr_arr u34 sz33, store_of sz33, fieldAddr_of fa52_2, load_of ld33, fieldAddr_of fa37_1, indexAddr_arr u35 sz33, conv_i u3 u33, fieldAddr_of fa52_3, fieldAddr_of fa37_6, fieldAddr_of fa37_4, hlo, s0, p0, hp, pp, ep, np, nl, ld, cR, p1, ld1, e4, p4, wp, e5, s5, wst, e6, q0, q1, q2, q3, q4, la, lb', lc, ha, hb', hc, ea, eb, ec, hopr, hr, e7, q1s, q4s]
  rw [hpc, hst]
  exact ⟨⟨o7, H6.keep k7 (by simpa using n1) (by simpa using n2)⟩, k06.trans (k7.mono (by simp))⟩
set_option maxHeartbeats 8000000 in
theorem ref_Not (hS : S 13 = []) (hN : Nr S) (hX : MR m b f hb hf wb wf M ws lo ls lf le) {p st : Nat} (hp : p < ls.length) (hpc : M.pc = (p : Int)) (hst : M.steps = (st : Int)) (hs2 : st ≤ 1000000) (hs0 : M.state = 0) {ra rb rc : Nat} (ha : ra < 16) (hb' : rb < 16) (hc : rc < 16) {n r : Int} (hop : S 39 = []) (hr : ∀ m : Mem, callw Tryd.prog TT S 38 [.int .i64 9, .int .u64 (M.R.getD rb 0), .int .u64 0] m = some (.tuple #[.int .u64 r, .bool true], m)) (hx : ls[p] = (11, (ra : Int), (rb : Int), (rc : Int), n)) (hR : RightI (11, (ra : Int), (rb : Int), (rc : Int), n) ls.length) (wish : Int) :
    ∃ v m1, callw Tryd.prog TT S 13 [.pointer (some ⟨b, 0, none⟩), .slice lo ls.length ls.length, .pointer (some ⟨hb, 0, none⟩), .int .i64 wish] m = some (v, m1) ∧ (MaAt m1 b f { M with pc := M.pc + 1, steps := M.steps + 1, R := M.R.set ra (r) } ∧ RefAt m1 hb hf wb wf (ws) 100) ∧ Keeps m m1 [f, wf] := by
  obtain ⟨hM, hH, hl, hll, hok, hwd, hle, n1, n2, n3'⟩ := hX
  have s0 := hM.load1 (off := 419) (v := .int .i64 M.state) (Ms.scal hok 3)
  rw [hs0] at s0
  have p0 := hM.load1 (off := 416) (v := .int .i64 M.pc) (Ms.scal hok 0)
  rw [hpc] at p0
  obtain ⟨lb, hlo, ol⟩ := hl.rdo (by omega)
  have ld : loadRow m ⟨lb, p * 5, none⟩ 5 = some (icl (11, (ra : Int), (rb : Int), (rc : Int), n)) := by rw [ol.load 5 (by rw [icv_len]; omega), icv_win hp, hx]
  obtain ⟨_, mR, cR, ⟨bR, rfl, hbR⟩, kR⟩ := ins_run (m := m) hN (11, (ra : Int), (rb : Int), (rc : Int), n) (size := ls.length) (by omega)
  have hbt := hbR.2 hR
  subst hbt
  have MR := hM.keep kR (by simp)
  have p1 := MR.load1 (off := 416) (v := .int .i64 M.pc) (Ms.scal hok 0)
  rw [hpc] at p1
  have olR := ol.keep kR (by simp)
  have ld1 : loadRow mR ⟨lb, p * 5, none⟩ 5 = some (icl (11, (ra : Int), (rb : Int), (rc : Int), n)) := by rw [olR.load 5 (by rw [icv_len]; omega), icv_win hp, hx]
  have pp : (p : Int) < ls.length := by omega
  have ep : (p : Int) ≤ 9223372036854775807 := by omega
  have np : ¬ (p : Int) < 0 := by omega
  have nl : ¬ (ls.length : Int) ≤ p := by omega
  have hfm := hM.flt
  have hfR := MR.flt
  obtain ⟨o3, k3, n3⟩ := new_own (m := mR) (cs := [.int .i64 0, .int .i64 0, .int .i64 0, .int .i64 0, .int .i64 0]) (e := 52) rfl
  obtain ⟨m4, e4, o4, k4⟩ := store_own (r := _) rfl o3 (off := 0) (vs := icl (11, (ra : Int), (rb : Int), (rc : Int), n)) (by simp) (by simp [one_int])
  simp [over] at o4
  have k34 := k3.fresh k4 (by simp)
  have M4 := MR.keep k34 (by simp)
  have p4 := M4.load1 (off := 416) (v := .int .i64 M.pc) (Ms.scal hok 0)
  rw [hpc] at p4
  have wp : IntKind.i64.wrap ((p : Int) + 1) = (p : Int) + 1 := wrap_i64 (by omega) (by omega)
  have wst : IntKind.i64.wrap ((st : Int) + 1) = (st : Int) + 1 := wrap_i64 (by omega) (by omega)
  obtain ⟨m5, e5, o5, k5⟩ := store_own (r := _) rfl M4 (off := 416) (vs := [.int .i64 ((p : Int) + 1)]) (by rw [Ms.len hok]; simp) (by simp [one_int])
  rw [Ms.opc hok] at o5
  have hok5 := Ms.ok_pc hok ((p : Int) + 1)
  have s5 := o5.load1 (off := 417) (v := .int .i64 M.steps) (Ms.scal hok5 1)
  rw [hst] at s5
  obtain ⟨m6, e6, o6, k6⟩ := store_own (r := _) rfl o5 (off := 417) (vs := [.int .i64 ((st : Int) + 1)]) (by rw [Ms.len hok5]; simp) (by simp [one_int])
  rw [Ms.osteps hok5] at o6
  have hok6 := Ms.ok_steps hok5 ((st : Int) + 1)
  have k56 := k5.trans k6
  have x6 := o4.keep k56 (by simp; omega)
  have q0 := x6.load1 (off := 0) rfl
  have q1 := x6.load1 (off := 1) rfl
  have q2 := x6.load1 (off := 2) rfl
  have q3 := x6.load1 (off := 3) rfl
  have q4 := x6.load1 (off := 4) rfl
  have la := o6.load1 (off := ra) (Ms.reg hok6 ha)
  have lb' := o6.load1 (off := rb) (Ms.reg hok6 hb')
  have lc := o6.load1 (off := rc) (Ms.reg hok6 hc)
  generalize hva : M.R.getD ra 0 = va at *
  generalize hvb : M.R.getD rb 0 = vb at *
  generalize hvc : M.R.getD rc 0 = vc at *
  have ea : (ra : Int) ≤ 9223372036854775807 := by omega
  have eb : (rb : Int) ≤ 9223372036854775807 := by omega
  have ec : (rc : Int) ≤ 9223372036854775807 := by omega
  have H6 := ((hH.keep kR (by simp) (by simp)).keep k34 (by simp) (by simp)).keep k56 (by simpa using n1) (by simpa using n2)
  have k06 := ((kR.trans k34).nil (fs := [f, wf])).trans (k56.mono (by simp))
  have hopr := fun m' => rop_run (m := m') hop (k := 11) (by omega)
  obtain ⟨m7, e7, o7, k7⟩ := store_own (r := _) rfl o6 (off := ra) (vs := [.int .u64 (r)]) (by rw [Ms.len hok6]; simp; try omega) (by simp [one_int])
  rw [Ms.oreg hok6 ha] at o7
  have q1s := (x6.keep k7 (by simp; omega)).load1 (off := 1) rfl
  have q4s := (x6.keep k7 (by simp; omega)).load1 (off := 4) rfl
  refine fn_w 71 [95, 105, 118, 132, 146, 162, 178, 197, 220, 240, 264, 271, 279, 285, 293, 302, 313, 329, 339, 339] k13 hS rfl ?_
  simp [-Int.natCast_add, -BitVec.toNat_or, -BitVec.toNat_ofInt, -BitVec.toNat_and, fieldAddr_of fa37_5, load_of ld3, fieldAddr_of fa37_2, len_slice u22, index_slice u22 sz52, load_agg ld52, store_of sz3, alloc_of zo52, store_of sz52, fieldAddr_of fa37_0, fieldAddr_of fa37_3, fieldAddr_of fa52_0, fieldAddr_of fa52_1, fieldAddr_of fa52_4, load_of ld2, conv_i u2 u33, indexAddr_arr u34 sz33, store_of sz33, fieldAddr_of fa52_2, load_of ld33, fieldAddr_of fa37_1, indexAddr_arr u35 sz33, conv_i u3 u33, fieldAddr_of fa52_3, fieldAddr_of fa37_6, fieldAddr_of fa37_4, hlo, s0, p0, hp, pp, ep, np, nl, ld, cR, p1, ld1, e4, p4, wp, e5, s5, wst, e6, q0, q1, q2, q3, q4, la, lb', lc, ha, hb', hc, ea, eb, ec, hopr, hr, e7, q1s, q4s]
  rw [hpc, hst]
  exact ⟨⟨o7, H6.keep k7 (by simpa using n1) (by simpa using n2)⟩, k06.trans (k7.mono (by simp))⟩
set_option maxHeartbeats 8000000 in
theorem ref_TypeOf (hS : S 13 = []) (hN : Nr S) (hX : MR m b f hb hf wb wf M ws lo ls lf le) {p st : Nat} (hp : p < ls.length) (hpc : M.pc = (p : Int)) (hst : M.steps = (st : Int)) (hs2 : st ≤ 1000000) (hs0 : M.state = 0) {ra rb rc : Nat} (ha : ra < 16) (hb' : rb < 16) (hc : rc < 16) {n : Int} (hP : Hr S) (hx : ls[p] = (17, (ra : Int), (rb : Int), (rc : Int), n)) (hR : RightI (17, (ra : Int), (rb : Int), (rc : Int), n) ls.length) (wish : Int) :
    ∃ v m1, callw Tryd.prog TT S 13 [.pointer (some ⟨b, 0, none⟩), .slice lo ls.length ls.length, .pointer (some ⟨hb, 0, none⟩), .int .i64 wish] m = some (v, m1) ∧ (MaAt m1 b f { M with pc := M.pc + 1, steps := M.steps + 1, R := M.R.set ra (IntKind.u64.wrap (ws.getD (M.R.getD rb 0).toNat 0 / 4294967296)) } ∧ RefAt m1 hb hf wb wf (ws) 100) ∧ Keeps m m1 [f, wf] := by
  obtain ⟨hM, hH, hl, hll, hok, hwd, hle, n1, n2, n3'⟩ := hX
  have s0 := hM.load1 (off := 419) (v := .int .i64 M.state) (Ms.scal hok 3)
  rw [hs0] at s0
  have p0 := hM.load1 (off := 416) (v := .int .i64 M.pc) (Ms.scal hok 0)
  rw [hpc] at p0
  obtain ⟨lb, hlo, ol⟩ := hl.rdo (by omega)
  have ld : loadRow m ⟨lb, p * 5, none⟩ 5 = some (icl (17, (ra : Int), (rb : Int), (rc : Int), n)) := by rw [ol.load 5 (by rw [icv_len]; omega), icv_win hp, hx]
  obtain ⟨_, mR, cR, ⟨bR, rfl, hbR⟩, kR⟩ := ins_run (m := m) hN (17, (ra : Int), (rb : Int), (rc : Int), n) (size := ls.length) (by omega)
  have hbt := hbR.2 hR
  subst hbt
  have MR := hM.keep kR (by simp)
  have p1 := MR.load1 (off := 416) (v := .int .i64 M.pc) (Ms.scal hok 0)
  rw [hpc] at p1
  have olR := ol.keep kR (by simp)
  have ld1 : loadRow mR ⟨lb, p * 5, none⟩ 5 = some (icl (17, (ra : Int), (rb : Int), (rc : Int), n)) := by rw [olR.load 5 (by rw [icv_len]; omega), icv_win hp, hx]
  have pp : (p : Int) < ls.length := by omega
  have ep : (p : Int) ≤ 9223372036854775807 := by omega
  have np : ¬ (p : Int) < 0 := by omega
  have nl : ¬ (ls.length : Int) ≤ p := by omega
  have hfm := hM.flt
  have hfR := MR.flt
  obtain ⟨o3, k3, n3⟩ := new_own (m := mR) (cs := [.int .i64 0, .int .i64 0, .int .i64 0, .int .i64 0, .int .i64 0]) (e := 52) rfl
  obtain ⟨m4, e4, o4, k4⟩ := store_own (r := _) rfl o3 (off := 0) (vs := icl (17, (ra : Int), (rb : Int), (rc : Int), n)) (by simp) (by simp [one_int])
  simp [over] at o4
  have k34 := k3.fresh k4 (by simp)
  have M4 := MR.keep k34 (by simp)
  have p4 := M4.load1 (off := 416) (v := .int .i64 M.pc) (Ms.scal hok 0)
  rw [hpc] at p4
  have wp : IntKind.i64.wrap ((p : Int) + 1) = (p : Int) + 1 := wrap_i64 (by omega) (by omega)
  have wst : IntKind.i64.wrap ((st : Int) + 1) = (st : Int) + 1 := wrap_i64 (by omega) (by omega)
  obtain ⟨m5, e5, o5, k5⟩ := store_own (r := _) rfl M4 (off := 416) (vs := [.int .i64 ((p : Int) + 1)]) (by rw [Ms.len hok]; simp) (by simp [one_int])
  rw [Ms.opc hok] at o5
  have hok5 := Ms.ok_pc hok ((p : Int) + 1)
  have s5 := o5.load1 (off := 417) (v := .int .i64 M.steps) (Ms.scal hok5 1)
  rw [hst] at s5
  obtain ⟨m6, e6, o6, k6⟩ := store_own (r := _) rfl o5 (off := 417) (vs := [.int .i64 ((st : Int) + 1)]) (by rw [Ms.len hok5]; simp) (by simp [one_int])
  rw [Ms.osteps hok5] at o6
  have hok6 := Ms.ok_steps hok5 ((st : Int) + 1)
  have k56 := k5.trans k6
  have x6 := o4.keep k56 (by simp; omega)
  have q0 := x6.load1 (off := 0) rfl
  have q1 := x6.load1 (off := 1) rfl
  have q2 := x6.load1 (off := 2) rfl
  have q3 := x6.load1 (off := 3) rfl
  have q4 := x6.load1 (off := 4) rfl
  have la := o6.load1 (off := ra) (Ms.reg hok6 ha)
  have lb' := o6.load1 (off := rb) (Ms.reg hok6 hb')
  have lc := o6.load1 (off := rc) (Ms.reg hok6 hc)
  generalize hva : M.R.getD ra 0 = va at *
  generalize hvb : M.R.getD rb 0 = vb at *
  generalize hvc : M.R.getD rc 0 = vc at *
  have ea : (ra : Int) ≤ 9223372036854775807 := by omega
  have eb : (rb : Int) ≤ 9223372036854775807 := by omega
  have ec : (rc : Int) ≤ 9223372036854775807 := by omega
  have H6 := ((hH.keep kR (by simp) (by simp)).keep k34 (by simp) (by simp)).keep k56 (by simpa using n1) (by simpa using n2)
  have k06 := ((kR.trans k34).nil (fs := [f, wf])).trans (k56.mono (by simp))
  have wb' := hok.wr.at_ rb
  rw [hvb] at wb'
  have hcl3 := typeR_run (r := vb) hP.type hP.word H6 wb'.1 hle hwd
  generalize hvw : ws.getD vb.toNat 0 = vw at *
  obtain ⟨m7, e7, o7, k7⟩ := store_own (r := _) rfl o6 (off := ra) (vs := [.int .u64 (IntKind.u64.wrap (vw / 4294967296))]) (by rw [Ms.len hok6]; simp; try omega) (by simp [one_int])
  rw [Ms.oreg hok6 ha] at o7
  have q1s := (x6.keep k7 (by simp; omega)).load1 (off := 1) rfl
  have q4s := (x6.keep k7 (by simp; omega)).load1 (off := 4) rfl
  refine fn_w 71 [95, 105, 118, 132, 146, 162, 178, 197, 220, 240, 264, 271, 279, 285, 293, 302, 313, 329, 339, 339] k13 hS rfl ?_
  simp [-Int.natCast_add, -BitVec.toNat_or, -BitVec.toNat_ofInt, -BitVec.toNat_and, fieldAddr_of fa37_5, load_of ld3, fieldAddr_of fa37_2, len_slice u22, index_slice u22 sz52, load_agg ld52, store_of sz3, alloc_of zo52, store_of sz52, fieldAddr_of fa37_0, fieldAddr_of fa37_3, fieldAddr_of fa52_0, fieldAddr_of fa52_1, fieldAddr_of fa52_4, load_of ld2, conv_i u2 u33, indexAddr_arr u34 sz33, store_of sz33, fieldAddr_of fa52_2, load_of ld33, fieldAddr_of fa37_1, indexAddr_arr u35 sz33, conv_i u3 u33, fieldAddr_of fa52_3, fieldAddr_of fa37_6, fieldAddr_of fa37_4, hlo, s0, p0, hp, pp, ep, np, nl, ld, cR, p1, ld1, e4, p4, wp, e5, s5, wst, e6, q0, q1, q2, q3, q4, la, lb', lc, ha, hb', hc, ea, eb, ec, hcl3, e7, q1s, q4s]
  rw [hpc, hst]
  exact ⟨⟨o7, H6.keep k7 (by simpa using n1) (by simpa using n2)⟩, k06.trans (k7.mono (by simp))⟩
set_option maxHeartbeats 8000000 in
theorem ref_LenOf (hS : S 13 = []) (hN : Nr S) (hX : MR m b f hb hf wb wf M ws lo ls lf le) {p st : Nat} (hp : p < ls.length) (hpc : M.pc = (p : Int)) (hst : M.steps = (st : Int)) (hs2 : st ≤ 1000000) (hs0 : M.state = 0) {ra rb rc : Nat} (ha : ra < 16) (hb' : rb < 16) (hc : rc < 16) {n : Int} (hP : Hr S) (hx : ls[p] = (18, (ra : Int), (rb : Int), (rc : Int), n)) (hR : RightI (18, (ra : Int), (rb : Int), (rc : Int), n) ls.length) (wish : Int) :
    ∃ v m1, callw Tryd.prog TT S 13 [.pointer (some ⟨b, 0, none⟩), .slice lo ls.length ls.length, .pointer (some ⟨hb, 0, none⟩), .int .i64 wish] m = some (v, m1) ∧ (MaAt m1 b f { M with pc := M.pc + 1, steps := M.steps + 1, R := M.R.set ra (IntKind.u64.wrap (ws.getD (M.R.getD rb 0).toNat 0 % 4294967296)) } ∧ RefAt m1 hb hf wb wf (ws) 100) ∧ Keeps m m1 [f, wf] := by
  obtain ⟨hM, hH, hl, hll, hok, hwd, hle, n1, n2, n3'⟩ := hX
  have s0 := hM.load1 (off := 419) (v := .int .i64 M.state) (Ms.scal hok 3)
  rw [hs0] at s0
  have p0 := hM.load1 (off := 416) (v := .int .i64 M.pc) (Ms.scal hok 0)
  rw [hpc] at p0
  obtain ⟨lb, hlo, ol⟩ := hl.rdo (by omega)
  have ld : loadRow m ⟨lb, p * 5, none⟩ 5 = some (icl (18, (ra : Int), (rb : Int), (rc : Int), n)) := by rw [ol.load 5 (by rw [icv_len]; omega), icv_win hp, hx]
  obtain ⟨_, mR, cR, ⟨bR, rfl, hbR⟩, kR⟩ := ins_run (m := m) hN (18, (ra : Int), (rb : Int), (rc : Int), n) (size := ls.length) (by omega)
  have hbt := hbR.2 hR
  subst hbt
  have MR := hM.keep kR (by simp)
  have p1 := MR.load1 (off := 416) (v := .int .i64 M.pc) (Ms.scal hok 0)
  rw [hpc] at p1
  have olR := ol.keep kR (by simp)
  have ld1 : loadRow mR ⟨lb, p * 5, none⟩ 5 = some (icl (18, (ra : Int), (rb : Int), (rc : Int), n)) := by rw [olR.load 5 (by rw [icv_len]; omega), icv_win hp, hx]
  have pp : (p : Int) < ls.length := by omega
  have ep : (p : Int) ≤ 9223372036854775807 := by omega
  have np : ¬ (p : Int) < 0 := by omega
  have nl : ¬ (ls.length : Int) ≤ p := by omega
  have hfm := hM.flt
  have hfR := MR.flt
  obtain ⟨o3, k3, n3⟩ := new_own (m := mR) (cs := [.int .i64 0, .int .i64 0, .int .i64 0, .int .i64 0, .int .i64 0]) (e := 52) rfl
  obtain ⟨m4, e4, o4, k4⟩ := store_own (r := _) rfl o3 (off := 0) (vs := icl (18, (ra : Int), (rb : Int), (rc : Int), n)) (by simp) (by simp [one_int])
  simp [over] at o4
  have k34 := k3.fresh k4 (by simp)
  have M4 := MR.keep k34 (by simp)
  have p4 := M4.load1 (off := 416) (v := .int .i64 M.pc) (Ms.scal hok 0)
  rw [hpc] at p4
  have wp : IntKind.i64.wrap ((p : Int) + 1) = (p : Int) + 1 := wrap_i64 (by omega) (by omega)
  have wst : IntKind.i64.wrap ((st : Int) + 1) = (st : Int) + 1 := wrap_i64 (by omega) (by omega)
  obtain ⟨m5, e5, o5, k5⟩ := store_own (r := _) rfl M4 (off := 416) (vs := [.int .i64 ((p : Int) + 1)]) (by rw [Ms.len hok]; simp) (by simp [one_int])
  rw [Ms.opc hok] at o5
  have hok5 := Ms.ok_pc hok ((p : Int) + 1)
  have s5 := o5.load1 (off := 417) (v := .int .i64 M.steps) (Ms.scal hok5 1)
  rw [hst] at s5
  obtain ⟨m6, e6, o6, k6⟩ := store_own (r := _) rfl o5 (off := 417) (vs := [.int .i64 ((st : Int) + 1)]) (by rw [Ms.len hok5]; simp) (by simp [one_int])
  rw [Ms.osteps hok5] at o6
  have hok6 := Ms.ok_steps hok5 ((st : Int) + 1)
  have k56 := k5.trans k6
  have x6 := o4.keep k56 (by simp; omega)
  have q0 := x6.load1 (off := 0) rfl
  have q1 := x6.load1 (off := 1) rfl
  have q2 := x6.load1 (off := 2) rfl
  have q3 := x6.load1 (off := 3) rfl
  have q4 := x6.load1 (off := 4) rfl
  have la := o6.load1 (off := ra) (Ms.reg hok6 ha)
  have lb' := o6.load1 (off := rb) (Ms.reg hok6 hb')
  have lc := o6.load1 (off := rc) (Ms.reg hok6 hc)
  generalize hva : M.R.getD ra 0 = va at *
  generalize hvb : M.R.getD rb 0 = vb at *
  generalize hvc : M.R.getD rc 0 = vc at *
  have ea : (ra : Int) ≤ 9223372036854775807 := by omega
  have eb : (rb : Int) ≤ 9223372036854775807 := by omega
  have ec : (rc : Int) ≤ 9223372036854775807 := by omega
  have H6 := ((hH.keep kR (by simp) (by simp)).keep k34 (by simp) (by simp)).keep k56 (by simpa using n1) (by simpa using n2)
  have k06 := ((kR.trans k34).nil (fs := [f, wf])).trans (k56.mono (by simp))
  have wb' := hok.wr.at_ rb
  rw [hvb] at wb'
  have hcl3 := lenR_run (r := vb) hP.len hP.word H6 wb'.1 hle hwd
  generalize hvw : ws.getD vb.toNat 0 = vw at *
  obtain ⟨m7, e7, o7, k7⟩ := store_own (r := _) rfl o6 (off := ra) (vs := [.int .u64 (IntKind.u64.wrap (vw % 4294967296))]) (by rw [Ms.len hok6]; simp; try omega) (by simp [one_int])
  rw [Ms.oreg hok6 ha] at o7
  have q1s := (x6.keep k7 (by simp; omega)).load1 (off := 1) rfl
  have q4s := (x6.keep k7 (by simp; omega)).load1 (off := 4) rfl
  refine fn_w 71 [95, 105, 118, 132, 146, 162, 178, 197, 220, 240, 264, 271, 279, 285, 293, 302, 313, 329, 339, 339] k13 hS rfl ?_
  simp [-Int.natCast_add, -BitVec.toNat_or, -BitVec.toNat_ofInt, -BitVec.toNat_and, fieldAddr_of fa37_5, load_of ld3, fieldAddr_of fa37_2, len_slice u22, index_slice u22 sz52, load_agg ld52, store_of sz3, alloc_of zo52, store_of sz52, fieldAddr_of fa37_0, fieldAddr_of fa37_3, fieldAddr_of fa52_0, fieldAddr_of fa52_1, fieldAddr_of fa52_4, load_of ld2, conv_i u2 u33, indexAddr_arr u34 sz33, store_of sz33, fieldAddr_of fa52_2, load_of ld33, fieldAddr_of fa37_1, indexAddr_arr u35 sz33, conv_i u3 u33, fieldAddr_of fa52_3, fieldAddr_of fa37_6, fieldAddr_of fa37_4, hlo, s0, p0, hp, pp, ep, np, nl, ld, cR, p1, ld1, e4, p4, wp, e5, s5, wst, e6, q0, q1, q2, q3, q4, la, lb', lc, ha, hb', hc, ea, eb, ec, hcl3, e7, q1s, q4s]
  rw [hpc, hst]
  exact ⟨⟨o7, H6.keep k7 (by simpa using n1) (by simpa using n2)⟩, k06.trans (k7.mono (by simp))⟩
set_option maxHeartbeats 8000000 in
theorem ref_Word (hS : S 13 = []) (hN : Nr S) (hX : MR m b f hb hf wb wf M ws lo ls lf le) {p st : Nat} (hp : p < ls.length) (hpc : M.pc = (p : Int)) (hst : M.steps = (st : Int)) (hs2 : st ≤ 1000000) (hs0 : M.state = 0) {ra rb rc : Nat} (ha : ra < 16) (hb' : rb < 16) (hc : rc < 16) {n : Int} (hP : Hr S) (hx : ls[p] = (19, (ra : Int), (rb : Int), (rc : Int), n)) (hR : RightI (19, (ra : Int), (rb : Int), (rc : Int), n) ls.length) (wish : Int) :
    ∃ v m1, callw Tryd.prog TT S 13 [.pointer (some ⟨b, 0, none⟩), .slice lo ls.length ls.length, .pointer (some ⟨hb, 0, none⟩), .int .i64 wish] m = some (v, m1) ∧ (MaAt m1 b f { M with pc := M.pc + 1, steps := M.steps + 1, R := M.R.set ra (ws.getD (IntKind.u64.wrap (M.R.getD rb 0 + IntKind.u64.wrap n)).toNat 0) } ∧ RefAt m1 hb hf wb wf (ws) 100) ∧ Keeps m m1 [f, wf] := by
  obtain ⟨hM, hH, hl, hll, hok, hwd, hle, n1, n2, n3'⟩ := hX
  have s0 := hM.load1 (off := 419) (v := .int .i64 M.state) (Ms.scal hok 3)
  rw [hs0] at s0
  have p0 := hM.load1 (off := 416) (v := .int .i64 M.pc) (Ms.scal hok 0)
  rw [hpc] at p0
  obtain ⟨lb, hlo, ol⟩ := hl.rdo (by omega)
  have ld : loadRow m ⟨lb, p * 5, none⟩ 5 = some (icl (19, (ra : Int), (rb : Int), (rc : Int), n)) := by rw [ol.load 5 (by rw [icv_len]; omega), icv_win hp, hx]
  obtain ⟨_, mR, cR, ⟨bR, rfl, hbR⟩, kR⟩ := ins_run (m := m) hN (19, (ra : Int), (rb : Int), (rc : Int), n) (size := ls.length) (by omega)
  have hbt := hbR.2 hR
  subst hbt
  have MR := hM.keep kR (by simp)
  have p1 := MR.load1 (off := 416) (v := .int .i64 M.pc) (Ms.scal hok 0)
  rw [hpc] at p1
  have olR := ol.keep kR (by simp)
  have ld1 : loadRow mR ⟨lb, p * 5, none⟩ 5 = some (icl (19, (ra : Int), (rb : Int), (rc : Int), n)) := by rw [olR.load 5 (by rw [icv_len]; omega), icv_win hp, hx]
  have pp : (p : Int) < ls.length := by omega
  have ep : (p : Int) ≤ 9223372036854775807 := by omega
  have np : ¬ (p : Int) < 0 := by omega
  have nl : ¬ (ls.length : Int) ≤ p := by omega
  have hfm := hM.flt
  have hfR := MR.flt
  obtain ⟨o3, k3, n3⟩ := new_own (m := mR) (cs := [.int .i64 0, .int .i64 0, .int .i64 0, .int .i64 0, .int .i64 0]) (e := 52) rfl
  obtain ⟨m4, e4, o4, k4⟩ := store_own (r := _) rfl o3 (off := 0) (vs := icl (19, (ra : Int), (rb : Int), (rc : Int), n)) (by simp) (by simp [one_int])
  simp [over] at o4
  have k34 := k3.fresh k4 (by simp)
  have M4 := MR.keep k34 (by simp)
  have p4 := M4.load1 (off := 416) (v := .int .i64 M.pc) (Ms.scal hok 0)
  rw [hpc] at p4
  have wp : IntKind.i64.wrap ((p : Int) + 1) = (p : Int) + 1 := wrap_i64 (by omega) (by omega)
  have wst : IntKind.i64.wrap ((st : Int) + 1) = (st : Int) + 1 := wrap_i64 (by omega) (by omega)
  obtain ⟨m5, e5, o5, k5⟩ := store_own (r := _) rfl M4 (off := 416) (vs := [.int .i64 ((p : Int) + 1)]) (by rw [Ms.len hok]; simp) (by simp [one_int])
  rw [Ms.opc hok] at o5
  have hok5 := Ms.ok_pc hok ((p : Int) + 1)
  have s5 := o5.load1 (off := 417) (v := .int .i64 M.steps) (Ms.scal hok5 1)
  rw [hst] at s5
  obtain ⟨m6, e6, o6, k6⟩ := store_own (r := _) rfl o5 (off := 417) (vs := [.int .i64 ((st : Int) + 1)]) (by rw [Ms.len hok5]; simp) (by simp [one_int])
  rw [Ms.osteps hok5] at o6
  have hok6 := Ms.ok_steps hok5 ((st : Int) + 1)
  have k56 := k5.trans k6
  have x6 := o4.keep k56 (by simp; omega)
  have q0 := x6.load1 (off := 0) rfl
  have q1 := x6.load1 (off := 1) rfl
  have q2 := x6.load1 (off := 2) rfl
  have q3 := x6.load1 (off := 3) rfl
  have q4 := x6.load1 (off := 4) rfl
  have la := o6.load1 (off := ra) (Ms.reg hok6 ha)
  have lb' := o6.load1 (off := rb) (Ms.reg hok6 hb')
  have lc := o6.load1 (off := rc) (Ms.reg hok6 hc)
  generalize hva : M.R.getD ra 0 = va at *
  generalize hvb : M.R.getD rb 0 = vb at *
  generalize hvc : M.R.getD rc 0 = vc at *
  have ea : (ra : Int) ≤ 9223372036854775807 := by omega
  have eb : (rb : Int) ≤ 9223372036854775807 := by omega
  have ec : (rc : Int) ≤ 9223372036854775807 := by omega
  have H6 := ((hH.keep kR (by simp) (by simp)).keep k34 (by simp) (by simp)).keep k56 (by simpa using n1) (by simpa using n2)
  have k06 := ((kR.trans k34).nil (fs := [f, wf])).trans (k56.mono (by simp))
  have wb' := hok.wr.at_ rb
  rw [hvb] at wb'
  have hcl3 := wordR_run (at_ := IntKind.u64.wrap (vb + IntKind.u64.wrap n)) hP.word H6 (wd_wrap _).1 hle
  generalize hvw : ws.getD (IntKind.u64.wrap (vb + IntKind.u64.wrap n)).toNat 0 = vw at *
  obtain ⟨m7, e7, o7, k7⟩ := store_own (r := _) rfl o6 (off := ra) (vs := [.int .u64 (vw)]) (by rw [Ms.len hok6]; simp; try omega) (by simp [one_int])
  rw [Ms.oreg hok6 ha] at o7
  have q1s := (x6.keep k7 (by simp; omega)).load1 (off := 1) rfl
  have q4s := (x6.keep k7 (by simp; omega)).load1 (off := 4) rfl
  refine fn_w 71 [95, 105, 118, 132, 146, 162, 178, 197, 220, 240, 264, 271, 279, 285, 293, 302, 313, 329, 339, 339] k13 hS rfl ?_
  simp [-Int.natCast_add, -BitVec.toNat_or, -BitVec.toNat_ofInt, -BitVec.toNat_and, fieldAddr_of fa37_5, load_of ld3, fieldAddr_of fa37_2, len_slice u22, index_slice u22 sz52, load_agg ld52, store_of sz3, alloc_of zo52, store_of sz52, fieldAddr_of fa37_0, fieldAddr_of fa37_3, fieldAddr_of fa52_0, fieldAddr_of fa52_1, fieldAddr_of fa52_4, load_of ld2, conv_i u2 u33, indexAddr_arr u34 sz33, store_of sz33, fieldAddr_of fa52_2, load_of ld33, fieldAddr_of fa37_1, indexAddr_arr u35 sz33, conv_i u3 u33, fieldAddr_of fa52_3, fieldAddr_of fa37_6, fieldAddr_of fa37_4, hlo, s0, p0, hp, pp, ep, np, nl, ld, cR, p1, ld1, e4, p4, wp, e5, s5, wst, e6, q0, q1, q2, q3, q4, la, lb', lc, ha, hb', hc, ea, eb, ec, hcl3, e7, q1s, q4s]
  rw [hpc, hst]
  exact ⟨⟨o7, H6.keep k7 (by simpa using n1) (by simpa using n2)⟩, k06.trans (k7.mono (by simp))⟩
set_option maxHeartbeats 8000000 in
theorem ref_WordAt (hS : S 13 = []) (hN : Nr S) (hX : MR m b f hb hf wb wf M ws lo ls lf le) {p st : Nat} (hp : p < ls.length) (hpc : M.pc = (p : Int)) (hst : M.steps = (st : Int)) (hs2 : st ≤ 1000000) (hs0 : M.state = 0) {ra rb rc : Nat} (ha : ra < 16) (hb' : rb < 16) (hc : rc < 16) {n : Int} (hP : Hr S) (hx : ls[p] = (20, (ra : Int), (rb : Int), (rc : Int), n)) (hR : RightI (20, (ra : Int), (rb : Int), (rc : Int), n) ls.length) (wish : Int) :
    ∃ v m1, callw Tryd.prog TT S 13 [.pointer (some ⟨b, 0, none⟩), .slice lo ls.length ls.length, .pointer (some ⟨hb, 0, none⟩), .int .i64 wish] m = some (v, m1) ∧ (MaAt m1 b f { M with pc := M.pc + 1, steps := M.steps + 1, R := M.R.set ra (ws.getD (IntKind.u64.wrap (IntKind.u64.wrap (M.R.getD rb 0 + 1) + M.R.getD rc 0)).toNat 0) } ∧ RefAt m1 hb hf wb wf (ws) 100) ∧ Keeps m m1 [f, wf] := by
  obtain ⟨hM, hH, hl, hll, hok, hwd, hle, n1, n2, n3'⟩ := hX
  have s0 := hM.load1 (off := 419) (v := .int .i64 M.state) (Ms.scal hok 3)
  rw [hs0] at s0
  have p0 := hM.load1 (off := 416) (v := .int .i64 M.pc) (Ms.scal hok 0)
  rw [hpc] at p0
  obtain ⟨lb, hlo, ol⟩ := hl.rdo (by omega)
  have ld : loadRow m ⟨lb, p * 5, none⟩ 5 = some (icl (20, (ra : Int), (rb : Int), (rc : Int), n)) := by rw [ol.load 5 (by rw [icv_len]; omega), icv_win hp, hx]
  obtain ⟨_, mR, cR, ⟨bR, rfl, hbR⟩, kR⟩ := ins_run (m := m) hN (20, (ra : Int), (rb : Int), (rc : Int), n) (size := ls.length) (by omega)
  have hbt := hbR.2 hR
  subst hbt
  have MR := hM.keep kR (by simp)
  have p1 := MR.load1 (off := 416) (v := .int .i64 M.pc) (Ms.scal hok 0)
  rw [hpc] at p1
  have olR := ol.keep kR (by simp)
  have ld1 : loadRow mR ⟨lb, p * 5, none⟩ 5 = some (icl (20, (ra : Int), (rb : Int), (rc : Int), n)) := by rw [olR.load 5 (by rw [icv_len]; omega), icv_win hp, hx]
  have pp : (p : Int) < ls.length := by omega
  have ep : (p : Int) ≤ 9223372036854775807 := by omega
  have np : ¬ (p : Int) < 0 := by omega
  have nl : ¬ (ls.length : Int) ≤ p := by omega
  have hfm := hM.flt
  have hfR := MR.flt
  obtain ⟨o3, k3, n3⟩ := new_own (m := mR) (cs := [.int .i64 0, .int .i64 0, .int .i64 0, .int .i64 0, .int .i64 0]) (e := 52) rfl
  obtain ⟨m4, e4, o4, k4⟩ := store_own (r := _) rfl o3 (off := 0) (vs := icl (20, (ra : Int), (rb : Int), (rc : Int), n)) (by simp) (by simp [one_int])
  simp [over] at o4
  have k34 := k3.fresh k4 (by simp)
  have M4 := MR.keep k34 (by simp)
  have p4 := M4.load1 (off := 416) (v := .int .i64 M.pc) (Ms.scal hok 0)
  rw [hpc] at p4
  have wp : IntKind.i64.wrap ((p : Int) + 1) = (p : Int) + 1 := wrap_i64 (by omega) (by omega)
  have wst : IntKind.i64.wrap ((st : Int) + 1) = (st : Int) + 1 := wrap_i64 (by omega) (by omega)
  obtain ⟨m5, e5, o5, k5⟩ := store_own (r := _) rfl M4 (off := 416) (vs := [.int .i64 ((p : Int) + 1)]) (by rw [Ms.len hok]; simp) (by simp [one_int])
  rw [Ms.opc hok] at o5
  have hok5 := Ms.ok_pc hok ((p : Int) + 1)
  have s5 := o5.load1 (off := 417) (v := .int .i64 M.steps) (Ms.scal hok5 1)
  rw [hst] at s5
  obtain ⟨m6, e6, o6, k6⟩ := store_own (r := _) rfl o5 (off := 417) (vs := [.int .i64 ((st : Int) + 1)]) (by rw [Ms.len hok5]; simp) (by simp [one_int])
  rw [Ms.osteps hok5] at o6
  have hok6 := Ms.ok_steps hok5 ((st : Int) + 1)
  have k56 := k5.trans k6
  have x6 := o4.keep k56 (by simp; omega)
  have q0 := x6.load1 (off := 0) rfl
  have q1 := x6.load1 (off := 1) rfl
  have q2 := x6.load1 (off := 2) rfl
  have q3 := x6.load1 (off := 3) rfl
  have q4 := x6.load1 (off := 4) rfl
  have la := o6.load1 (off := ra) (Ms.reg hok6 ha)
  have lb' := o6.load1 (off := rb) (Ms.reg hok6 hb')
  have lc := o6.load1 (off := rc) (Ms.reg hok6 hc)
  generalize hva : M.R.getD ra 0 = va at *
  generalize hvb : M.R.getD rb 0 = vb at *
  generalize hvc : M.R.getD rc 0 = vc at *
  have ea : (ra : Int) ≤ 9223372036854775807 := by omega
  have eb : (rb : Int) ≤ 9223372036854775807 := by omega
  have ec : (rc : Int) ≤ 9223372036854775807 := by omega
  have H6 := ((hH.keep kR (by simp) (by simp)).keep k34 (by simp) (by simp)).keep k56 (by simpa using n1) (by simpa using n2)
  have k06 := ((kR.trans k34).nil (fs := [f, wf])).trans (k56.mono (by simp))
  have wb' := hok.wr.at_ rb
  rw [hvb] at wb'
  have hcl3 := wordR_run (at_ := IntKind.u64.wrap (IntKind.u64.wrap (vb + 1) + vc)) hP.word H6 (wd_wrap _).1 hle
  generalize hvw : ws.getD (IntKind.u64.wrap (IntKind.u64.wrap (vb + 1) + vc)).toNat 0 = vw at *
  obtain ⟨m7, e7, o7, k7⟩ := store_own (r := _) rfl o6 (off := ra) (vs := [.int .u64 (vw)]) (by rw [Ms.len hok6]; simp; try omega) (by simp [one_int])
  rw [Ms.oreg hok6 ha] at o7
  have q1s := (x6.keep k7 (by simp; omega)).load1 (off := 1) rfl
  have q4s := (x6.keep k7 (by simp; omega)).load1 (off := 4) rfl
  refine fn_w 71 [95, 105, 118, 132, 146, 162, 178, 197, 220, 240, 264, 271, 279, 285, 293, 302, 313, 329, 339, 339] k13 hS rfl ?_
  simp [-Int.natCast_add, -BitVec.toNat_or, -BitVec.toNat_ofInt, -BitVec.toNat_and, fieldAddr_of fa37_5, load_of ld3, fieldAddr_of fa37_2, len_slice u22, index_slice u22 sz52, load_agg ld52, store_of sz3, alloc_of zo52, store_of sz52, fieldAddr_of fa37_0, fieldAddr_of fa37_3, fieldAddr_of fa52_0, fieldAddr_of fa52_1, fieldAddr_of fa52_4, load_of ld2, conv_i u2 u33, indexAddr_arr u34 sz33, store_of sz33, fieldAddr_of fa52_2, load_of ld33, fieldAddr_of fa37_1, indexAddr_arr u35 sz33, conv_i u3 u33, fieldAddr_of fa52_3, fieldAddr_of fa37_6, fieldAddr_of fa37_4, hlo, s0, p0, hp, pp, ep, np, nl, ld, cR, p1, ld1, e4, p4, wp, e5, s5, wst, e6, q0, q1, q2, q3, q4, la, lb', lc, ha, hb', hc, ea, eb, ec, hcl3, e7, q1s, q4s]
  rw [hpc, hst]
  exact ⟨⟨o7, H6.keep k7 (by simpa using n1) (by simpa using n2)⟩, k06.trans (k7.mono (by simp))⟩
set_option maxHeartbeats 8000000 in
theorem ref_Put (hS : S 13 = []) (hN : Nr S) (hX : MR m b f hb hf wb wf M ws lo ls lf le) {p st : Nat} (hp : p < ls.length) (hpc : M.pc = (p : Int)) (hst : M.steps = (st : Int)) (hs2 : st ≤ 1000000) (hs0 : M.state = 0) {ra rb rc : Nat} (ha : ra < 16) (hb' : rb < 16) (hc : rc < 16) {n : Int} (hP : Hr S) (hx : ls[p] = (21, (ra : Int), (rb : Int), (rc : Int), n)) (hR : RightI (21, (ra : Int), (rb : Int), (rc : Int), n) ls.length) (wish : Int) :
    ∃ v m1, callw Tryd.prog TT S 13 [.pointer (some ⟨b, 0, none⟩), .slice lo ls.length ls.length, .pointer (some ⟨hb, 0, none⟩), .int .i64 wish] m = some (v, m1) ∧ (MaAt m1 b f { M with pc := M.pc + 1, steps := M.steps + 1 } ∧ RefAt m1 hb hf wb wf (putF ws (IntKind.u64.wrap (M.R.getD ra 0 + IntKind.u64.wrap n)) (M.R.getD rb 0)) 100) ∧ Keeps m m1 [f, wf] := by
  obtain ⟨hM, hH, hl, hll, hok, hwd, hle, n1, n2, n3'⟩ := hX
  have s0 := hM.load1 (off := 419) (v := .int .i64 M.state) (Ms.scal hok 3)
  rw [hs0] at s0
  have p0 := hM.load1 (off := 416) (v := .int .i64 M.pc) (Ms.scal hok 0)
  rw [hpc] at p0
  obtain ⟨lb, hlo, ol⟩ := hl.rdo (by omega)
  have ld : loadRow m ⟨lb, p * 5, none⟩ 5 = some (icl (21, (ra : Int), (rb : Int), (rc : Int), n)) := by rw [ol.load 5 (by rw [icv_len]; omega), icv_win hp, hx]
  obtain ⟨_, mR, cR, ⟨bR, rfl, hbR⟩, kR⟩ := ins_run (m := m) hN (21, (ra : Int), (rb : Int), (rc : Int), n) (size := ls.length) (by omega)
  have hbt := hbR.2 hR
  subst hbt
  have MR := hM.keep kR (by simp)
  have p1 := MR.load1 (off := 416) (v := .int .i64 M.pc) (Ms.scal hok 0)
  rw [hpc] at p1
  have olR := ol.keep kR (by simp)
  have ld1 : loadRow mR ⟨lb, p * 5, none⟩ 5 = some (icl (21, (ra : Int), (rb : Int), (rc : Int), n)) := by rw [olR.load 5 (by rw [icv_len]; omega), icv_win hp, hx]
  have pp : (p : Int) < ls.length := by omega
  have ep : (p : Int) ≤ 9223372036854775807 := by omega
  have np : ¬ (p : Int) < 0 := by omega
  have nl : ¬ (ls.length : Int) ≤ p := by omega
  have hfm := hM.flt
  have hfR := MR.flt
  obtain ⟨o3, k3, n3⟩ := new_own (m := mR) (cs := [.int .i64 0, .int .i64 0, .int .i64 0, .int .i64 0, .int .i64 0]) (e := 52) rfl
  obtain ⟨m4, e4, o4, k4⟩ := store_own (r := _) rfl o3 (off := 0) (vs := icl (21, (ra : Int), (rb : Int), (rc : Int), n)) (by simp) (by simp [one_int])
  simp [over] at o4
  have k34 := k3.fresh k4 (by simp)
  have M4 := MR.keep k34 (by simp)
  have p4 := M4.load1 (off := 416) (v := .int .i64 M.pc) (Ms.scal hok 0)
  rw [hpc] at p4
  have wp : IntKind.i64.wrap ((p : Int) + 1) = (p : Int) + 1 := wrap_i64 (by omega) (by omega)
  have wst : IntKind.i64.wrap ((st : Int) + 1) = (st : Int) + 1 := wrap_i64 (by omega) (by omega)
  obtain ⟨m5, e5, o5, k5⟩ := store_own (r := _) rfl M4 (off := 416) (vs := [.int .i64 ((p : Int) + 1)]) (by rw [Ms.len hok]; simp) (by simp [one_int])
  rw [Ms.opc hok] at o5
  have hok5 := Ms.ok_pc hok ((p : Int) + 1)
  have s5 := o5.load1 (off := 417) (v := .int .i64 M.steps) (Ms.scal hok5 1)
  rw [hst] at s5
  obtain ⟨m6, e6, o6, k6⟩ := store_own (r := _) rfl o5 (off := 417) (vs := [.int .i64 ((st : Int) + 1)]) (by rw [Ms.len hok5]; simp) (by simp [one_int])
  rw [Ms.osteps hok5] at o6
  have hok6 := Ms.ok_steps hok5 ((st : Int) + 1)
  have k56 := k5.trans k6
  have x6 := o4.keep k56 (by simp; omega)
  have q0 := x6.load1 (off := 0) rfl
  have q1 := x6.load1 (off := 1) rfl
  have q2 := x6.load1 (off := 2) rfl
  have q3 := x6.load1 (off := 3) rfl
  have q4 := x6.load1 (off := 4) rfl
  have la := o6.load1 (off := ra) (Ms.reg hok6 ha)
  have lb' := o6.load1 (off := rb) (Ms.reg hok6 hb')
  have lc := o6.load1 (off := rc) (Ms.reg hok6 hc)
  generalize hva : M.R.getD ra 0 = va at *
  generalize hvb : M.R.getD rb 0 = vb at *
  generalize hvc : M.R.getD rc 0 = vc at *
  have ea : (ra : Int) ≤ 9223372036854775807 := by omega
  have eb : (rb : Int) ≤ 9223372036854775807 := by omega
  have ec : (rc : Int) ≤ 9223372036854775807 := by omega
  have H6 := ((hH.keep kR (by simp) (by simp)).keep k34 (by simp) (by simp)).keep k56 (by simpa using n1) (by simpa using n2)
  have k06 := ((kR.trans k34).nil (fs := [f, wf])).trans (k56.mono (by simp))
  obtain ⟨_, m7, c7, rfl, h7, k7⟩ := putR_run (a := IntKind.u64.wrap (va + IntKind.u64.wrap n)) (v := vb) hP.put H6 (wd_wrap _).1 hle
  refine fn_w 71 [95, 105, 118, 132, 146, 162, 178, 197, 220, 240, 264, 271, 279, 285, 293, 302, 313, 329, 339, 339] k13 hS rfl ?_
  simp [-Int.natCast_add, -BitVec.toNat_or, -BitVec.toNat_ofInt, -BitVec.toNat_and, fieldAddr_of fa37_5, load_of ld3, fieldAddr_of fa37_2, len_slice u22, index_slice u22 sz52, load_agg ld52, store_of sz3, alloc_of zo52, store_of sz52, fieldAddr_of fa37_0, fieldAddr_of fa37_3, fieldAddr_of fa52_0, fieldAddr_of fa52_1, fieldAddr_of fa52_4, load_of ld2, conv_i u2 u33, indexAddr_arr u34 sz33, store_of sz33, fieldAddr_of fa52_2, load_of ld33, fieldAddr_of fa37_1, indexAddr_arr u35 sz33, conv_i u3 u33, fieldAddr_of fa52_3, fieldAddr_of fa37_6, fieldAddr_of fa37_4, hlo, s0, p0, hp, pp, ep, np, nl, ld, cR, p1, ld1, e4, p4, wp, e5, s5, wst, e6, q0, q1, q2, q3, q4, la, lb', lc, ha, hb', hc, ea, eb, ec, c7]
  rw [hpc, hst]
  exact ⟨⟨o6.keep k7 (by simp; exact fun e => n2 e.symm), h7⟩, k06.trans (k7.mono (by simp))⟩
set_option maxHeartbeats 8000000 in
theorem ref_PutAt (hS : S 13 = []) (hN : Nr S) (hX : MR m b f hb hf wb wf M ws lo ls lf le) {p st : Nat} (hp : p < ls.length) (hpc : M.pc = (p : Int)) (hst : M.steps = (st : Int)) (hs2 : st ≤ 1000000) (hs0 : M.state = 0) {ra rb rc : Nat} (ha : ra < 16) (hb' : rb < 16) (hc : rc < 16) {n : Int} (hP : Hr S) (hx : ls[p] = (22, (ra : Int), (rb : Int), (rc : Int), n)) (hR : RightI (22, (ra : Int), (rb : Int), (rc : Int), n) ls.length) (wish : Int) :
    ∃ v m1, callw Tryd.prog TT S 13 [.pointer (some ⟨b, 0, none⟩), .slice lo ls.length ls.length, .pointer (some ⟨hb, 0, none⟩), .int .i64 wish] m = some (v, m1) ∧ (MaAt m1 b f { M with pc := M.pc + 1, steps := M.steps + 1 } ∧ RefAt m1 hb hf wb wf (putF ws (IntKind.u64.wrap (IntKind.u64.wrap (M.R.getD ra 0 + 1) + M.R.getD rb 0)) (M.R.getD rc 0)) 100) ∧ Keeps m m1 [f, wf] := by
  obtain ⟨hM, hH, hl, hll, hok, hwd, hle, n1, n2, n3'⟩ := hX
  have s0 := hM.load1 (off := 419) (v := .int .i64 M.state) (Ms.scal hok 3)
  rw [hs0] at s0
  have p0 := hM.load1 (off := 416) (v := .int .i64 M.pc) (Ms.scal hok 0)
  rw [hpc] at p0
  obtain ⟨lb, hlo, ol⟩ := hl.rdo (by omega)
  have ld : loadRow m ⟨lb, p * 5, none⟩ 5 = some (icl (22, (ra : Int), (rb : Int), (rc : Int), n)) := by rw [ol.load 5 (by rw [icv_len]; omega), icv_win hp, hx]
  obtain ⟨_, mR, cR, ⟨bR, rfl, hbR⟩, kR⟩ := ins_run (m := m) hN (22, (ra : Int), (rb : Int), (rc : Int), n) (size := ls.length) (by omega)
  have hbt := hbR.2 hR
  subst hbt
  have MR := hM.keep kR (by simp)
  have p1 := MR.load1 (off := 416) (v := .int .i64 M.pc) (Ms.scal hok 0)
  rw [hpc] at p1
  have olR := ol.keep kR (by simp)
  have ld1 : loadRow mR ⟨lb, p * 5, none⟩ 5 = some (icl (22, (ra : Int), (rb : Int), (rc : Int), n)) := by rw [olR.load 5 (by rw [icv_len]; omega), icv_win hp, hx]
  have pp : (p : Int) < ls.length := by omega
  have ep : (p : Int) ≤ 9223372036854775807 := by omega
  have np : ¬ (p : Int) < 0 := by omega
  have nl : ¬ (ls.length : Int) ≤ p := by omega
  have hfm := hM.flt
  have hfR := MR.flt
  obtain ⟨o3, k3, n3⟩ := new_own (m := mR) (cs := [.int .i64 0, .int .i64 0, .int .i64 0, .int .i64 0, .int .i64 0]) (e := 52) rfl
  obtain ⟨m4, e4, o4, k4⟩ := store_own (r := _) rfl o3 (off := 0) (vs := icl (22, (ra : Int), (rb : Int), (rc : Int), n)) (by simp) (by simp [one_int])
  simp [over] at o4
  have k34 := k3.fresh k4 (by simp)
  have M4 := MR.keep k34 (by simp)
  have p4 := M4.load1 (off := 416) (v := .int .i64 M.pc) (Ms.scal hok 0)
  rw [hpc] at p4
  have wp : IntKind.i64.wrap ((p : Int) + 1) = (p : Int) + 1 := wrap_i64 (by omega) (by omega)
  have wst : IntKind.i64.wrap ((st : Int) + 1) = (st : Int) + 1 := wrap_i64 (by omega) (by omega)
  obtain ⟨m5, e5, o5, k5⟩ := store_own (r := _) rfl M4 (off := 416) (vs := [.int .i64 ((p : Int) + 1)]) (by rw [Ms.len hok]; simp) (by simp [one_int])
  rw [Ms.opc hok] at o5
  have hok5 := Ms.ok_pc hok ((p : Int) + 1)
  have s5 := o5.load1 (off := 417) (v := .int .i64 M.steps) (Ms.scal hok5 1)
  rw [hst] at s5
  obtain ⟨m6, e6, o6, k6⟩ := store_own (r := _) rfl o5 (off := 417) (vs := [.int .i64 ((st : Int) + 1)]) (by rw [Ms.len hok5]; simp) (by simp [one_int])
  rw [Ms.osteps hok5] at o6
  have hok6 := Ms.ok_steps hok5 ((st : Int) + 1)
  have k56 := k5.trans k6
  have x6 := o4.keep k56 (by simp; omega)
  have q0 := x6.load1 (off := 0) rfl
  have q1 := x6.load1 (off := 1) rfl
  have q2 := x6.load1 (off := 2) rfl
  have q3 := x6.load1 (off := 3) rfl
  have q4 := x6.load1 (off := 4) rfl
  have la := o6.load1 (off := ra) (Ms.reg hok6 ha)
  have lb' := o6.load1 (off := rb) (Ms.reg hok6 hb')
  have lc := o6.load1 (off := rc) (Ms.reg hok6 hc)
  generalize hva : M.R.getD ra 0 = va at *
  generalize hvb : M.R.getD rb 0 = vb at *
  generalize hvc : M.R.getD rc 0 = vc at *
  have ea : (ra : Int) ≤ 9223372036854775807 := by omega
  have eb : (rb : Int) ≤ 9223372036854775807 := by omega
  have ec : (rc : Int) ≤ 9223372036854775807 := by omega
  have H6 := ((hH.keep kR (by simp) (by simp)).keep k34 (by simp) (by simp)).keep k56 (by simpa using n1) (by simpa using n2)
  have k06 := ((kR.trans k34).nil (fs := [f, wf])).trans (k56.mono (by simp))
  obtain ⟨_, m7, c7, rfl, h7, k7⟩ := putR_run (a := IntKind.u64.wrap (IntKind.u64.wrap (va + 1) + vb)) (v := vc) hP.put H6 (wd_wrap _).1 hle
  refine fn_w 71 [95, 105, 118, 132, 146, 162, 178, 197, 220, 240, 264, 271, 279, 285, 293, 302, 313, 329, 339, 339] k13 hS rfl ?_
  simp [-Int.natCast_add, -BitVec.toNat_or, -BitVec.toNat_ofInt, -BitVec.toNat_and, fieldAddr_of fa37_5, load_of ld3, fieldAddr_of fa37_2, len_slice u22, index_slice u22 sz52, load_agg ld52, store_of sz3, alloc_of zo52, store_of sz52, fieldAddr_of fa37_0, fieldAddr_of fa37_3, fieldAddr_of fa52_0, fieldAddr_of fa52_1, fieldAddr_of fa52_4, load_of ld2, conv_i u2 u33, indexAddr_arr u34 sz33, store_of sz33, fieldAddr_of fa52_2, load_of ld33, fieldAddr_of fa37_1, indexAddr_arr u35 sz33, conv_i u3 u33, fieldAddr_of fa52_3, fieldAddr_of fa37_6, fieldAddr_of fa37_4, hlo, s0, p0, hp, pp, ep, np, nl, ld, cR, p1, ld1, e4, p4, wp, e5, s5, wst, e6, q0, q1, q2, q3, q4, la, lb', lc, ha, hb', hc, ea, eb, ec, c7]
  rw [hpc, hst]
  exact ⟨⟨o6.keep k7 (by simp; exact fun e => n2 e.symm), h7⟩, k06.trans (k7.mono (by simp))⟩
set_option maxHeartbeats 8000000 in
theorem ref_Jump (hS : S 13 = []) (hN : Nr S) (hX : MR m b f hb hf wb wf M ws lo ls lf le) {p st : Nat} (hp : p < ls.length) (hpc : M.pc = (p : Int)) (hst : M.steps = (st : Int)) (hs2 : st ≤ 1000000) (hs0 : M.state = 0) {ra rb rc : Nat} (ha : ra < 16) (hb' : rb < 16) (hc : rc < 16) {n : Int} (hn : -9223372036854775808 ≤ n ∧ n ≤ 9223372036854775807) (hx : ls[p] = (23, (ra : Int), (rb : Int), (rc : Int), n)) (hR : RightI (23, (ra : Int), (rb : Int), (rc : Int), n) ls.length) (wish : Int) :
    ∃ v m1, callw Tryd.prog TT S 13 [.pointer (some ⟨b, 0, none⟩), .slice lo ls.length ls.length, .pointer (some ⟨hb, 0, none⟩), .int .i64 wish] m = some (v, m1) ∧ (MaAt m1 b f { M with pc := n, steps := M.steps + 1 } ∧ RefAt m1 hb hf wb wf (ws) 100) ∧ Keeps m m1 [f, wf] := by
  obtain ⟨hM, hH, hl, hll, hok, hwd, hle, n1, n2, n3'⟩ := hX
  have s0 := hM.load1 (off := 419) (v := .int .i64 M.state) (Ms.scal hok 3)
  rw [hs0] at s0
  have p0 := hM.load1 (off := 416) (v := .int .i64 M.pc) (Ms.scal hok 0)
  rw [hpc] at p0
  obtain ⟨lb, hlo, ol⟩ := hl.rdo (by omega)
  have ld : loadRow m ⟨lb, p * 5, none⟩ 5 = some (icl (23, (ra : Int), (rb : Int), (rc : Int), n)) := by rw [ol.load 5 (by rw [icv_len]; omega), icv_win hp, hx]
  obtain ⟨_, mR, cR, ⟨bR, rfl, hbR⟩, kR⟩ := ins_run (m := m) hN (23, (ra : Int), (rb : Int), (rc : Int), n) (size := ls.length) (by omega)
  have hbt := hbR.2 hR
  subst hbt
  have MR := hM.keep kR (by simp)
  have p1 := MR.load1 (off := 416) (v := .int .i64 M.pc) (Ms.scal hok 0)
  rw [hpc] at p1
  have olR := ol.keep kR (by simp)
  have ld1 : loadRow mR ⟨lb, p * 5, none⟩ 5 = some (icl (23, (ra : Int), (rb : Int), (rc : Int), n)) := by rw [olR.load 5 (by rw [icv_len]; omega), icv_win hp, hx]
  have pp : (p : Int) < ls.length := by omega
  have ep : (p : Int) ≤ 9223372036854775807 := by omega
  have np : ¬ (p : Int) < 0 := by omega
  have nl : ¬ (ls.length : Int) ≤ p := by omega
  have hfm := hM.flt
  have hfR := MR.flt
  obtain ⟨o3, k3, n3⟩ := new_own (m := mR) (cs := [.int .i64 0, .int .i64 0, .int .i64 0, .int .i64 0, .int .i64 0]) (e := 52) rfl
  obtain ⟨m4, e4, o4, k4⟩ := store_own (r := _) rfl o3 (off := 0) (vs := icl (23, (ra : Int), (rb : Int), (rc : Int), n)) (by simp) (by simp [one_int])
  simp [over] at o4
  have k34 := k3.fresh k4 (by simp)
  have M4 := MR.keep k34 (by simp)
  have p4 := M4.load1 (off := 416) (v := .int .i64 M.pc) (Ms.scal hok 0)
  rw [hpc] at p4
  have wp : IntKind.i64.wrap ((p : Int) + 1) = (p : Int) + 1 := wrap_i64 (by omega) (by omega)
  have wst : IntKind.i64.wrap ((st : Int) + 1) = (st : Int) + 1 := wrap_i64 (by omega) (by omega)
  obtain ⟨m5, e5, o5, k5⟩ := store_own (r := _) rfl M4 (off := 416) (vs := [.int .i64 ((p : Int) + 1)]) (by rw [Ms.len hok]; simp) (by simp [one_int])
  rw [Ms.opc hok] at o5
  have hok5 := Ms.ok_pc hok ((p : Int) + 1)
  have s5 := o5.load1 (off := 417) (v := .int .i64 M.steps) (Ms.scal hok5 1)
  rw [hst] at s5
  obtain ⟨m6, e6, o6, k6⟩ := store_own (r := _) rfl o5 (off := 417) (vs := [.int .i64 ((st : Int) + 1)]) (by rw [Ms.len hok5]; simp) (by simp [one_int])
  rw [Ms.osteps hok5] at o6
  have hok6 := Ms.ok_steps hok5 ((st : Int) + 1)
  have k56 := k5.trans k6
  have x6 := o4.keep k56 (by simp; omega)
  have q0 := x6.load1 (off := 0) rfl
  have q1 := x6.load1 (off := 1) rfl
  have q2 := x6.load1 (off := 2) rfl
  have q3 := x6.load1 (off := 3) rfl
  have q4 := x6.load1 (off := 4) rfl
  have la := o6.load1 (off := ra) (Ms.reg hok6 ha)
  have lb' := o6.load1 (off := rb) (Ms.reg hok6 hb')
  have lc := o6.load1 (off := rc) (Ms.reg hok6 hc)
  generalize hva : M.R.getD ra 0 = va at *
  generalize hvb : M.R.getD rb 0 = vb at *
  generalize hvc : M.R.getD rc 0 = vc at *
  have ea : (ra : Int) ≤ 9223372036854775807 := by omega
  have eb : (rb : Int) ≤ 9223372036854775807 := by omega
  have ec : (rc : Int) ≤ 9223372036854775807 := by omega
  have H6 := ((hH.keep kR (by simp) (by simp)).keep k34 (by simp) (by simp)).keep k56 (by simpa using n1) (by simpa using n2)
  have k06 := ((kR.trans k34).nil (fs := [f, wf])).trans (k56.mono (by simp))
  have wn : IntKind.i64.wrap n = n := wrap_i64 hn.1 hn.2
  obtain ⟨m7, e7, o7, k7⟩ := store_own (r := _) rfl o6 (off := 416) (vs := [.int .i64 n]) (by rw [Ms.len hok6]; simp; try omega) (by simp [one_int])
  rw [Ms.opc hok6] at o7
  have q1s := (x6.keep k7 (by simp; omega)).load1 (off := 1) rfl
  have q4s := (x6.keep k7 (by simp; omega)).load1 (off := 4) rfl
  refine fn_w 71 [95, 105, 118, 132, 146, 162, 178, 197, 220, 240, 264, 271, 279, 285, 293, 302, 313, 329, 339, 339] k13 hS rfl ?_
  simp [-Int.natCast_add, -BitVec.toNat_or, -BitVec.toNat_ofInt, -BitVec.toNat_and, fieldAddr_of fa37_5, load_of ld3, fieldAddr_of fa37_2, len_slice u22, index_slice u22 sz52, load_agg ld52, store_of sz3, alloc_of zo52, store_of sz52, fieldAddr_of fa37_0, fieldAddr_of fa37_3, fieldAddr_of fa52_0, fieldAddr_of fa52_1, fieldAddr_of fa52_4, load_of ld2, conv_i u2 u33, indexAddr_arr u34 sz33, store_of sz33, fieldAddr_of fa52_2, load_of ld33, fieldAddr_of fa37_1, indexAddr_arr u35 sz33, conv_i u3 u33, fieldAddr_of fa52_3, fieldAddr_of fa37_6, fieldAddr_of fa37_4, hlo, s0, p0, hp, pp, ep, np, nl, ld, cR, p1, ld1, e4, p4, wp, e5, s5, wst, e6, q0, q1, q2, q3, q4, la, lb', lc, ha, hb', hc, ea, eb, ec, wn, e7, q1s, q4s]
  rw [hst]
  exact ⟨⟨o7, H6.keep k7 (by simpa using n1) (by simpa using n2)⟩, k06.trans (k7.mono (by simp))⟩
set_option maxHeartbeats 8000000 in
theorem ref_JzYes (hS : S 13 = []) (hN : Nr S) (hX : MR m b f hb hf wb wf M ws lo ls lf le) {p st : Nat} (hp : p < ls.length) (hpc : M.pc = (p : Int)) (hst : M.steps = (st : Int)) (hs2 : st ≤ 1000000) (hs0 : M.state = 0) {ra rb rc : Nat} (ha : ra < 16) (hb' : rb < 16) (hc : rc < 16) {n : Int} (hn : -9223372036854775808 ≤ n ∧ n ≤ 9223372036854775807) (hz : M.R.getD ra 0 = 0) (hx : ls[p] = (24, (ra : Int), (rb : Int), (rc : Int), n)) (hR : RightI (24, (ra : Int), (rb : Int), (rc : Int), n) ls.length) (wish : Int) :
    ∃ v m1, callw Tryd.prog TT S 13 [.pointer (some ⟨b, 0, none⟩), .slice lo ls.length ls.length, .pointer (some ⟨hb, 0, none⟩), .int .i64 wish] m = some (v, m1) ∧ (MaAt m1 b f { M with pc := n, steps := M.steps + 1 } ∧ RefAt m1 hb hf wb wf (ws) 100) ∧ Keeps m m1 [f, wf] := by
  obtain ⟨hM, hH, hl, hll, hok, hwd, hle, n1, n2, n3'⟩ := hX
  have s0 := hM.load1 (off := 419) (v := .int .i64 M.state) (Ms.scal hok 3)
  rw [hs0] at s0
  have p0 := hM.load1 (off := 416) (v := .int .i64 M.pc) (Ms.scal hok 0)
  rw [hpc] at p0
  obtain ⟨lb, hlo, ol⟩ := hl.rdo (by omega)
  have ld : loadRow m ⟨lb, p * 5, none⟩ 5 = some (icl (24, (ra : Int), (rb : Int), (rc : Int), n)) := by rw [ol.load 5 (by rw [icv_len]; omega), icv_win hp, hx]
  obtain ⟨_, mR, cR, ⟨bR, rfl, hbR⟩, kR⟩ := ins_run (m := m) hN (24, (ra : Int), (rb : Int), (rc : Int), n) (size := ls.length) (by omega)
  have hbt := hbR.2 hR
  subst hbt
  have MR := hM.keep kR (by simp)
  have p1 := MR.load1 (off := 416) (v := .int .i64 M.pc) (Ms.scal hok 0)
  rw [hpc] at p1
  have olR := ol.keep kR (by simp)
  have ld1 : loadRow mR ⟨lb, p * 5, none⟩ 5 = some (icl (24, (ra : Int), (rb : Int), (rc : Int), n)) := by rw [olR.load 5 (by rw [icv_len]; omega), icv_win hp, hx]
  have pp : (p : Int) < ls.length := by omega
  have ep : (p : Int) ≤ 9223372036854775807 := by omega
  have np : ¬ (p : Int) < 0 := by omega
  have nl : ¬ (ls.length : Int) ≤ p := by omega
  have hfm := hM.flt
  have hfR := MR.flt
  obtain ⟨o3, k3, n3⟩ := new_own (m := mR) (cs := [.int .i64 0, .int .i64 0, .int .i64 0, .int .i64 0, .int .i64 0]) (e := 52) rfl
  obtain ⟨m4, e4, o4, k4⟩ := store_own (r := _) rfl o3 (off := 0) (vs := icl (24, (ra : Int), (rb : Int), (rc : Int), n)) (by simp) (by simp [one_int])
  simp [over] at o4
  have k34 := k3.fresh k4 (by simp)
  have M4 := MR.keep k34 (by simp)
  have p4 := M4.load1 (off := 416) (v := .int .i64 M.pc) (Ms.scal hok 0)
  rw [hpc] at p4
  have wp : IntKind.i64.wrap ((p : Int) + 1) = (p : Int) + 1 := wrap_i64 (by omega) (by omega)
  have wst : IntKind.i64.wrap ((st : Int) + 1) = (st : Int) + 1 := wrap_i64 (by omega) (by omega)
  obtain ⟨m5, e5, o5, k5⟩ := store_own (r := _) rfl M4 (off := 416) (vs := [.int .i64 ((p : Int) + 1)]) (by rw [Ms.len hok]; simp) (by simp [one_int])
  rw [Ms.opc hok] at o5
  have hok5 := Ms.ok_pc hok ((p : Int) + 1)
  have s5 := o5.load1 (off := 417) (v := .int .i64 M.steps) (Ms.scal hok5 1)
  rw [hst] at s5
  obtain ⟨m6, e6, o6, k6⟩ := store_own (r := _) rfl o5 (off := 417) (vs := [.int .i64 ((st : Int) + 1)]) (by rw [Ms.len hok5]; simp) (by simp [one_int])
  rw [Ms.osteps hok5] at o6
  have hok6 := Ms.ok_steps hok5 ((st : Int) + 1)
  have k56 := k5.trans k6
  have x6 := o4.keep k56 (by simp; omega)
  have q0 := x6.load1 (off := 0) rfl
  have q1 := x6.load1 (off := 1) rfl
  have q2 := x6.load1 (off := 2) rfl
  have q3 := x6.load1 (off := 3) rfl
  have q4 := x6.load1 (off := 4) rfl
  have la := o6.load1 (off := ra) (Ms.reg hok6 ha)
  have lb' := o6.load1 (off := rb) (Ms.reg hok6 hb')
  have lc := o6.load1 (off := rc) (Ms.reg hok6 hc)
  generalize hva : M.R.getD ra 0 = va at *
  generalize hvb : M.R.getD rb 0 = vb at *
  generalize hvc : M.R.getD rc 0 = vc at *
  have ea : (ra : Int) ≤ 9223372036854775807 := by omega
  have eb : (rb : Int) ≤ 9223372036854775807 := by omega
  have ec : (rc : Int) ≤ 9223372036854775807 := by omega
  have H6 := ((hH.keep kR (by simp) (by simp)).keep k34 (by simp) (by simp)).keep k56 (by simpa using n1) (by simpa using n2)
  have k06 := ((kR.trans k34).nil (fs := [f, wf])).trans (k56.mono (by simp))
  have wn : IntKind.i64.wrap n = n := wrap_i64 hn.1 hn.2
  obtain ⟨m7, e7, o7, k7⟩ := store_own (r := _) rfl o6 (off := 416) (vs := [.int .i64 n]) (by rw [Ms.len hok6]; simp; try omega) (by simp [one_int])
  rw [Ms.opc hok6] at o7
  have q1s := (x6.keep k7 (by simp; omega)).load1 (off := 1) rfl
  have q4s := (x6.keep k7 (by simp; omega)).load1 (off := 4) rfl
  refine fn_w 71 [95, 105, 118, 132, 146, 162, 178, 197, 220, 240, 264, 271, 279, 285, 293, 302, 313, 329, 339, 339] k13 hS rfl ?_
  simp [-Int.natCast_add, -BitVec.toNat_or, -BitVec.toNat_ofInt, -BitVec.toNat_and, fieldAddr_of fa37_5, load_of ld3, fieldAddr_of fa37_2, len_slice u22, index_slice u22 sz52, load_agg ld52, store_of sz3, alloc_of zo52, store_of sz52, fieldAddr_of fa37_0, fieldAddr_of fa37_3, fieldAddr_of fa52_0, fieldAddr_of fa52_1, fieldAddr_of fa52_4, load_of ld2, conv_i u2 u33, indexAddr_arr u34 sz33, store_of sz33, fieldAddr_of fa52_2, load_of ld33, fieldAddr_of fa37_1, indexAddr_arr u35 sz33, conv_i u3 u33, fieldAddr_of fa52_3, fieldAddr_of fa37_6, fieldAddr_of fa37_4, hlo, s0, p0, hp, pp, ep, np, nl, ld, cR, p1, ld1, e4, p4, wp, e5, s5, wst, e6, q0, q1, q2, q3, q4, la, lb', lc, ha, hb', hc, ea, eb, ec, wn, hz, e7, q1s, q4s]
  rw [hst]
  exact ⟨⟨o7, H6.keep k7 (by simpa using n1) (by simpa using n2)⟩, k06.trans (k7.mono (by simp))⟩
set_option maxHeartbeats 8000000 in
theorem ref_JzNo (hS : S 13 = []) (hN : Nr S) (hX : MR m b f hb hf wb wf M ws lo ls lf le) {p st : Nat} (hp : p < ls.length) (hpc : M.pc = (p : Int)) (hst : M.steps = (st : Int)) (hs2 : st ≤ 1000000) (hs0 : M.state = 0) {ra rb rc : Nat} (ha : ra < 16) (hb' : rb < 16) (hc : rc < 16) {n : Int} (hn : -9223372036854775808 ≤ n ∧ n ≤ 9223372036854775807) (hz : ¬ M.R.getD ra 0 = 0) (hx : ls[p] = (24, (ra : Int), (rb : Int), (rc : Int), n)) (hR : RightI (24, (ra : Int), (rb : Int), (rc : Int), n) ls.length) (wish : Int) :
    ∃ v m1, callw Tryd.prog TT S 13 [.pointer (some ⟨b, 0, none⟩), .slice lo ls.length ls.length, .pointer (some ⟨hb, 0, none⟩), .int .i64 wish] m = some (v, m1) ∧ (MaAt m1 b f { M with pc := M.pc + 1, steps := M.steps + 1 } ∧ RefAt m1 hb hf wb wf (ws) 100) ∧ Keeps m m1 [f, wf] := by
  obtain ⟨hM, hH, hl, hll, hok, hwd, hle, n1, n2, n3'⟩ := hX
  have s0 := hM.load1 (off := 419) (v := .int .i64 M.state) (Ms.scal hok 3)
  rw [hs0] at s0
  have p0 := hM.load1 (off := 416) (v := .int .i64 M.pc) (Ms.scal hok 0)
  rw [hpc] at p0
  obtain ⟨lb, hlo, ol⟩ := hl.rdo (by omega)
  have ld : loadRow m ⟨lb, p * 5, none⟩ 5 = some (icl (24, (ra : Int), (rb : Int), (rc : Int), n)) := by rw [ol.load 5 (by rw [icv_len]; omega), icv_win hp, hx]
  obtain ⟨_, mR, cR, ⟨bR, rfl, hbR⟩, kR⟩ := ins_run (m := m) hN (24, (ra : Int), (rb : Int), (rc : Int), n) (size := ls.length) (by omega)
  have hbt := hbR.2 hR
  subst hbt
  have MR := hM.keep kR (by simp)
  have p1 := MR.load1 (off := 416) (v := .int .i64 M.pc) (Ms.scal hok 0)
  rw [hpc] at p1
  have olR := ol.keep kR (by simp)
  have ld1 : loadRow mR ⟨lb, p * 5, none⟩ 5 = some (icl (24, (ra : Int), (rb : Int), (rc : Int), n)) := by rw [olR.load 5 (by rw [icv_len]; omega), icv_win hp, hx]
  have pp : (p : Int) < ls.length := by omega
  have ep : (p : Int) ≤ 9223372036854775807 := by omega
  have np : ¬ (p : Int) < 0 := by omega
  have nl : ¬ (ls.length : Int) ≤ p := by omega
  have hfm := hM.flt
  have hfR := MR.flt
  obtain ⟨o3, k3, n3⟩ := new_own (m := mR) (cs := [.int .i64 0, .int .i64 0, .int .i64 0, .int .i64 0, .int .i64 0]) (e := 52) rfl
  obtain ⟨m4, e4, o4, k4⟩ := store_own (r := _) rfl o3 (off := 0) (vs := icl (24, (ra : Int), (rb : Int), (rc : Int), n)) (by simp) (by simp [one_int])
  simp [over] at o4
  have k34 := k3.fresh k4 (by simp)
  have M4 := MR.keep k34 (by simp)
  have p4 := M4.load1 (off := 416) (v := .int .i64 M.pc) (Ms.scal hok 0)
  rw [hpc] at p4
  have wp : IntKind.i64.wrap ((p : Int) + 1) = (p : Int) + 1 := wrap_i64 (by omega) (by omega)
  have wst : IntKind.i64.wrap ((st : Int) + 1) = (st : Int) + 1 := wrap_i64 (by omega) (by omega)
  obtain ⟨m5, e5, o5, k5⟩ := store_own (r := _) rfl M4 (off := 416) (vs := [.int .i64 ((p : Int) + 1)]) (by rw [Ms.len hok]; simp) (by simp [one_int])
  rw [Ms.opc hok] at o5
  have hok5 := Ms.ok_pc hok ((p : Int) + 1)
  have s5 := o5.load1 (off := 417) (v := .int .i64 M.steps) (Ms.scal hok5 1)
  rw [hst] at s5
  obtain ⟨m6, e6, o6, k6⟩ := store_own (r := _) rfl o5 (off := 417) (vs := [.int .i64 ((st : Int) + 1)]) (by rw [Ms.len hok5]; simp) (by simp [one_int])
  rw [Ms.osteps hok5] at o6
  have hok6 := Ms.ok_steps hok5 ((st : Int) + 1)
  have k56 := k5.trans k6
  have x6 := o4.keep k56 (by simp; omega)
  have q0 := x6.load1 (off := 0) rfl
  have q1 := x6.load1 (off := 1) rfl
  have q2 := x6.load1 (off := 2) rfl
  have q3 := x6.load1 (off := 3) rfl
  have q4 := x6.load1 (off := 4) rfl
  have la := o6.load1 (off := ra) (Ms.reg hok6 ha)
  have lb' := o6.load1 (off := rb) (Ms.reg hok6 hb')
  have lc := o6.load1 (off := rc) (Ms.reg hok6 hc)
  generalize hva : M.R.getD ra 0 = va at *
  generalize hvb : M.R.getD rb 0 = vb at *
  generalize hvc : M.R.getD rc 0 = vc at *
  have ea : (ra : Int) ≤ 9223372036854775807 := by omega
  have eb : (rb : Int) ≤ 9223372036854775807 := by omega
  have ec : (rc : Int) ≤ 9223372036854775807 := by omega
  have H6 := ((hH.keep kR (by simp) (by simp)).keep k34 (by simp) (by simp)).keep k56 (by simpa using n1) (by simpa using n2)
  have k06 := ((kR.trans k34).nil (fs := [f, wf])).trans (k56.mono (by simp))
  refine fn_w 71 [95, 105, 118, 132, 146, 162, 178, 197, 220, 240, 264, 271, 279, 285, 293, 302, 313, 329, 339, 339] k13 hS rfl ?_
  simp [-Int.natCast_add, -BitVec.toNat_or, -BitVec.toNat_ofInt, -BitVec.toNat_and, fieldAddr_of fa37_5, load_of ld3, fieldAddr_of fa37_2, len_slice u22, index_slice u22 sz52, load_agg ld52, store_of sz3, alloc_of zo52, store_of sz52, fieldAddr_of fa37_0, fieldAddr_of fa37_3, fieldAddr_of fa52_0, fieldAddr_of fa52_1, fieldAddr_of fa52_4, load_of ld2, conv_i u2 u33, indexAddr_arr u34 sz33, store_of sz33, fieldAddr_of fa52_2, load_of ld33, fieldAddr_of fa37_1, indexAddr_arr u35 sz33, conv_i u3 u33, fieldAddr_of fa52_3, fieldAddr_of fa37_6, fieldAddr_of fa37_4, hlo, s0, p0, hp, pp, ep, np, nl, ld, cR, p1, ld1, e4, p4, wp, e5, s5, wst, e6, q0, q1, q2, q3, q4, la, lb', lc, ha, hb', hc, ea, eb, ec, hz]
  rw [hpc, hst]
  exact ⟨⟨o6, H6⟩, k06⟩
set_option maxHeartbeats 8000000 in
theorem ref_GuardYes (hS : S 13 = []) (hN : Nr S) (hX : MR m b f hb hf wb wf M ws lo ls lf le) {p st : Nat} (hp : p < ls.length) (hpc : M.pc = (p : Int)) (hst : M.steps = (st : Int)) (hs2 : st ≤ 1000000) (hs0 : M.state = 0) {ra rb rc : Nat} (ha : ra < 16) (hb' : rb < 16) (hc : rc < 16) {n : Int} (hn : -9223372036854775808 ≤ n ∧ n ≤ 9223372036854775807) (hz : M.R.getD ra 0 = 0) (hx : ls[p] = (25, (ra : Int), (rb : Int), (rc : Int), n)) (hR : RightI (25, (ra : Int), (rb : Int), (rc : Int), n) ls.length) (wish : Int) :
    ∃ v m1, callw Tryd.prog TT S 13 [.pointer (some ⟨b, 0, none⟩), .slice lo ls.length ls.length, .pointer (some ⟨hb, 0, none⟩), .int .i64 wish] m = some (v, m1) ∧ (MaAt m1 b f { M with pc := M.pc + 1, steps := M.steps + 1, state := 1, exit := n } ∧ RefAt m1 hb hf wb wf (ws) 100) ∧ Keeps m m1 [f, wf] := by
  obtain ⟨hM, hH, hl, hll, hok, hwd, hle, n1, n2, n3'⟩ := hX
  have s0 := hM.load1 (off := 419) (v := .int .i64 M.state) (Ms.scal hok 3)
  rw [hs0] at s0
  have p0 := hM.load1 (off := 416) (v := .int .i64 M.pc) (Ms.scal hok 0)
  rw [hpc] at p0
  obtain ⟨lb, hlo, ol⟩ := hl.rdo (by omega)
  have ld : loadRow m ⟨lb, p * 5, none⟩ 5 = some (icl (25, (ra : Int), (rb : Int), (rc : Int), n)) := by rw [ol.load 5 (by rw [icv_len]; omega), icv_win hp, hx]
  obtain ⟨_, mR, cR, ⟨bR, rfl, hbR⟩, kR⟩ := ins_run (m := m) hN (25, (ra : Int), (rb : Int), (rc : Int), n) (size := ls.length) (by omega)
  have hbt := hbR.2 hR
  subst hbt
  have MR := hM.keep kR (by simp)
  have p1 := MR.load1 (off := 416) (v := .int .i64 M.pc) (Ms.scal hok 0)
  rw [hpc] at p1
  have olR := ol.keep kR (by simp)
  have ld1 : loadRow mR ⟨lb, p * 5, none⟩ 5 = some (icl (25, (ra : Int), (rb : Int), (rc : Int), n)) := by rw [olR.load 5 (by rw [icv_len]; omega), icv_win hp, hx]
  have pp : (p : Int) < ls.length := by omega
  have ep : (p : Int) ≤ 9223372036854775807 := by omega
  have np : ¬ (p : Int) < 0 := by omega
  have nl : ¬ (ls.length : Int) ≤ p := by omega
  have hfm := hM.flt
  have hfR := MR.flt
  obtain ⟨o3, k3, n3⟩ := new_own (m := mR) (cs := [.int .i64 0, .int .i64 0, .int .i64 0, .int .i64 0, .int .i64 0]) (e := 52) rfl
  obtain ⟨m4, e4, o4, k4⟩ := store_own (r := _) rfl o3 (off := 0) (vs := icl (25, (ra : Int), (rb : Int), (rc : Int), n)) (by simp) (by simp [one_int])
  simp [over] at o4
  have k34 := k3.fresh k4 (by simp)
  have M4 := MR.keep k34 (by simp)
  have p4 := M4.load1 (off := 416) (v := .int .i64 M.pc) (Ms.scal hok 0)
  rw [hpc] at p4
  have wp : IntKind.i64.wrap ((p : Int) + 1) = (p : Int) + 1 := wrap_i64 (by omega) (by omega)
  have wst : IntKind.i64.wrap ((st : Int) + 1) = (st : Int) + 1 := wrap_i64 (by omega) (by omega)
  obtain ⟨m5, e5, o5, k5⟩ := store_own (r := _) rfl M4 (off := 416) (vs := [.int .i64 ((p : Int) + 1)]) (by rw [Ms.len hok]; simp) (by simp [one_int])
  rw [Ms.opc hok] at o5
  have hok5 := Ms.ok_pc hok ((p : Int) + 1)
  have s5 := o5.load1 (off := 417) (v := .int .i64 M.steps) (Ms.scal hok5 1)
  rw [hst] at s5
  obtain ⟨m6, e6, o6, k6⟩ := store_own (r := _) rfl o5 (off := 417) (vs := [.int .i64 ((st : Int) + 1)]) (by rw [Ms.len hok5]; simp) (by simp [one_int])
  rw [Ms.osteps hok5] at o6
  have hok6 := Ms.ok_steps hok5 ((st : Int) + 1)
  have k56 := k5.trans k6
  have x6 := o4.keep k56 (by simp; omega)
  have q0 := x6.load1 (off := 0) rfl
  have q1 := x6.load1 (off := 1) rfl
  have q2 := x6.load1 (off := 2) rfl
  have q3 := x6.load1 (off := 3) rfl
  have q4 := x6.load1 (off := 4) rfl
  have la := o6.load1 (off := ra) (Ms.reg hok6 ha)
  have lb' := o6.load1 (off := rb) (Ms.reg hok6 hb')
  have lc := o6.load1 (off := rc) (Ms.reg hok6 hc)
  generalize hva : M.R.getD ra 0 = va at *
  generalize hvb : M.R.getD rb 0 = vb at *
  generalize hvc : M.R.getD rc 0 = vc at *
  have ea : (ra : Int) ≤ 9223372036854775807 := by omega
  have eb : (rb : Int) ≤ 9223372036854775807 := by omega
  have ec : (rc : Int) ≤ 9223372036854775807 := by omega
  have H6 := ((hH.keep kR (by simp) (by simp)).keep k34 (by simp) (by simp)).keep k56 (by simpa using n1) (by simpa using n2)
  have k06 := ((kR.trans k34).nil (fs := [f, wf])).trans (k56.mono (by simp))
  have wn : IntKind.i64.wrap n = n := wrap_i64 hn.1 hn.2
  obtain ⟨m7, e7, o7, k7⟩ := store_own (r := _) rfl o6 (off := 419) (vs := [.int .i64 1]) (by rw [Ms.len hok6]; simp; try omega) (by simp [one_int])
  rw [Ms.ostate hok6] at o7
  have q1s := (x6.keep k7 (by simp; omega)).load1 (off := 1) rfl
  have q4s := (x6.keep k7 (by simp; omega)).load1 (off := 4) rfl
  have hok7 := Ms.ok_state hok6 1
  have x7 := x6.keep k7 (by simp; omega)
  obtain ⟨m8, e8, o8, k8⟩ := store_own (r := _) rfl o7 (off := 420) (vs := [.int .i64 n]) (by rw [Ms.len hok7]; simp; try omega) (by simp [one_int])
  rw [Ms.oexit hok7] at o8
  have q1s8 := (x7.keep k8 (by simp; omega)).load1 (off := 1) rfl
  have q4s8 := (x7.keep k8 (by simp; omega)).load1 (off := 4) rfl
  refine fn_w 71 [95, 105, 118, 132, 146, 162, 178, 197, 220, 240, 264, 271, 279, 285, 293, 302, 313, 329, 339, 339] k13 hS rfl ?_
  simp [-Int.natCast_add, -BitVec.toNat_or, -BitVec.toNat_ofInt, -BitVec.toNat_and, fieldAddr_of fa37_5, load_of ld3, fieldAddr_of fa37_2, len_slice u22, index_slice u22 sz52, load_agg ld52, store_of sz3, alloc_of zo52, store_of sz52, fieldAddr_of fa37_0, fieldAddr_of fa37_3, fieldAddr_of fa52_0, fieldAddr_of fa52_1, fieldAddr_of fa52_4, load_of ld2, conv_i u2 u33, indexAddr_arr u34 sz33, store_of sz33, fieldAddr_of fa52_2, load_of ld33, fieldAddr_of fa37_1, indexAddr_arr u35 sz33, conv_i u3 u33, fieldAddr_of fa52_3, fieldAddr_of fa37_6, fieldAddr_of fa37_4, hlo, s0, p0, hp, pp, ep, np, nl, ld, cR, p1, ld1, e4, p4, wp, e5, s5, wst, e6, q0, q1, q2, q3, q4, la, lb', lc, ha, hb', hc, ea, eb, ec, hz, wn, e7, q1s, q4s, e8, q1s8, q4s8]
  rw [hpc, hst]
  exact ⟨⟨o8, (H6.keep k7 (by simpa using n1) (by simpa using n2)).keep k8 (by simpa using n1) (by simpa using n2)⟩, (k06.trans (k7.mono (by simp))).trans (k8.mono (by simp))⟩
set_option maxHeartbeats 8000000 in
theorem ref_GuardNo (hS : S 13 = []) (hN : Nr S) (hX : MR m b f hb hf wb wf M ws lo ls lf le) {p st : Nat} (hp : p < ls.length) (hpc : M.pc = (p : Int)) (hst : M.steps = (st : Int)) (hs2 : st ≤ 1000000) (hs0 : M.state = 0) {ra rb rc : Nat} (ha : ra < 16) (hb' : rb < 16) (hc : rc < 16) {n : Int} (hn : -9223372036854775808 ≤ n ∧ n ≤ 9223372036854775807) (hz : ¬ M.R.getD ra 0 = 0) (hx : ls[p] = (25, (ra : Int), (rb : Int), (rc : Int), n)) (hR : RightI (25, (ra : Int), (rb : Int), (rc : Int), n) ls.length) (wish : Int) :
    ∃ v m1, callw Tryd.prog TT S 13 [.pointer (some ⟨b, 0, none⟩), .slice lo ls.length ls.length, .pointer (some ⟨hb, 0, none⟩), .int .i64 wish] m = some (v, m1) ∧ (MaAt m1 b f { M with pc := M.pc + 1, steps := M.steps + 1 } ∧ RefAt m1 hb hf wb wf (ws) 100) ∧ Keeps m m1 [f, wf] := by
  obtain ⟨hM, hH, hl, hll, hok, hwd, hle, n1, n2, n3'⟩ := hX
  have s0 := hM.load1 (off := 419) (v := .int .i64 M.state) (Ms.scal hok 3)
  rw [hs0] at s0
  have p0 := hM.load1 (off := 416) (v := .int .i64 M.pc) (Ms.scal hok 0)
  rw [hpc] at p0
  obtain ⟨lb, hlo, ol⟩ := hl.rdo (by omega)
  have ld : loadRow m ⟨lb, p * 5, none⟩ 5 = some (icl (25, (ra : Int), (rb : Int), (rc : Int), n)) := by rw [ol.load 5 (by rw [icv_len]; omega), icv_win hp, hx]
  obtain ⟨_, mR, cR, ⟨bR, rfl, hbR⟩, kR⟩ := ins_run (m := m) hN (25, (ra : Int), (rb : Int), (rc : Int), n) (size := ls.length) (by omega)
  have hbt := hbR.2 hR
  subst hbt
  have MR := hM.keep kR (by simp)
  have p1 := MR.load1 (off := 416) (v := .int .i64 M.pc) (Ms.scal hok 0)
  rw [hpc] at p1
  have olR := ol.keep kR (by simp)
  have ld1 : loadRow mR ⟨lb, p * 5, none⟩ 5 = some (icl (25, (ra : Int), (rb : Int), (rc : Int), n)) := by rw [olR.load 5 (by rw [icv_len]; omega), icv_win hp, hx]
  have pp : (p : Int) < ls.length := by omega
  have ep : (p : Int) ≤ 9223372036854775807 := by omega
  have np : ¬ (p : Int) < 0 := by omega
  have nl : ¬ (ls.length : Int) ≤ p := by omega
  have hfm := hM.flt
  have hfR := MR.flt
  obtain ⟨o3, k3, n3⟩ := new_own (m := mR) (cs := [.int .i64 0, .int .i64 0, .int .i64 0, .int .i64 0, .int .i64 0]) (e := 52) rfl
  obtain ⟨m4, e4, o4, k4⟩ := store_own (r := _) rfl o3 (off := 0) (vs := icl (25, (ra : Int), (rb : Int), (rc : Int), n)) (by simp) (by simp [one_int])
  simp [over] at o4
  have k34 := k3.fresh k4 (by simp)
  have M4 := MR.keep k34 (by simp)
  have p4 := M4.load1 (off := 416) (v := .int .i64 M.pc) (Ms.scal hok 0)
  rw [hpc] at p4
  have wp : IntKind.i64.wrap ((p : Int) + 1) = (p : Int) + 1 := wrap_i64 (by omega) (by omega)
  have wst : IntKind.i64.wrap ((st : Int) + 1) = (st : Int) + 1 := wrap_i64 (by omega) (by omega)
  obtain ⟨m5, e5, o5, k5⟩ := store_own (r := _) rfl M4 (off := 416) (vs := [.int .i64 ((p : Int) + 1)]) (by rw [Ms.len hok]; simp) (by simp [one_int])
  rw [Ms.opc hok] at o5
  have hok5 := Ms.ok_pc hok ((p : Int) + 1)
  have s5 := o5.load1 (off := 417) (v := .int .i64 M.steps) (Ms.scal hok5 1)
  rw [hst] at s5
  obtain ⟨m6, e6, o6, k6⟩ := store_own (r := _) rfl o5 (off := 417) (vs := [.int .i64 ((st : Int) + 1)]) (by rw [Ms.len hok5]; simp) (by simp [one_int])
  rw [Ms.osteps hok5] at o6
  have hok6 := Ms.ok_steps hok5 ((st : Int) + 1)
  have k56 := k5.trans k6
  have x6 := o4.keep k56 (by simp; omega)
  have q0 := x6.load1 (off := 0) rfl
  have q1 := x6.load1 (off := 1) rfl
  have q2 := x6.load1 (off := 2) rfl
  have q3 := x6.load1 (off := 3) rfl
  have q4 := x6.load1 (off := 4) rfl
  have la := o6.load1 (off := ra) (Ms.reg hok6 ha)
  have lb' := o6.load1 (off := rb) (Ms.reg hok6 hb')
  have lc := o6.load1 (off := rc) (Ms.reg hok6 hc)
  generalize hva : M.R.getD ra 0 = va at *
  generalize hvb : M.R.getD rb 0 = vb at *
  generalize hvc : M.R.getD rc 0 = vc at *
  have ea : (ra : Int) ≤ 9223372036854775807 := by omega
  have eb : (rb : Int) ≤ 9223372036854775807 := by omega
  have ec : (rc : Int) ≤ 9223372036854775807 := by omega
  have H6 := ((hH.keep kR (by simp) (by simp)).keep k34 (by simp) (by simp)).keep k56 (by simpa using n1) (by simpa using n2)
  have k06 := ((kR.trans k34).nil (fs := [f, wf])).trans (k56.mono (by simp))
  refine fn_w 71 [95, 105, 118, 132, 146, 162, 178, 197, 220, 240, 264, 271, 279, 285, 293, 302, 313, 329, 339, 339] k13 hS rfl ?_
  simp [-Int.natCast_add, -BitVec.toNat_or, -BitVec.toNat_ofInt, -BitVec.toNat_and, fieldAddr_of fa37_5, load_of ld3, fieldAddr_of fa37_2, len_slice u22, index_slice u22 sz52, load_agg ld52, store_of sz3, alloc_of zo52, store_of sz52, fieldAddr_of fa37_0, fieldAddr_of fa37_3, fieldAddr_of fa52_0, fieldAddr_of fa52_1, fieldAddr_of fa52_4, load_of ld2, conv_i u2 u33, indexAddr_arr u34 sz33, store_of sz33, fieldAddr_of fa52_2, load_of ld33, fieldAddr_of fa37_1, indexAddr_arr u35 sz33, conv_i u3 u33, fieldAddr_of fa52_3, fieldAddr_of fa37_6, fieldAddr_of fa37_4, hlo, s0, p0, hp, pp, ep, np, nl, ld, cR, p1, ld1, e4, p4, wp, e5, s5, wst, e6, q0, q1, q2, q3, q4, la, lb', lc, ha, hb', hc, ea, eb, ec, hz]
  rw [hpc, hst]
  exact ⟨⟨o6, H6⟩, k06⟩
set_option maxHeartbeats 8000000 in
theorem ref_Leave (hS : S 13 = []) (hN : Nr S) (hX : MR m b f hb hf wb wf M ws lo ls lf le) {p st : Nat} (hp : p < ls.length) (hpc : M.pc = (p : Int)) (hst : M.steps = (st : Int)) (hs2 : st ≤ 1000000) (hs0 : M.state = 0) {ra rb rc : Nat} (ha : ra < 16) (hb' : rb < 16) (hc : rc < 16) {n : Int} (hn : -9223372036854775808 ≤ n ∧ n ≤ 9223372036854775807) (hx : ls[p] = (27, (ra : Int), (rb : Int), (rc : Int), n)) (hR : RightI (27, (ra : Int), (rb : Int), (rc : Int), n) ls.length) (wish : Int) :
    ∃ v m1, callw Tryd.prog TT S 13 [.pointer (some ⟨b, 0, none⟩), .slice lo ls.length ls.length, .pointer (some ⟨hb, 0, none⟩), .int .i64 wish] m = some (v, m1) ∧ (MaAt m1 b f { M with pc := M.pc + 1, steps := M.steps + 1, state := 1, exit := n } ∧ RefAt m1 hb hf wb wf (ws) 100) ∧ Keeps m m1 [f, wf] := by
  obtain ⟨hM, hH, hl, hll, hok, hwd, hle, n1, n2, n3'⟩ := hX
  have s0 := hM.load1 (off := 419) (v := .int .i64 M.state) (Ms.scal hok 3)
  rw [hs0] at s0
  have p0 := hM.load1 (off := 416) (v := .int .i64 M.pc) (Ms.scal hok 0)
  rw [hpc] at p0
  obtain ⟨lb, hlo, ol⟩ := hl.rdo (by omega)
  have ld : loadRow m ⟨lb, p * 5, none⟩ 5 = some (icl (27, (ra : Int), (rb : Int), (rc : Int), n)) := by rw [ol.load 5 (by rw [icv_len]; omega), icv_win hp, hx]
  obtain ⟨_, mR, cR, ⟨bR, rfl, hbR⟩, kR⟩ := ins_run (m := m) hN (27, (ra : Int), (rb : Int), (rc : Int), n) (size := ls.length) (by omega)
  have hbt := hbR.2 hR
  subst hbt
  have MR := hM.keep kR (by simp)
  have p1 := MR.load1 (off := 416) (v := .int .i64 M.pc) (Ms.scal hok 0)
  rw [hpc] at p1
  have olR := ol.keep kR (by simp)
  have ld1 : loadRow mR ⟨lb, p * 5, none⟩ 5 = some (icl (27, (ra : Int), (rb : Int), (rc : Int), n)) := by rw [olR.load 5 (by rw [icv_len]; omega), icv_win hp, hx]
  have pp : (p : Int) < ls.length := by omega
  have ep : (p : Int) ≤ 9223372036854775807 := by omega
  have np : ¬ (p : Int) < 0 := by omega
  have nl : ¬ (ls.length : Int) ≤ p := by omega
  have hfm := hM.flt
  have hfR := MR.flt
  obtain ⟨o3, k3, n3⟩ := new_own (m := mR) (cs := [.int .i64 0, .int .i64 0, .int .i64 0, .int .i64 0, .int .i64 0]) (e := 52) rfl
  obtain ⟨m4, e4, o4, k4⟩ := store_own (r := _) rfl o3 (off := 0) (vs := icl (27, (ra : Int), (rb : Int), (rc : Int), n)) (by simp) (by simp [one_int])
  simp [over] at o4
  have k34 := k3.fresh k4 (by simp)
  have M4 := MR.keep k34 (by simp)
  have p4 := M4.load1 (off := 416) (v := .int .i64 M.pc) (Ms.scal hok 0)
  rw [hpc] at p4
  have wp : IntKind.i64.wrap ((p : Int) + 1) = (p : Int) + 1 := wrap_i64 (by omega) (by omega)
  have wst : IntKind.i64.wrap ((st : Int) + 1) = (st : Int) + 1 := wrap_i64 (by omega) (by omega)
  obtain ⟨m5, e5, o5, k5⟩ := store_own (r := _) rfl M4 (off := 416) (vs := [.int .i64 ((p : Int) + 1)]) (by rw [Ms.len hok]; simp) (by simp [one_int])
  rw [Ms.opc hok] at o5
  have hok5 := Ms.ok_pc hok ((p : Int) + 1)
  have s5 := o5.load1 (off := 417) (v := .int .i64 M.steps) (Ms.scal hok5 1)
  rw [hst] at s5
  obtain ⟨m6, e6, o6, k6⟩ := store_own (r := _) rfl o5 (off := 417) (vs := [.int .i64 ((st : Int) + 1)]) (by rw [Ms.len hok5]; simp) (by simp [one_int])
  rw [Ms.osteps hok5] at o6
  have hok6 := Ms.ok_steps hok5 ((st : Int) + 1)
  have k56 := k5.trans k6
  have x6 := o4.keep k56 (by simp; omega)
  have q0 := x6.load1 (off := 0) rfl
  have q1 := x6.load1 (off := 1) rfl
  have q2 := x6.load1 (off := 2) rfl
  have q3 := x6.load1 (off := 3) rfl
  have q4 := x6.load1 (off := 4) rfl
  have la := o6.load1 (off := ra) (Ms.reg hok6 ha)
  have lb' := o6.load1 (off := rb) (Ms.reg hok6 hb')
  have lc := o6.load1 (off := rc) (Ms.reg hok6 hc)
  generalize hva : M.R.getD ra 0 = va at *
  generalize hvb : M.R.getD rb 0 = vb at *
  generalize hvc : M.R.getD rc 0 = vc at *
  have ea : (ra : Int) ≤ 9223372036854775807 := by omega
  have eb : (rb : Int) ≤ 9223372036854775807 := by omega
  have ec : (rc : Int) ≤ 9223372036854775807 := by omega
  have H6 := ((hH.keep kR (by simp) (by simp)).keep k34 (by simp) (by simp)).keep k56 (by simpa using n1) (by simpa using n2)
  have k06 := ((kR.trans k34).nil (fs := [f, wf])).trans (k56.mono (by simp))
  have wn : IntKind.i64.wrap n = n := wrap_i64 hn.1 hn.2
  obtain ⟨m7, e7, o7, k7⟩ := store_own (r := _) rfl o6 (off := 419) (vs := [.int .i64 1]) (by rw [Ms.len hok6]; simp; try omega) (by simp [one_int])
  rw [Ms.ostate hok6] at o7
  have q1s := (x6.keep k7 (by simp; omega)).load1 (off := 1) rfl
  have q4s := (x6.keep k7 (by simp; omega)).load1 (off := 4) rfl
  have hok7 := Ms.ok_state hok6 1
  have x7 := x6.keep k7 (by simp; omega)
  obtain ⟨m8, e8, o8, k8⟩ := store_own (r := _) rfl o7 (off := 420) (vs := [.int .i64 n]) (by rw [Ms.len hok7]; simp; try omega) (by simp [one_int])
  rw [Ms.oexit hok7] at o8
  have q1s8 := (x7.keep k8 (by simp; omega)).load1 (off := 1) rfl
  have q4s8 := (x7.keep k8 (by simp; omega)).load1 (off := 4) rfl
  refine fn_w 71 [95, 105, 118, 132, 146, 162, 178, 197, 220, 240, 264, 271, 279, 285, 293, 302, 313, 329, 339, 339] k13 hS rfl ?_
  simp [-Int.natCast_add, -BitVec.toNat_or, -BitVec.toNat_ofInt, -BitVec.toNat_and, fieldAddr_of fa37_5, load_of ld3, fieldAddr_of fa37_2, len_slice u22, index_slice u22 sz52, load_agg ld52, store_of sz3, alloc_of zo52, store_of sz52, fieldAddr_of fa37_0, fieldAddr_of fa37_3, fieldAddr_of fa52_0, fieldAddr_of fa52_1, fieldAddr_of fa52_4, load_of ld2, conv_i u2 u33, indexAddr_arr u34 sz33, store_of sz33, fieldAddr_of fa52_2, load_of ld33, fieldAddr_of fa37_1, indexAddr_arr u35 sz33, conv_i u3 u33, fieldAddr_of fa52_3, fieldAddr_of fa37_6, fieldAddr_of fa37_4, hlo, s0, p0, hp, pp, ep, np, nl, ld, cR, p1, ld1, e4, p4, wp, e5, s5, wst, e6, q0, q1, q2, q3, q4, la, lb', lc, ha, hb', hc, ea, eb, ec, wn, e7, q1s, q4s, e8, q1s8, q4s8]
  rw [hpc, hst]
  exact ⟨⟨o8, (H6.keep k7 (by simpa using n1) (by simpa using n2)).keep k8 (by simpa using n1) (by simpa using n2)⟩, (k06.trans (k7.mono (by simp))).trans (k8.mono (by simp))⟩
set_option maxHeartbeats 8000000 in
theorem ref_PollYes (hS : S 13 = []) (hN : Nr S) (hX : MR m b f hb hf wb wf M ws lo ls lf le) {p st : Nat} (hp : p < ls.length) (hpc : M.pc = (p : Int)) (hst : M.steps = (st : Int)) (hs2 : st ≤ 1000000) (hs0 : M.state = 0) {ra rb rc : Nat} (ha : ra < 16) (hb' : rb < 16) (hc : rc < 16) {n : Int} (hn : -9223372036854775808 ≤ n ∧ n ≤ 9223372036854775807) {wish : Int} (hz : 0 ≤ wish ∧ M.polls = wish) (hx : ls[p] = (26, (ra : Int), (rb : Int), (rc : Int), n)) (hR : RightI (26, (ra : Int), (rb : Int), (rc : Int), n) ls.length)  :
    ∃ v m1, callw Tryd.prog TT S 13 [.pointer (some ⟨b, 0, none⟩), .slice lo ls.length ls.length, .pointer (some ⟨hb, 0, none⟩), .int .i64 wish] m = some (v, m1) ∧ (MaAt m1 b f { M with pc := M.pc + 1, steps := M.steps + 1, state := 1, exit := n } ∧ RefAt m1 hb hf wb wf (ws) 100) ∧ Keeps m m1 [f, wf] := by
  obtain ⟨hM, hH, hl, hll, hok, hwd, hle, n1, n2, n3'⟩ := hX
  have s0 := hM.load1 (off := 419) (v := .int .i64 M.state) (Ms.scal hok 3)
  rw [hs0] at s0
  have p0 := hM.load1 (off := 416) (v := .int .i64 M.pc) (Ms.scal hok 0)
  rw [hpc] at p0
  obtain ⟨lb, hlo, ol⟩ := hl.rdo (by omega)
  have ld : loadRow m ⟨lb, p * 5, none⟩ 5 = some (icl (26, (ra : Int), (rb : Int), (rc : Int), n)) := by rw [ol.load 5 (by rw [icv_len]; omega), icv_win hp, hx]
  obtain ⟨_, mR, cR, ⟨bR, rfl, hbR⟩, kR⟩ := ins_run (m := m) hN (26, (ra : Int), (rb : Int), (rc : Int), n) (size := ls.length) (by omega)
  have hbt := hbR.2 hR
  subst hbt
  have MR := hM.keep kR (by simp)
  have p1 := MR.load1 (off := 416) (v := .int .i64 M.pc) (Ms.scal hok 0)
  rw [hpc] at p1
  have olR := ol.keep kR (by simp)
  have ld1 : loadRow mR ⟨lb, p * 5, none⟩ 5 = some (icl (26, (ra : Int), (rb : Int), (rc : Int), n)) := by rw [olR.load 5 (by rw [icv_len]; omega), icv_win hp, hx]
  have pp : (p : Int) < ls.length := by omega
  have ep : (p : Int) ≤ 9223372036854775807 := by omega
  have np : ¬ (p : Int) < 0 := by omega
  have nl : ¬ (ls.length : Int) ≤ p := by omega
  have hfm := hM.flt
  have hfR := MR.flt
  obtain ⟨o3, k3, n3⟩ := new_own (m := mR) (cs := [.int .i64 0, .int .i64 0, .int .i64 0, .int .i64 0, .int .i64 0]) (e := 52) rfl
  obtain ⟨m4, e4, o4, k4⟩ := store_own (r := _) rfl o3 (off := 0) (vs := icl (26, (ra : Int), (rb : Int), (rc : Int), n)) (by simp) (by simp [one_int])
  simp [over] at o4
  have k34 := k3.fresh k4 (by simp)
  have M4 := MR.keep k34 (by simp)
  have p4 := M4.load1 (off := 416) (v := .int .i64 M.pc) (Ms.scal hok 0)
  rw [hpc] at p4
  have wp : IntKind.i64.wrap ((p : Int) + 1) = (p : Int) + 1 := wrap_i64 (by omega) (by omega)
  have wst : IntKind.i64.wrap ((st : Int) + 1) = (st : Int) + 1 := wrap_i64 (by omega) (by omega)
  obtain ⟨m5, e5, o5, k5⟩ := store_own (r := _) rfl M4 (off := 416) (vs := [.int .i64 ((p : Int) + 1)]) (by rw [Ms.len hok]; simp) (by simp [one_int])
  rw [Ms.opc hok] at o5
  have hok5 := Ms.ok_pc hok ((p : Int) + 1)
  have s5 := o5.load1 (off := 417) (v := .int .i64 M.steps) (Ms.scal hok5 1)
  rw [hst] at s5
  obtain ⟨m6, e6, o6, k6⟩ := store_own (r := _) rfl o5 (off := 417) (vs := [.int .i64 ((st : Int) + 1)]) (by rw [Ms.len hok5]; simp) (by simp [one_int])
  rw [Ms.osteps hok5] at o6
  have hok6 := Ms.ok_steps hok5 ((st : Int) + 1)
  have k56 := k5.trans k6
  have x6 := o4.keep k56 (by simp; omega)
  have q0 := x6.load1 (off := 0) rfl
  have q1 := x6.load1 (off := 1) rfl
  have q2 := x6.load1 (off := 2) rfl
  have q3 := x6.load1 (off := 3) rfl
  have q4 := x6.load1 (off := 4) rfl
  have la := o6.load1 (off := ra) (Ms.reg hok6 ha)
  have lb' := o6.load1 (off := rb) (Ms.reg hok6 hb')
  have lc := o6.load1 (off := rc) (Ms.reg hok6 hc)
  generalize hva : M.R.getD ra 0 = va at *
  generalize hvb : M.R.getD rb 0 = vb at *
  generalize hvc : M.R.getD rc 0 = vc at *
  have ea : (ra : Int) ≤ 9223372036854775807 := by omega
  have eb : (rb : Int) ≤ 9223372036854775807 := by omega
  have ec : (rc : Int) ≤ 9223372036854775807 := by omega
  have H6 := ((hH.keep kR (by simp) (by simp)).keep k34 (by simp) (by simp)).keep k56 (by simpa using n1) (by simpa using n2)
  have k06 := ((kR.trans k34).nil (fs := [f, wf])).trans (k56.mono (by simp))
  have lp := o6.load1 (off := 418) (v := .int .i64 M.polls) (Ms.scal hok6 2)
  obtain ⟨z1, z2⟩ := hz
  have wn : IntKind.i64.wrap n = n := wrap_i64 hn.1 hn.2
  obtain ⟨m7, e7, o7, k7⟩ := store_own (r := _) rfl o6 (off := 419) (vs := [.int .i64 1]) (by rw [Ms.len hok6]; simp; try omega) (by simp [one_int])
  rw [Ms.ostate hok6] at o7
  have q1s := (x6.keep k7 (by simp; omega)).load1 (off := 1) rfl
  have q4s := (x6.keep k7 (by simp; omega)).load1 (off := 4) rfl
  have hok7 := Ms.ok_state hok6 1
  have x7 := x6.keep k7 (by simp; omega)
  obtain ⟨m8, e8, o8, k8⟩ := store_own (r := _) rfl o7 (off := 420) (vs := [.int .i64 n]) (by rw [Ms.len hok7]; simp; try omega) (by simp [one_int])
  rw [Ms.oexit hok7] at o8
  have q1s8 := (x7.keep k8 (by simp; omega)).load1 (off := 1) rfl
  have q4s8 := (x7.keep k8 (by simp; omega)).load1 (off := 4) rfl
  refine fn_w 71 [95, 105, 118, 132, 146, 162, 178, 197, 220, 240, 264, 271, 279, 285, 293, 302, 313, 329, 339, 339] k13 hS rfl ?_
  simp [-Int.natCast_add, -BitVec.toNat_or, -BitVec.toNat_ofInt, -BitVec.toNat_and, fieldAddr_of fa37_5, load_of ld3, fieldAddr_of fa37_2, len_slice u22, index_slice u22 sz52, load_agg ld52, store_of sz3, alloc_of zo52, store_of sz52, fieldAddr_of fa37_0, fieldAddr_of fa37_3, fieldAddr_of fa52_0, fieldAddr_of fa52_1, fieldAddr_of fa52_4, load_of ld2, conv_i u2 u33, indexAddr_arr u34 sz33, store_of sz33, fieldAddr_of fa52_2, load_of ld33, fieldAddr_of fa37_1, indexAddr_arr u35 sz33, conv_i u3 u33, fieldAddr_of fa52_3, fieldAddr_of fa37_6, fieldAddr_of fa37_4, hlo, s0, p0, hp, pp, ep, np, nl, ld, cR, p1, ld1, e4, p4, wp, e5, s5, wst, e6, q0, q1, q2, q3, q4, la, lb', lc, ha, hb', hc, ea, eb, ec, lp, z1, z2, wn, e7, q1s, q4s, e8, q1s8, q4s8]
  rw [hpc, hst]
  exact ⟨⟨(by simpa [z2] using o8), (H6.keep k7 (by simpa using n1) (by simpa using n2)).keep k8 (by simpa using n1) (by simpa using n2)⟩, (k06.trans (k7.mono (by simp))).trans (k8.mono (by simp))⟩
set_option maxHeartbeats 8000000 in
theorem ref_PollNoA (hS : S 13 = []) (hN : Nr S) (hX : MR m b f hb hf wb wf M ws lo ls lf le) {p st : Nat} (hp : p < ls.length) (hpc : M.pc = (p : Int)) (hst : M.steps = (st : Int)) (hs2 : st ≤ 1000000) (hs0 : M.state = 0) {ra rb rc : Nat} (ha : ra < 16) (hb' : rb < 16) (hc : rc < 16) {n : Int} (hn : -9223372036854775808 ≤ n ∧ n ≤ 9223372036854775807) {wish : Int} (hpo : -9223372036854775808 ≤ M.polls + 1 ∧ M.polls + 1 ≤ 9223372036854775807) (z1 : 0 ≤ wish) (z2 : ¬ M.polls = wish) (hx : ls[p] = (26, (ra : Int), (rb : Int), (rc : Int), n)) (hR : RightI (26, (ra : Int), (rb : Int), (rc : Int), n) ls.length)  :
    ∃ v m1, callw Tryd.prog TT S 13 [.pointer (some ⟨b, 0, none⟩), .slice lo ls.length ls.length, .pointer (some ⟨hb, 0, none⟩), .int .i64 wish] m = some (v, m1) ∧ (MaAt m1 b f { M with pc := M.pc + 1, steps := M.steps + 1, polls := M.polls + 1 } ∧ RefAt m1 hb hf wb wf (ws) 100) ∧ Keeps m m1 [f, wf] := by
  obtain ⟨hM, hH, hl, hll, hok, hwd, hle, n1, n2, n3'⟩ := hX
  have s0 := hM.load1 (off := 419) (v := .int .i64 M.state) (Ms.scal hok 3)
  rw [hs0] at s0
  have p0 := hM.load1 (off := 416) (v := .int .i64 M.pc) (Ms.scal hok 0)
  rw [hpc] at p0
  obtain ⟨lb, hlo, ol⟩ := hl.rdo (by omega)
  have ld : loadRow m ⟨lb, p * 5, none⟩ 5 = some (icl (26, (ra : Int), (rb : Int), (rc : Int), n)) := by rw [ol.load 5 (by rw [icv_len]; omega), icv_win hp, hx]
  obtain ⟨_, mR, cR, ⟨bR, rfl, hbR⟩, kR⟩ := ins_run (m := m) hN (26, (ra : Int), (rb : Int), (rc : Int), n) (size := ls.length) (by omega)
  have hbt := hbR.2 hR
  subst hbt
  have MR := hM.keep kR (by simp)
  have p1 := MR.load1 (off := 416) (v := .int .i64 M.pc) (Ms.scal hok 0)
  rw [hpc] at p1
  have olR := ol.keep kR (by simp)
  have ld1 : loadRow mR ⟨lb, p * 5, none⟩ 5 = some (icl (26, (ra : Int), (rb : Int), (rc : Int), n)) := by rw [olR.load 5 (by rw [icv_len]; omega), icv_win hp, hx]
  have pp : (p : Int) < ls.length := by omega
  have ep : (p : Int) ≤ 9223372036854775807 := by omega
  have np : ¬ (p : Int) < 0 := by omega
  have nl : ¬ (ls.length : Int) ≤ p := by omega
  have hfm := hM.flt
  have hfR := MR.flt
  obtain ⟨o3, k3, n3⟩ := new_own (m := mR) (cs := [.int .i64 0, .int .i64 0, .int .i64 0, .int .i64 0, .int .i64 0]) (e := 52) rfl
  obtain ⟨m4, e4, o4, k4⟩ := store_own (r := _) rfl o3 (off := 0) (vs := icl (26, (ra : Int), (rb : Int), (rc : Int), n)) (by simp) (by simp [one_int])
  simp [over] at o4
  have k34 := k3.fresh k4 (by simp)
  have M4 := MR.keep k34 (by simp)
  have p4 := M4.load1 (off := 416) (v := .int .i64 M.pc) (Ms.scal hok 0)
  rw [hpc] at p4
  have wp : IntKind.i64.wrap ((p : Int) + 1) = (p : Int) + 1 := wrap_i64 (by omega) (by omega)
  have wst : IntKind.i64.wrap ((st : Int) + 1) = (st : Int) + 1 := wrap_i64 (by omega) (by omega)
  obtain ⟨m5, e5, o5, k5⟩ := store_own (r := _) rfl M4 (off := 416) (vs := [.int .i64 ((p : Int) + 1)]) (by rw [Ms.len hok]; simp) (by simp [one_int])
  rw [Ms.opc hok] at o5
  have hok5 := Ms.ok_pc hok ((p : Int) + 1)
  have s5 := o5.load1 (off := 417) (v := .int .i64 M.steps) (Ms.scal hok5 1)
  rw [hst] at s5
  obtain ⟨m6, e6, o6, k6⟩ := store_own (r := _) rfl o5 (off := 417) (vs := [.int .i64 ((st : Int) + 1)]) (by rw [Ms.len hok5]; simp) (by simp [one_int])
  rw [Ms.osteps hok5] at o6
  have hok6 := Ms.ok_steps hok5 ((st : Int) + 1)
  have k56 := k5.trans k6
  have x6 := o4.keep k56 (by simp; omega)
  have q0 := x6.load1 (off := 0) rfl
  have q1 := x6.load1 (off := 1) rfl
  have q2 := x6.load1 (off := 2) rfl
  have q3 := x6.load1 (off := 3) rfl
  have q4 := x6.load1 (off := 4) rfl
  have la := o6.load1 (off := ra) (Ms.reg hok6 ha)
  have lb' := o6.load1 (off := rb) (Ms.reg hok6 hb')
  have lc := o6.load1 (off := rc) (Ms.reg hok6 hc)
  generalize hva : M.R.getD ra 0 = va at *
  generalize hvb : M.R.getD rb 0 = vb at *
  generalize hvc : M.R.getD rc 0 = vc at *
  have ea : (ra : Int) ≤ 9223372036854775807 := by omega
  have eb : (rb : Int) ≤ 9223372036854775807 := by omega
  have ec : (rc : Int) ≤ 9223372036854775807 := by omega
  have H6 := ((hH.keep kR (by simp) (by simp)).keep k34 (by simp) (by simp)).keep k56 (by simpa using n1) (by simpa using n2)
  have k06 := ((kR.trans k34).nil (fs := [f, wf])).trans (k56.mono (by simp))
  have lp := o6.load1 (off := 418) (v := .int .i64 M.polls) (Ms.scal hok6 2)
  have wpo : IntKind.i64.wrap (M.polls + 1) = M.polls + 1 := wrap_i64 hpo.1 hpo.2
  obtain ⟨m7, e7, o7, k7⟩ := store_own (r := _) rfl o6 (off := 418) (vs := [.int .i64 (M.polls + 1)]) (by rw [Ms.len hok6]; simp; try omega) (by simp [one_int])
  rw [Ms.opolls hok6] at o7
  have q1s := (x6.keep k7 (by simp; omega)).load1 (off := 1) rfl
  have q4s := (x6.keep k7 (by simp; omega)).load1 (off := 4) rfl
  refine fn_w 71 [95, 105, 118, 132, 146, 162, 178, 197, 220, 240, 264, 271, 279, 285, 293, 302, 313, 329, 339, 339] k13 hS rfl ?_
  simp [-Int.natCast_add, -BitVec.toNat_or, -BitVec.toNat_ofInt, -BitVec.toNat_and, fieldAddr_of fa37_5, load_of ld3, fieldAddr_of fa37_2, len_slice u22, index_slice u22 sz52, load_agg ld52, store_of sz3, alloc_of zo52, store_of sz52, fieldAddr_of fa37_0, fieldAddr_of fa37_3, fieldAddr_of fa52_0, fieldAddr_of fa52_1, fieldAddr_of fa52_4, load_of ld2, conv_i u2 u33, indexAddr_arr u34 sz33, store_of sz33, fieldAddr_of fa52_2, load_of ld33, fieldAddr_of fa37_1, indexAddr_arr u35 sz33, conv_i u3 u33, fieldAddr_of fa52_3, fieldAddr_of fa37_6, fieldAddr_of fa37_4, hlo, s0, p0, hp, pp, ep, np, nl, ld, cR, p1, ld1, e4, p4, wp, e5, s5, wst, e6, q0, q1, q2, q3, q4, la, lb', lc, ha, hb', hc, ea, eb, ec, lp, wpo, z1, z2, e7, q1s, q4s]
  rw [hpc, hst]
  exact ⟨⟨o7, H6.keep k7 (by simpa using n1) (by simpa using n2)⟩, k06.trans (k7.mono (by simp))⟩
set_option maxHeartbeats 8000000 in
theorem ref_PollNoB (hS : S 13 = []) (hN : Nr S) (hX : MR m b f hb hf wb wf M ws lo ls lf le) {p st : Nat} (hp : p < ls.length) (hpc : M.pc = (p : Int)) (hst : M.steps = (st : Int)) (hs2 : st ≤ 1000000) (hs0 : M.state = 0) {ra rb rc : Nat} (ha : ra < 16) (hb' : rb < 16) (hc : rc < 16) {n : Int} (hn : -9223372036854775808 ≤ n ∧ n ≤ 9223372036854775807) {wish : Int} (hpo : -9223372036854775808 ≤ M.polls + 1 ∧ M.polls + 1 ≤ 9223372036854775807) (z1 : ¬ 0 ≤ wish) (hx : ls[p] = (26, (ra : Int), (rb : Int), (rc : Int), n)) (hR : RightI (26, (ra : Int), (rb : Int), (rc : Int), n) ls.length)  :
    ∃ v m1, callw Tryd.prog TT S 13 [.pointer (some ⟨b, 0, none⟩), .slice lo ls.length ls.length, .pointer (some ⟨hb, 0, none⟩), .int .i64 wish] m = some (v, m1) ∧ (MaAt m1 b f { M with pc := M.pc + 1, steps := M.steps + 1, polls := M.polls + 1 } ∧ RefAt m1 hb hf wb wf (ws) 100) ∧ Keeps m m1 [f, wf] := by
  obtain ⟨hM, hH, hl, hll, hok, hwd, hle, n1, n2, n3'⟩ := hX
  have s0 := hM.load1 (off := 419) (v := .int .i64 M.state) (Ms.scal hok 3)
  rw [hs0] at s0
  have p0 := hM.load1 (off := 416) (v := .int .i64 M.pc) (Ms.scal hok 0)
  rw [hpc] at p0
  obtain ⟨lb, hlo, ol⟩ := hl.rdo (by omega)
  have ld : loadRow m ⟨lb, p * 5, none⟩ 5 = some (icl (26, (ra : Int), (rb : Int), (rc : Int), n)) := by rw [ol.load 5 (by rw [icv_len]; omega), icv_win hp, hx]
  obtain ⟨_, mR, cR, ⟨bR, rfl, hbR⟩, kR⟩ := ins_run (m := m) hN (26, (ra : Int), (rb : Int), (rc : Int), n) (size := ls.length) (by omega)
  have hbt := hbR.2 hR
  subst hbt
  have MR := hM.keep kR (by simp)
  have p1 := MR.load1 (off := 416) (v := .int .i64 M.pc) (Ms.scal hok 0)
  rw [hpc] at p1
  have olR := ol.keep kR (by simp)
  have ld1 : loadRow mR ⟨lb, p * 5, none⟩ 5 = some (icl (26, (ra : Int), (rb : Int), (rc : Int), n)) := by rw [olR.load 5 (by rw [icv_len]; omega), icv_win hp, hx]
  have pp : (p : Int) < ls.length := by omega
  have ep : (p : Int) ≤ 9223372036854775807 := by omega
  have np : ¬ (p : Int) < 0 := by omega
  have nl : ¬ (ls.length : Int) ≤ p := by omega
  have hfm := hM.flt
  have hfR := MR.flt
  obtain ⟨o3, k3, n3⟩ := new_own (m := mR) (cs := [.int .i64 0, .int .i64 0, .int .i64 0, .int .i64 0, .int .i64 0]) (e := 52) rfl
  obtain ⟨m4, e4, o4, k4⟩ := store_own (r := _) rfl o3 (off := 0) (vs := icl (26, (ra : Int), (rb : Int), (rc : Int), n)) (by simp) (by simp [one_int])
  simp [over] at o4
  have k34 := k3.fresh k4 (by simp)
  have M4 := MR.keep k34 (by simp)
  have p4 := M4.load1 (off := 416) (v := .int .i64 M.pc) (Ms.scal hok 0)
  rw [hpc] at p4
  have wp : IntKind.i64.wrap ((p : Int) + 1) = (p : Int) + 1 := wrap_i64 (by omega) (by omega)
  have wst : IntKind.i64.wrap ((st : Int) + 1) = (st : Int) + 1 := wrap_i64 (by omega) (by omega)
  obtain ⟨m5, e5, o5, k5⟩ := store_own (r := _) rfl M4 (off := 416) (vs := [.int .i64 ((p : Int) + 1)]) (by rw [Ms.len hok]; simp) (by simp [one_int])
  rw [Ms.opc hok] at o5
  have hok5 := Ms.ok_pc hok ((p : Int) + 1)
  have s5 := o5.load1 (off := 417) (v := .int .i64 M.steps) (Ms.scal hok5 1)
  rw [hst] at s5
  obtain ⟨m6, e6, o6, k6⟩ := store_own (r := _) rfl o5 (off := 417) (vs := [.int .i64 ((st : Int) + 1)]) (by rw [Ms.len hok5]; simp) (by simp [one_int])
  rw [Ms.osteps hok5] at o6
  have hok6 := Ms.ok_steps hok5 ((st : Int) + 1)
  have k56 := k5.trans k6
  have x6 := o4.keep k56 (by simp; omega)
  have q0 := x6.load1 (off := 0) rfl
  have q1 := x6.load1 (off := 1) rfl
  have q2 := x6.load1 (off := 2) rfl
  have q3 := x6.load1 (off := 3) rfl
  have q4 := x6.load1 (off := 4) rfl
  have la := o6.load1 (off := ra) (Ms.reg hok6 ha)
  have lb' := o6.load1 (off := rb) (Ms.reg hok6 hb')
  have lc := o6.load1 (off := rc) (Ms.reg hok6 hc)
  generalize hva : M.R.getD ra 0 = va at *
  generalize hvb : M.R.getD rb 0 = vb at *
  generalize hvc : M.R.getD rc 0 = vc at *
  have ea : (ra : Int) ≤ 9223372036854775807 := by omega
  have eb : (rb : Int) ≤ 9223372036854775807 := by omega
  have ec : (rc : Int) ≤ 9223372036854775807 := by omega
  have H6 := ((hH.keep kR (by simp) (by simp)).keep k34 (by simp) (by simp)).keep k56 (by simpa using n1) (by simpa using n2)
  have k06 := ((kR.trans k34).nil (fs := [f, wf])).trans (k56.mono (by simp))
  have lp := o6.load1 (off := 418) (v := .int .i64 M.polls) (Ms.scal hok6 2)
  have wpo : IntKind.i64.wrap (M.polls + 1) = M.polls + 1 := wrap_i64 hpo.1 hpo.2
  obtain ⟨m7, e7, o7, k7⟩ := store_own (r := _) rfl o6 (off := 418) (vs := [.int .i64 (M.polls + 1)]) (by rw [Ms.len hok6]; simp; try omega) (by simp [one_int])
  rw [Ms.opolls hok6] at o7
  have q1s := (x6.keep k7 (by simp; omega)).load1 (off := 1) rfl
  have q4s := (x6.keep k7 (by simp; omega)).load1 (off := 4) rfl
  refine fn_w 71 [95, 105, 118, 132, 146, 162, 178, 197, 220, 240, 264, 271, 279, 285, 293, 302, 313, 329, 339, 339] k13 hS rfl ?_
  simp [-Int.natCast_add, -BitVec.toNat_or, -BitVec.toNat_ofInt, -BitVec.toNat_and, fieldAddr_of fa37_5, load_of ld3, fieldAddr_of fa37_2, len_slice u22, index_slice u22 sz52, load_agg ld52, store_of sz3, alloc_of zo52, store_of sz52, fieldAddr_of fa37_0, fieldAddr_of fa37_3, fieldAddr_of fa52_0, fieldAddr_of fa52_1, fieldAddr_of fa52_4, load_of ld2, conv_i u2 u33, indexAddr_arr u34 sz33, store_of sz33, fieldAddr_of fa52_2, load_of ld33, fieldAddr_of fa37_1, indexAddr_arr u35 sz33, conv_i u3 u33, fieldAddr_of fa52_3, fieldAddr_of fa37_6, fieldAddr_of fa37_4, hlo, s0, p0, hp, pp, ep, np, nl, ld, cR, p1, ld1, e4, p4, wp, e5, s5, wst, e6, q0, q1, q2, q3, q4, la, lb', lc, ha, hb', hc, ea, eb, ec, lp, wpo, z1, e7, q1s, q4s]
  rw [hpc, hst]
  exact ⟨⟨o7, H6.keep k7 (by simpa using n1) (by simpa using n2)⟩, k06.trans (k7.mono (by simp))⟩
end Go.Proofs.YtkcehgajpalgnaaDoor.base

