/-
  This text proves what the program's does does to a machine, over the abstract run.
  Condition: nothing is known of their calls ahead ('S f = []').
-/
import Derived.Test.YtkcehgajpalgnaaDoorMacS
set_option maxRecDepth 100000
set_option linter.unusedSimpArgs false
set_option linter.unusedVariables false
namespace Go.Proofs.YtkcehgajpalgnaaDoor.base
open Go.Sh gen
variable {S : Sums} {m : Mem}
structure MH (m : Mem) (b f hb hf wb wf : Nat) (M : Ms) (ws : List Int) : Prop where
  hM : MaAt m b f M
  hH : HeapAt m hb hf wb wf ws 100
  ok : M.ok
  wd : Wd ws
  le : ws.length ≤ 1000000
  n1 : ¬ hf = f
  n2 : ¬ wf = f
set_option maxHeartbeats 4000000 in
theorem left_run {b f : Nat} {M : Ms} {n : Int} (hL : S 49 = []) (hM : MaAt m b f M) (hok : M.ok) (hn : -9223372036854775808 ≤ n ∧ n ≤ 9223372036854775807) :
    ∃ m1, callw Tryd.prog TT S 49 [.pointer (some ⟨b, 0, none⟩), .int .i64 n] m = some (.tuple #[], m1) ∧ MaAt m1 b f { M with state := 1, exit := n } ∧ Keeps m m1 [f] := by
  suffices h : ∃ v m1, callw Tryd.prog TT S 49 [.pointer (some ⟨b, 0, none⟩), .int .i64 n] m = some (v, m1) ∧ v = .tuple #[] ∧ MaAt m1 b f { M with state := 1, exit := n } ∧ Keeps m m1 [f] by
    obtain ⟨_, m1, h1, rfl, h2⟩ := h
    exact ⟨m1, h1, h2⟩
  have wn : IntKind.i64.wrap n = n := wrap_i64 hn.1 hn.2
  obtain ⟨m5, e5, o5, k5⟩ := store_own (r := _) rfl hM (off := 419) (vs := [.int .i64 1]) (by rw [Ms.len hok]; simp) (by simp [one_int])
  rw [Ms.ostate hok] at o5
  obtain ⟨m6, e6, o6, k6⟩ := store_own (r := _) rfl o5 (off := 420) (vs := [.int .i64 n]) (by rw [Ms.len (Ms.ok_state hok 1)]; simp) (by simp [one_int])
  rw [Ms.oexit (Ms.ok_state hok 1)] at o6
  refine fn_w 2 [] k49 hL rfl ?_
  simp [-Int.natCast_add, -BitVec.toNat_or, -BitVec.toNat_ofInt, -BitVec.toNat_and, fieldAddr_of fa37_5, store_of sz3, fieldAddr_of fa37_6, wn, e5, e6]
  exact ⟨o6, k5.trans k6⟩
variable {b f hb hf wb wf : Nat} {M : Ms} {ws : List Int}
set_option maxHeartbeats 8000000 in
theorem does_Set (hS : S 33 = []) (hX : MH m b f hb hf wb wf M ws) {ra rb rc : Nat} (ha : ra < 16) (hb' : rb < 16) (hc : rc < 16) (n : Int) (wish : Int) :
    ∃ v m1, callw Tryd.prog TT S 33 [.pointer (some ⟨b, 0, none⟩), .agg (icl (1, (ra : Int), (rb : Int), (rc : Int), n)).toArray, .pointer (some ⟨hb, 0, none⟩), .int .i64 wish] m = some (v, m1) ∧ (MaAt m1 b f { M with R := M.R.set ra (IntKind.u64.wrap n) } ∧ HeapAt m1 hb hf wb wf (ws) 100) ∧ Keeps m m1 [f, wf] := by
  obtain ⟨hM, hH, hok, hwd, hle, n1, n2⟩ := hX
  obtain ⟨o3, k3, n3⟩ := new_own (m := m) (cs := icl (1, (ra : Int), (rb : Int), (rc : Int), n)) (e := 52) rfl
  have q0 := o3.load1 (off := 0) rfl
  have q1 := o3.load1 (off := 1) rfl
  have q2 := o3.load1 (off := 2) rfl
  have q3 := o3.load1 (off := 3) rfl
  have q4 := o3.load1 (off := 4) rfl
  have M3 := hM.keep k3 (by simp)
  have H3 := hH.keep k3 (by simp) (by simp)
  have hf1 := hM.flt
  have hf2 := hH.w.flt
  have wa := hok.wr.at_ ra
  have wb' := hok.wr.at_ rb
  have wc := hok.wr.at_ rc
  have la := M3.load1 (off := ra) (Ms.reg hok ha)
  have lb := M3.load1 (off := rb) (Ms.reg hok hb')
  have lc := M3.load1 (off := rc) (Ms.reg hok hc)
  generalize hva : M.R.getD ra 0 = va at *
  generalize hvb : M.R.getD rb 0 = vb at *
  generalize hvc : M.R.getD rc 0 = vc at *
  have ea : (ra : Int) ≤ 9223372036854775807 := by omega
  have eb : (rb : Int) ≤ 9223372036854775807 := by omega
  have ec : (rc : Int) ≤ 9223372036854775807 := by omega
  obtain ⟨m5, e5, o5, k5⟩ := store_own (r := _) rfl M3 (off := ra) (vs := [.int .u64 (IntKind.u64.wrap n)]) (by rw [Ms.len hok]; simp; try omega) (by simp [one_int])
  rw [Ms.oreg hok ha] at o5
  have q1s := (o3.keep k5 (by simp; omega)).load1 (off := 1) rfl
  have q4s := (o3.keep k5 (by simp; omega)).load1 (off := 4) rfl
  refine fn_w 38 [50, 59, 68, 83, 92, 92, 106, 118, 130, 143, 157, 165, 174, 181, 184, 190, 193, 198, 209, 221] k33 hS rfl ?_
  simp [-Int.natCast_add, -BitVec.toNat_or, -BitVec.toNat_ofInt, -BitVec.toNat_and, box_of b52, fieldAddr_of fa52_1, load_of ld3, fieldAddr_of fa37_0, indexAddr_arr u34 sz33, load_of ld33, fieldAddr_of fa52_2, fieldAddr_of fa52_3, fieldAddr_of fa52_4, load_of ld2, conv_i u2 u33, fieldAddr_of fa52_0, store_of sz33, fieldAddr_of fa37_1, indexAddr_arr u35 sz33, conv_i u3 u33, fieldAddr_of fa37_2, store_of sz3, fieldAddr_of fa37_4, q0, q1, q2, q3, q4, la, lb, lc, ha, hb', hc, ea, eb, ec, e5, q1s, q4s]
  exact ⟨⟨o5, H3.keep k5 (by simpa using n1) (by simpa using n2)⟩, k3.nil.trans (k5.mono (by simp))⟩
set_option maxHeartbeats 8000000 in
theorem does_Mov (hS : S 33 = []) (hX : MH m b f hb hf wb wf M ws) {ra rb rc : Nat} (ha : ra < 16) (hb' : rb < 16) (hc : rc < 16) (n : Int) (wish : Int) :
    ∃ v m1, callw Tryd.prog TT S 33 [.pointer (some ⟨b, 0, none⟩), .agg (icl (2, (ra : Int), (rb : Int), (rc : Int), n)).toArray, .pointer (some ⟨hb, 0, none⟩), .int .i64 wish] m = some (v, m1) ∧ (MaAt m1 b f { M with R := M.R.set ra (M.R.getD rb 0) } ∧ HeapAt m1 hb hf wb wf (ws) 100) ∧ Keeps m m1 [f, wf] := by
  obtain ⟨hM, hH, hok, hwd, hle, n1, n2⟩ := hX
  obtain ⟨o3, k3, n3⟩ := new_own (m := m) (cs := icl (2, (ra : Int), (rb : Int), (rc : Int), n)) (e := 52) rfl
  have q0 := o3.load1 (off := 0) rfl
  have q1 := o3.load1 (off := 1) rfl
  have q2 := o3.load1 (off := 2) rfl
  have q3 := o3.load1 (off := 3) rfl
  have q4 := o3.load1 (off := 4) rfl
  have M3 := hM.keep k3 (by simp)
  have H3 := hH.keep k3 (by simp) (by simp)
  have hf1 := hM.flt
  have hf2 := hH.w.flt
  have wa := hok.wr.at_ ra
  have wb' := hok.wr.at_ rb
  have wc := hok.wr.at_ rc
  have la := M3.load1 (off := ra) (Ms.reg hok ha)
  have lb := M3.load1 (off := rb) (Ms.reg hok hb')
  have lc := M3.load1 (off := rc) (Ms.reg hok hc)
  generalize hva : M.R.getD ra 0 = va at *
  generalize hvb : M.R.getD rb 0 = vb at *
  generalize hvc : M.R.getD rc 0 = vc at *
  have ea : (ra : Int) ≤ 9223372036854775807 := by omega
  have eb : (rb : Int) ≤ 9223372036854775807 := by omega
  have ec : (rc : Int) ≤ 9223372036854775807 := by omega
  try rw [hvb]
  obtain ⟨m5, e5, o5, k5⟩ := store_own (r := _) rfl M3 (off := ra) (vs := [.int .u64 (vb)]) (by rw [Ms.len hok]; simp; try omega) (by simp [one_int])
  rw [Ms.oreg hok ha] at o5
  have q1s := (o3.keep k5 (by simp; omega)).load1 (off := 1) rfl
  have q4s := (o3.keep k5 (by simp; omega)).load1 (off := 4) rfl
  refine fn_w 38 [50, 59, 68, 83, 92, 92, 106, 118, 130, 143, 157, 165, 174, 181, 184, 190, 193, 198, 209, 221] k33 hS rfl ?_
  simp [-Int.natCast_add, -BitVec.toNat_or, -BitVec.toNat_ofInt, -BitVec.toNat_and, box_of b52, fieldAddr_of fa52_1, load_of ld3, fieldAddr_of fa37_0, indexAddr_arr u34 sz33, load_of ld33, fieldAddr_of fa52_2, fieldAddr_of fa52_3, fieldAddr_of fa52_4, load_of ld2, conv_i u2 u33, fieldAddr_of fa52_0, store_of sz33, fieldAddr_of fa37_1, indexAddr_arr u35 sz33, conv_i u3 u33, fieldAddr_of fa37_2, store_of sz3, fieldAddr_of fa37_4, q0, q1, q2, q3, q4, la, lb, lc, ha, hb', hc, ea, eb, ec, e5, q1s, q4s]
  exact ⟨⟨o5, H3.keep k5 (by simpa using n1) (by simpa using n2)⟩, k3.nil.trans (k5.mono (by simp))⟩
set_option maxHeartbeats 8000000 in
theorem does_Get (hS : S 33 = []) (hX : MH m b f hb hf wb wf M ws) {ra rb rc : Nat} (ha : ra < 16) (hb' : rb < 16) (hc : rc < 16) {n : Nat} (hn : n < 400) (wish : Int) :
    ∃ v m1, callw Tryd.prog TT S 33 [.pointer (some ⟨b, 0, none⟩), .agg (icl (3, (ra : Int), (rb : Int), (rc : Int), (n : Int))).toArray, .pointer (some ⟨hb, 0, none⟩), .int .i64 wish] m = some (v, m1) ∧ (MaAt m1 b f { M with R := M.R.set ra (M.T.getD n 0) } ∧ HeapAt m1 hb hf wb wf (ws) 100) ∧ Keeps m m1 [f, wf] := by
  obtain ⟨hM, hH, hok, hwd, hle, n1, n2⟩ := hX
  obtain ⟨o3, k3, n3⟩ := new_own (m := m) (cs := icl (3, (ra : Int), (rb : Int), (rc : Int), (n : Int))) (e := 52) rfl
  have q0 := o3.load1 (off := 0) rfl
  have q1 := o3.load1 (off := 1) rfl
  have q2 := o3.load1 (off := 2) rfl
  have q3 := o3.load1 (off := 3) rfl
  have q4 := o3.load1 (off := 4) rfl
  have M3 := hM.keep k3 (by simp)
  have H3 := hH.keep k3 (by simp) (by simp)
  have hf1 := hM.flt
  have hf2 := hH.w.flt
  have wa := hok.wr.at_ ra
  have wb' := hok.wr.at_ rb
  have wc := hok.wr.at_ rc
  have la := M3.load1 (off := ra) (Ms.reg hok ha)
  have lb := M3.load1 (off := rb) (Ms.reg hok hb')
  have lc := M3.load1 (off := rc) (Ms.reg hok hc)
  generalize hva : M.R.getD ra 0 = va at *
  generalize hvb : M.R.getD rb 0 = vb at *
  generalize hvc : M.R.getD rc 0 = vc at *
  have ea : (ra : Int) ≤ 9223372036854775807 := by omega
  have eb : (rb : Int) ≤ 9223372036854775807 := by omega
  have ec : (rc : Int) ≤ 9223372036854775807 := by omega
  have ls := M3.load1 (off := 16 + n) (Ms.slot hok hn)
  have en : (n : Int) ≤ 9223372036854775807 := by omega
  generalize hvt : M.T.getD n 0 = vt at *
  obtain ⟨m5, e5, o5, k5⟩ := store_own (r := _) rfl M3 (off := ra) (vs := [.int .u64 (vt)]) (by rw [Ms.len hok]; simp; try omega) (by simp [one_int])
  rw [Ms.oreg hok ha] at o5
  have q1s := (o3.keep k5 (by simp; omega)).load1 (off := 1) rfl
  have q4s := (o3.keep k5 (by simp; omega)).load1 (off := 4) rfl
  have lss := M3
  refine fn_w 38 [50, 59, 68, 83, 92, 92, 106, 118, 130, 143, 157, 165, 174, 181, 184, 190, 193, 198, 209, 221] k33 hS rfl ?_
  simp [-Int.natCast_add, -BitVec.toNat_or, -BitVec.toNat_ofInt, -BitVec.toNat_and, box_of b52, fieldAddr_of fa52_1, load_of ld3, fieldAddr_of fa37_0, indexAddr_arr u34 sz33, load_of ld33, fieldAddr_of fa52_2, fieldAddr_of fa52_3, fieldAddr_of fa52_4, load_of ld2, conv_i u2 u33, fieldAddr_of fa52_0, store_of sz33, fieldAddr_of fa37_1, indexAddr_arr u35 sz33, conv_i u3 u33, fieldAddr_of fa37_2, store_of sz3, fieldAddr_of fa37_4, q0, q1, q2, q3, q4, la, lb, lc, ha, hb', hc, ea, eb, ec, ls, hn, en, e5, q1s, q4s]
  exact ⟨⟨o5, H3.keep k5 (by simpa using n1) (by simpa using n2)⟩, k3.nil.trans (k5.mono (by simp))⟩
set_option maxHeartbeats 8000000 in
theorem does_Keep (hS : S 33 = []) (hX : MH m b f hb hf wb wf M ws) {ra rb rc : Nat} (ha : ra < 16) (hb' : rb < 16) (hc : rc < 16) {n : Nat} (hn : n < 400) (wish : Int) :
    ∃ v m1, callw Tryd.prog TT S 33 [.pointer (some ⟨b, 0, none⟩), .agg (icl (4, (ra : Int), (rb : Int), (rc : Int), (n : Int))).toArray, .pointer (some ⟨hb, 0, none⟩), .int .i64 wish] m = some (v, m1) ∧ (MaAt m1 b f { M with T := M.T.set n (M.R.getD ra 0) } ∧ HeapAt m1 hb hf wb wf (ws) 100) ∧ Keeps m m1 [f, wf] := by
  obtain ⟨hM, hH, hok, hwd, hle, n1, n2⟩ := hX
  obtain ⟨o3, k3, n3⟩ := new_own (m := m) (cs := icl (4, (ra : Int), (rb : Int), (rc : Int), (n : Int))) (e := 52) rfl
  have q0 := o3.load1 (off := 0) rfl
  have q1 := o3.load1 (off := 1) rfl
  have q2 := o3.load1 (off := 2) rfl
  have q3 := o3.load1 (off := 3) rfl
  have q4 := o3.load1 (off := 4) rfl
  have M3 := hM.keep k3 (by simp)
  have H3 := hH.keep k3 (by simp) (by simp)
  have hf1 := hM.flt
  have hf2 := hH.w.flt
  have wa := hok.wr.at_ ra
  have wb' := hok.wr.at_ rb
  have wc := hok.wr.at_ rc
  have la := M3.load1 (off := ra) (Ms.reg hok ha)
  have lb := M3.load1 (off := rb) (Ms.reg hok hb')
  have lc := M3.load1 (off := rc) (Ms.reg hok hc)
  generalize hva : M.R.getD ra 0 = va at *
  generalize hvb : M.R.getD rb 0 = vb at *
  generalize hvc : M.R.getD rc 0 = vc at *
  have ea : (ra : Int) ≤ 9223372036854775807 := by omega
  have eb : (rb : Int) ≤ 9223372036854775807 := by omega
  have ec : (rc : Int) ≤ 9223372036854775807 := by omega
  try rw [hva]
  have en : (n : Int) ≤ 9223372036854775807 := by omega
  obtain ⟨m5, e5, o5, k5⟩ := store_own (r := _) rfl M3 (off := 16 + n) (vs := [.int .u64 va]) (by rw [Ms.len hok]; simp; try omega) (by simp [one_int])
  rw [Ms.oslot hok hn] at o5
  have q1s := (o3.keep k5 (by simp; omega)).load1 (off := 1) rfl
  have q4s := (o3.keep k5 (by simp; omega)).load1 (off := 4) rfl
  refine fn_w 38 [50, 59, 68, 83, 92, 92, 106, 118, 130, 143, 157, 165, 174, 181, 184, 190, 193, 198, 209, 221] k33 hS rfl ?_
  simp [-Int.natCast_add, -BitVec.toNat_or, -BitVec.toNat_ofInt, -BitVec.toNat_and, box_of b52, fieldAddr_of fa52_1, load_of ld3, fieldAddr_of fa37_0, indexAddr_arr u34 sz33, load_of ld33, fieldAddr_of fa52_2, fieldAddr_of fa52_3, fieldAddr_of fa52_4, load_of ld2, conv_i u2 u33, fieldAddr_of fa52_0, store_of sz33, fieldAddr_of fa37_1, indexAddr_arr u35 sz33, conv_i u3 u33, fieldAddr_of fa37_2, store_of sz3, fieldAddr_of fa37_4, q0, q1, q2, q3, q4, la, lb, lc, ha, hb', hc, ea, eb, ec, hn, en, e5, q1s, q4s]
  exact ⟨⟨o5, H3.keep k5 (by simpa using n1) (by simpa using n2)⟩, k3.nil.trans (k5.mono (by simp))⟩
set_option maxHeartbeats 8000000 in
theorem does_Add (hS : S 33 = []) (hX : MH m b f hb hf wb wf M ws) {ra rb rc : Nat} (ha : ra < 16) (hb' : rb < 16) (hc : rc < 16) (n : Int) {r : Int} (hop : S 45 = []) (hr : ∀ m : Mem, callw Tryd.prog TT S 44 [.int .i64 3, .int .u64 (M.R.getD rb 0), .int .u64 (M.R.getD rc 0)] m = some (.int .u64 r, m)) (wish : Int) :
    ∃ v m1, callw Tryd.prog TT S 33 [.pointer (some ⟨b, 0, none⟩), .agg (icl (5, (ra : Int), (rb : Int), (rc : Int), n)).toArray, .pointer (some ⟨hb, 0, none⟩), .int .i64 wish] m = some (v, m1) ∧ (MaAt m1 b f { M with R := M.R.set ra (r) } ∧ HeapAt m1 hb hf wb wf (ws) 100) ∧ Keeps m m1 [f, wf] := by
  obtain ⟨hM, hH, hok, hwd, hle, n1, n2⟩ := hX
  obtain ⟨o3, k3, n3⟩ := new_own (m := m) (cs := icl (5, (ra : Int), (rb : Int), (rc : Int), n)) (e := 52) rfl
  have q0 := o3.load1 (off := 0) rfl
  have q1 := o3.load1 (off := 1) rfl
  have q2 := o3.load1 (off := 2) rfl
  have q3 := o3.load1 (off := 3) rfl
  have q4 := o3.load1 (off := 4) rfl
  have M3 := hM.keep k3 (by simp)
  have H3 := hH.keep k3 (by simp) (by simp)
  have hf1 := hM.flt
  have hf2 := hH.w.flt
  have wa := hok.wr.at_ ra
  have wb' := hok.wr.at_ rb
  have wc := hok.wr.at_ rc
  have la := M3.load1 (off := ra) (Ms.reg hok ha)
  have lb := M3.load1 (off := rb) (Ms.reg hok hb')
  have lc := M3.load1 (off := rc) (Ms.reg hok hc)
  generalize hva : M.R.getD ra 0 = va at *
  generalize hvb : M.R.getD rb 0 = vb at *
  generalize hvc : M.R.getD rc 0 = vc at *
  have ea : (ra : Int) ≤ 9223372036854775807 := by omega
  have eb : (rb : Int) ≤ 9223372036854775807 := by omega
  have ec : (rc : Int) ≤ 9223372036854775807 := by omega
  have hopr := fun m' => mop_run (m := m') hop (k := 5) (by omega)
  obtain ⟨m5, e5, o5, k5⟩ := store_own (r := _) rfl M3 (off := ra) (vs := [.int .u64 (r)]) (by rw [Ms.len hok]; simp; try omega) (by simp [one_int])
  rw [Ms.oreg hok ha] at o5
  have q1s := (o3.keep k5 (by simp; omega)).load1 (off := 1) rfl
  have q4s := (o3.keep k5 (by simp; omega)).load1 (off := 4) rfl
  refine fn_w 38 [50, 59, 68, 83, 92, 92, 106, 118, 130, 143, 157, 165, 174, 181, 184, 190, 193, 198, 209, 221] k33 hS rfl ?_
  simp [-Int.natCast_add, -BitVec.toNat_or, -BitVec.toNat_ofInt, -BitVec.toNat_and, box_of b52, fieldAddr_of fa52_1, load_of ld3, fieldAddr_of fa37_0, indexAddr_arr u34 sz33, load_of ld33, fieldAddr_of fa52_2, fieldAddr_of fa52_3, fieldAddr_of fa52_4, load_of ld2, conv_i u2 u33, fieldAddr_of fa52_0, store_of sz33, fieldAddr_of fa37_1, indexAddr_arr u35 sz33, conv_i u3 u33, fieldAddr_of fa37_2, store_of sz3, fieldAddr_of fa37_4, q0, q1, q2, q3, q4, la, lb, lc, ha, hb', hc, ea, eb, ec, hopr, hr, e5, q1s, q4s]
  exact ⟨⟨o5, H3.keep k5 (by simpa using n1) (by simpa using n2)⟩, k3.nil.trans (k5.mono (by simp))⟩
set_option maxHeartbeats 8000000 in
theorem does_Sub (hS : S 33 = []) (hX : MH m b f hb hf wb wf M ws) {ra rb rc : Nat} (ha : ra < 16) (hb' : rb < 16) (hc : rc < 16) (n : Int) {r : Int} (hop : S 45 = []) (hr : ∀ m : Mem, callw Tryd.prog TT S 44 [.int .i64 4, .int .u64 (M.R.getD rb 0), .int .u64 (M.R.getD rc 0)] m = some (.int .u64 r, m)) (wish : Int) :
    ∃ v m1, callw Tryd.prog TT S 33 [.pointer (some ⟨b, 0, none⟩), .agg (icl (6, (ra : Int), (rb : Int), (rc : Int), n)).toArray, .pointer (some ⟨hb, 0, none⟩), .int .i64 wish] m = some (v, m1) ∧ (MaAt m1 b f { M with R := M.R.set ra (r) } ∧ HeapAt m1 hb hf wb wf (ws) 100) ∧ Keeps m m1 [f, wf] := by
  obtain ⟨hM, hH, hok, hwd, hle, n1, n2⟩ := hX
  obtain ⟨o3, k3, n3⟩ := new_own (m := m) (cs := icl (6, (ra : Int), (rb : Int), (rc : Int), n)) (e := 52) rfl
  have q0 := o3.load1 (off := 0) rfl
  have q1 := o3.load1 (off := 1) rfl
  have q2 := o3.load1 (off := 2) rfl
  have q3 := o3.load1 (off := 3) rfl
  have q4 := o3.load1 (off := 4) rfl
  have M3 := hM.keep k3 (by simp)
  have H3 := hH.keep k3 (by simp) (by simp)
  have hf1 := hM.flt
  have hf2 := hH.w.flt
  have wa := hok.wr.at_ ra
  have wb' := hok.wr.at_ rb
  have wc := hok.wr.at_ rc
  have la := M3.load1 (off := ra) (Ms.reg hok ha)
  have lb := M3.load1 (off := rb) (Ms.reg hok hb')
  have lc := M3.load1 (off := rc) (Ms.reg hok hc)
  generalize hva : M.R.getD ra 0 = va at *
  generalize hvb : M.R.getD rb 0 = vb at *
  generalize hvc : M.R.getD rc 0 = vc at *
  have ea : (ra : Int) ≤ 9223372036854775807 := by omega
  have eb : (rb : Int) ≤ 9223372036854775807 := by omega
  have ec : (rc : Int) ≤ 9223372036854775807 := by omega
  have hopr := fun m' => mop_run (m := m') hop (k := 6) (by omega)
  obtain ⟨m5, e5, o5, k5⟩ := store_own (r := _) rfl M3 (off := ra) (vs := [.int .u64 (r)]) (by rw [Ms.len hok]; simp; try omega) (by simp [one_int])
  rw [Ms.oreg hok ha] at o5
  have q1s := (o3.keep k5 (by simp; omega)).load1 (off := 1) rfl
  have q4s := (o3.keep k5 (by simp; omega)).load1 (off := 4) rfl
  refine fn_w 38 [50, 59, 68, 83, 92, 92, 106, 118, 130, 143, 157, 165, 174, 181, 184, 190, 193, 198, 209, 221] k33 hS rfl ?_
  simp [-Int.natCast_add, -BitVec.toNat_or, -BitVec.toNat_ofInt, -BitVec.toNat_and, box_of b52, fieldAddr_of fa52_1, load_of ld3, fieldAddr_of fa37_0, indexAddr_arr u34 sz33, load_of ld33, fieldAddr_of fa52_2, fieldAddr_of fa52_3, fieldAddr_of fa52_4, load_of ld2, conv_i u2 u33, fieldAddr_of fa52_0, store_of sz33, fieldAddr_of fa37_1, indexAddr_arr u35 sz33, conv_i u3 u33, fieldAddr_of fa37_2, store_of sz3, fieldAddr_of fa37_4, q0, q1, q2, q3, q4, la, lb, lc, ha, hb', hc, ea, eb, ec, hopr, hr, e5, q1s, q4s]
  exact ⟨⟨o5, H3.keep k5 (by simpa using n1) (by simpa using n2)⟩, k3.nil.trans (k5.mono (by simp))⟩
set_option maxHeartbeats 8000000 in
theorem does_Mul (hS : S 33 = []) (hX : MH m b f hb hf wb wf M ws) {ra rb rc : Nat} (ha : ra < 16) (hb' : rb < 16) (hc : rc < 16) (n : Int) {r : Int} (hop : S 45 = []) (hr : ∀ m : Mem, callw Tryd.prog TT S 44 [.int .i64 5, .int .u64 (M.R.getD rb 0), .int .u64 (M.R.getD rc 0)] m = some (.int .u64 r, m)) (wish : Int) :
    ∃ v m1, callw Tryd.prog TT S 33 [.pointer (some ⟨b, 0, none⟩), .agg (icl (7, (ra : Int), (rb : Int), (rc : Int), n)).toArray, .pointer (some ⟨hb, 0, none⟩), .int .i64 wish] m = some (v, m1) ∧ (MaAt m1 b f { M with R := M.R.set ra (r) } ∧ HeapAt m1 hb hf wb wf (ws) 100) ∧ Keeps m m1 [f, wf] := by
  obtain ⟨hM, hH, hok, hwd, hle, n1, n2⟩ := hX
  obtain ⟨o3, k3, n3⟩ := new_own (m := m) (cs := icl (7, (ra : Int), (rb : Int), (rc : Int), n)) (e := 52) rfl
  have q0 := o3.load1 (off := 0) rfl
  have q1 := o3.load1 (off := 1) rfl
  have q2 := o3.load1 (off := 2) rfl
  have q3 := o3.load1 (off := 3) rfl
  have q4 := o3.load1 (off := 4) rfl
  have M3 := hM.keep k3 (by simp)
  have H3 := hH.keep k3 (by simp) (by simp)
  have hf1 := hM.flt
  have hf2 := hH.w.flt
  have wa := hok.wr.at_ ra
  have wb' := hok.wr.at_ rb
  have wc := hok.wr.at_ rc
  have la := M3.load1 (off := ra) (Ms.reg hok ha)
  have lb := M3.load1 (off := rb) (Ms.reg hok hb')
  have lc := M3.load1 (off := rc) (Ms.reg hok hc)
  generalize hva : M.R.getD ra 0 = va at *
  generalize hvb : M.R.getD rb 0 = vb at *
  generalize hvc : M.R.getD rc 0 = vc at *
  have ea : (ra : Int) ≤ 9223372036854775807 := by omega
  have eb : (rb : Int) ≤ 9223372036854775807 := by omega
  have ec : (rc : Int) ≤ 9223372036854775807 := by omega
  have hopr := fun m' => mop_run (m := m') hop (k := 7) (by omega)
  obtain ⟨m5, e5, o5, k5⟩ := store_own (r := _) rfl M3 (off := ra) (vs := [.int .u64 (r)]) (by rw [Ms.len hok]; simp; try omega) (by simp [one_int])
  rw [Ms.oreg hok ha] at o5
  have q1s := (o3.keep k5 (by simp; omega)).load1 (off := 1) rfl
  have q4s := (o3.keep k5 (by simp; omega)).load1 (off := 4) rfl
  refine fn_w 38 [50, 59, 68, 83, 92, 92, 106, 118, 130, 143, 157, 165, 174, 181, 184, 190, 193, 198, 209, 221] k33 hS rfl ?_
  simp [-Int.natCast_add, -BitVec.toNat_or, -BitVec.toNat_ofInt, -BitVec.toNat_and, box_of b52, fieldAddr_of fa52_1, load_of ld3, fieldAddr_of fa37_0, indexAddr_arr u34 sz33, load_of ld33, fieldAddr_of fa52_2, fieldAddr_of fa52_3, fieldAddr_of fa52_4, load_of ld2, conv_i u2 u33, fieldAddr_of fa52_0, store_of sz33, fieldAddr_of fa37_1, indexAddr_arr u35 sz33, conv_i u3 u33, fieldAddr_of fa37_2, store_of sz3, fieldAddr_of fa37_4, q0, q1, q2, q3, q4, la, lb, lc, ha, hb', hc, ea, eb, ec, hopr, hr, e5, q1s, q4s]
  exact ⟨⟨o5, H3.keep k5 (by simpa using n1) (by simpa using n2)⟩, k3.nil.trans (k5.mono (by simp))⟩
set_option maxHeartbeats 8000000 in
theorem does_Div (hS : S 33 = []) (hX : MH m b f hb hf wb wf M ws) {ra rb rc : Nat} (ha : ra < 16) (hb' : rb < 16) (hc : rc < 16) (n : Int) {r : Int} (hop : S 45 = []) (hr : ∀ m : Mem, callw Tryd.prog TT S 44 [.int .i64 6, .int .u64 (M.R.getD rb 0), .int .u64 (M.R.getD rc 0)] m = some (.int .u64 r, m)) (wish : Int) :
    ∃ v m1, callw Tryd.prog TT S 33 [.pointer (some ⟨b, 0, none⟩), .agg (icl (8, (ra : Int), (rb : Int), (rc : Int), n)).toArray, .pointer (some ⟨hb, 0, none⟩), .int .i64 wish] m = some (v, m1) ∧ (MaAt m1 b f { M with R := M.R.set ra (r) } ∧ HeapAt m1 hb hf wb wf (ws) 100) ∧ Keeps m m1 [f, wf] := by
  obtain ⟨hM, hH, hok, hwd, hle, n1, n2⟩ := hX
  obtain ⟨o3, k3, n3⟩ := new_own (m := m) (cs := icl (8, (ra : Int), (rb : Int), (rc : Int), n)) (e := 52) rfl
  have q0 := o3.load1 (off := 0) rfl
  have q1 := o3.load1 (off := 1) rfl
  have q2 := o3.load1 (off := 2) rfl
  have q3 := o3.load1 (off := 3) rfl
  have q4 := o3.load1 (off := 4) rfl
  have M3 := hM.keep k3 (by simp)
  have H3 := hH.keep k3 (by simp) (by simp)
  have hf1 := hM.flt
  have hf2 := hH.w.flt
  have wa := hok.wr.at_ ra
  have wb' := hok.wr.at_ rb
  have wc := hok.wr.at_ rc
  have la := M3.load1 (off := ra) (Ms.reg hok ha)
  have lb := M3.load1 (off := rb) (Ms.reg hok hb')
  have lc := M3.load1 (off := rc) (Ms.reg hok hc)
  generalize hva : M.R.getD ra 0 = va at *
  generalize hvb : M.R.getD rb 0 = vb at *
  generalize hvc : M.R.getD rc 0 = vc at *
  have ea : (ra : Int) ≤ 9223372036854775807 := by omega
  have eb : (rb : Int) ≤ 9223372036854775807 := by omega
  have ec : (rc : Int) ≤ 9223372036854775807 := by omega
  have hopr := fun m' => mop_run (m := m') hop (k := 8) (by omega)
  obtain ⟨m5, e5, o5, k5⟩ := store_own (r := _) rfl M3 (off := ra) (vs := [.int .u64 (r)]) (by rw [Ms.len hok]; simp; try omega) (by simp [one_int])
  rw [Ms.oreg hok ha] at o5
  have q1s := (o3.keep k5 (by simp; omega)).load1 (off := 1) rfl
  have q4s := (o3.keep k5 (by simp; omega)).load1 (off := 4) rfl
  refine fn_w 38 [50, 59, 68, 83, 92, 92, 106, 118, 130, 143, 157, 165, 174, 181, 184, 190, 193, 198, 209, 221] k33 hS rfl ?_
  simp [-Int.natCast_add, -BitVec.toNat_or, -BitVec.toNat_ofInt, -BitVec.toNat_and, box_of b52, fieldAddr_of fa52_1, load_of ld3, fieldAddr_of fa37_0, indexAddr_arr u34 sz33, load_of ld33, fieldAddr_of fa52_2, fieldAddr_of fa52_3, fieldAddr_of fa52_4, load_of ld2, conv_i u2 u33, fieldAddr_of fa52_0, store_of sz33, fieldAddr_of fa37_1, indexAddr_arr u35 sz33, conv_i u3 u33, fieldAddr_of fa37_2, store_of sz3, fieldAddr_of fa37_4, q0, q1, q2, q3, q4, la, lb, lc, ha, hb', hc, ea, eb, ec, hopr, hr, e5, q1s, q4s]
  exact ⟨⟨o5, H3.keep k5 (by simpa using n1) (by simpa using n2)⟩, k3.nil.trans (k5.mono (by simp))⟩
set_option maxHeartbeats 8000000 in
theorem does_Rem (hS : S 33 = []) (hX : MH m b f hb hf wb wf M ws) {ra rb rc : Nat} (ha : ra < 16) (hb' : rb < 16) (hc : rc < 16) (n : Int) {r : Int} (hop : S 45 = []) (hr : ∀ m : Mem, callw Tryd.prog TT S 44 [.int .i64 7, .int .u64 (M.R.getD rb 0), .int .u64 (M.R.getD rc 0)] m = some (.int .u64 r, m)) (wish : Int) :
    ∃ v m1, callw Tryd.prog TT S 33 [.pointer (some ⟨b, 0, none⟩), .agg (icl (9, (ra : Int), (rb : Int), (rc : Int), n)).toArray, .pointer (some ⟨hb, 0, none⟩), .int .i64 wish] m = some (v, m1) ∧ (MaAt m1 b f { M with R := M.R.set ra (r) } ∧ HeapAt m1 hb hf wb wf (ws) 100) ∧ Keeps m m1 [f, wf] := by
  obtain ⟨hM, hH, hok, hwd, hle, n1, n2⟩ := hX
  obtain ⟨o3, k3, n3⟩ := new_own (m := m) (cs := icl (9, (ra : Int), (rb : Int), (rc : Int), n)) (e := 52) rfl
  have q0 := o3.load1 (off := 0) rfl
  have q1 := o3.load1 (off := 1) rfl
  have q2 := o3.load1 (off := 2) rfl
  have q3 := o3.load1 (off := 3) rfl
  have q4 := o3.load1 (off := 4) rfl
  have M3 := hM.keep k3 (by simp)
  have H3 := hH.keep k3 (by simp) (by simp)
  have hf1 := hM.flt
  have hf2 := hH.w.flt
  have wa := hok.wr.at_ ra
  have wb' := hok.wr.at_ rb
  have wc := hok.wr.at_ rc
  have la := M3.load1 (off := ra) (Ms.reg hok ha)
  have lb := M3.load1 (off := rb) (Ms.reg hok hb')
  have lc := M3.load1 (off := rc) (Ms.reg hok hc)
  generalize hva : M.R.getD ra 0 = va at *
  generalize hvb : M.R.getD rb 0 = vb at *
  generalize hvc : M.R.getD rc 0 = vc at *
  have ea : (ra : Int) ≤ 9223372036854775807 := by omega
  have eb : (rb : Int) ≤ 9223372036854775807 := by omega
  have ec : (rc : Int) ≤ 9223372036854775807 := by omega
  have hopr := fun m' => mop_run (m := m') hop (k := 9) (by omega)
  obtain ⟨m5, e5, o5, k5⟩ := store_own (r := _) rfl M3 (off := ra) (vs := [.int .u64 (r)]) (by rw [Ms.len hok]; simp; try omega) (by simp [one_int])
  rw [Ms.oreg hok ha] at o5
  have q1s := (o3.keep k5 (by simp; omega)).load1 (off := 1) rfl
  have q4s := (o3.keep k5 (by simp; omega)).load1 (off := 4) rfl
  refine fn_w 38 [50, 59, 68, 83, 92, 92, 106, 118, 130, 143, 157, 165, 174, 181, 184, 190, 193, 198, 209, 221] k33 hS rfl ?_
  simp [-Int.natCast_add, -BitVec.toNat_or, -BitVec.toNat_ofInt, -BitVec.toNat_and, box_of b52, fieldAddr_of fa52_1, load_of ld3, fieldAddr_of fa37_0, indexAddr_arr u34 sz33, load_of ld33, fieldAddr_of fa52_2, fieldAddr_of fa52_3, fieldAddr_of fa52_4, load_of ld2, conv_i u2 u33, fieldAddr_of fa52_0, store_of sz33, fieldAddr_of fa37_1, indexAddr_arr u35 sz33, conv_i u3 u33, fieldAddr_of fa37_2, store_of sz3, fieldAddr_of fa37_4, q0, q1, q2, q3, q4, la, lb, lc, ha, hb', hc, ea, eb, ec, hopr, hr, e5, q1s, q4s]
  exact ⟨⟨o5, H3.keep k5 (by simpa using n1) (by simpa using n2)⟩, k3.nil.trans (k5.mono (by simp))⟩
set_option maxHeartbeats 8000000 in
theorem does_Eq (hS : S 33 = []) (hX : MH m b f hb hf wb wf M ws) {ra rb rc : Nat} (ha : ra < 16) (hb' : rb < 16) (hc : rc < 16) (n : Int) {r : Int} (hop : S 45 = []) (hr : ∀ m : Mem, callw Tryd.prog TT S 44 [.int .i64 10, .int .u64 (M.R.getD rb 0), .int .u64 (M.R.getD rc 0)] m = some (.int .u64 r, m)) (wish : Int) :
    ∃ v m1, callw Tryd.prog TT S 33 [.pointer (some ⟨b, 0, none⟩), .agg (icl (12, (ra : Int), (rb : Int), (rc : Int), n)).toArray, .pointer (some ⟨hb, 0, none⟩), .int .i64 wish] m = some (v, m1) ∧ (MaAt m1 b f { M with R := M.R.set ra (r) } ∧ HeapAt m1 hb hf wb wf (ws) 100) ∧ Keeps m m1 [f, wf] := by
  obtain ⟨hM, hH, hok, hwd, hle, n1, n2⟩ := hX
  obtain ⟨o3, k3, n3⟩ := new_own (m := m) (cs := icl (12, (ra : Int), (rb : Int), (rc : Int), n)) (e := 52) rfl
  have q0 := o3.load1 (off := 0) rfl
  have q1 := o3.load1 (off := 1) rfl
  have q2 := o3.load1 (off := 2) rfl
  have q3 := o3.load1 (off := 3) rfl
  have q4 := o3.load1 (off := 4) rfl
  have M3 := hM.keep k3 (by simp)
  have H3 := hH.keep k3 (by simp) (by simp)
  have hf1 := hM.flt
  have hf2 := hH.w.flt
  have wa := hok.wr.at_ ra
  have wb' := hok.wr.at_ rb
  have wc := hok.wr.at_ rc
  have la := M3.load1 (off := ra) (Ms.reg hok ha)
  have lb := M3.load1 (off := rb) (Ms.reg hok hb')
  have lc := M3.load1 (off := rc) (Ms.reg hok hc)
  generalize hva : M.R.getD ra 0 = va at *
  generalize hvb : M.R.getD rb 0 = vb at *
  generalize hvc : M.R.getD rc 0 = vc at *
  have ea : (ra : Int) ≤ 9223372036854775807 := by omega
  have eb : (rb : Int) ≤ 9223372036854775807 := by omega
  have ec : (rc : Int) ≤ 9223372036854775807 := by omega
  have hopr := fun m' => mop_run (m := m') hop (k := 12) (by omega)
  obtain ⟨m5, e5, o5, k5⟩ := store_own (r := _) rfl M3 (off := ra) (vs := [.int .u64 (r)]) (by rw [Ms.len hok]; simp; try omega) (by simp [one_int])
  rw [Ms.oreg hok ha] at o5
  have q1s := (o3.keep k5 (by simp; omega)).load1 (off := 1) rfl
  have q4s := (o3.keep k5 (by simp; omega)).load1 (off := 4) rfl
  refine fn_w 38 [50, 59, 68, 83, 92, 92, 106, 118, 130, 143, 157, 165, 174, 181, 184, 190, 193, 198, 209, 221] k33 hS rfl ?_
  simp [-Int.natCast_add, -BitVec.toNat_or, -BitVec.toNat_ofInt, -BitVec.toNat_and, box_of b52, fieldAddr_of fa52_1, load_of ld3, fieldAddr_of fa37_0, indexAddr_arr u34 sz33, load_of ld33, fieldAddr_of fa52_2, fieldAddr_of fa52_3, fieldAddr_of fa52_4, load_of ld2, conv_i u2 u33, fieldAddr_of fa52_0, store_of sz33, fieldAddr_of fa37_1, indexAddr_arr u35 sz33, conv_i u3 u33, fieldAddr_of fa37_2, store_of sz3, fieldAddr_of fa37_4, q0, q1, q2, q3, q4, la, lb, lc, ha, hb', hc, ea, eb, ec, hopr, hr, e5, q1s, q4s]
  exact ⟨⟨o5, H3.keep k5 (by simpa using n1) (by simpa using n2)⟩, k3.nil.trans (k5.mono (by simp))⟩
set_option maxHeartbeats 8000000 in
theorem does_Ne (hS : S 33 = []) (hX : MH m b f hb hf wb wf M ws) {ra rb rc : Nat} (ha : ra < 16) (hb' : rb < 16) (hc : rc < 16) (n : Int) {r : Int} (hop : S 45 = []) (hr : ∀ m : Mem, callw Tryd.prog TT S 44 [.int .i64 11, .int .u64 (M.R.getD rb 0), .int .u64 (M.R.getD rc 0)] m = some (.int .u64 r, m)) (wish : Int) :
    ∃ v m1, callw Tryd.prog TT S 33 [.pointer (some ⟨b, 0, none⟩), .agg (icl (13, (ra : Int), (rb : Int), (rc : Int), n)).toArray, .pointer (some ⟨hb, 0, none⟩), .int .i64 wish] m = some (v, m1) ∧ (MaAt m1 b f { M with R := M.R.set ra (r) } ∧ HeapAt m1 hb hf wb wf (ws) 100) ∧ Keeps m m1 [f, wf] := by
  obtain ⟨hM, hH, hok, hwd, hle, n1, n2⟩ := hX
  obtain ⟨o3, k3, n3⟩ := new_own (m := m) (cs := icl (13, (ra : Int), (rb : Int), (rc : Int), n)) (e := 52) rfl
  have q0 := o3.load1 (off := 0) rfl
  have q1 := o3.load1 (off := 1) rfl
  have q2 := o3.load1 (off := 2) rfl
  have q3 := o3.load1 (off := 3) rfl
  have q4 := o3.load1 (off := 4) rfl
  have M3 := hM.keep k3 (by simp)
  have H3 := hH.keep k3 (by simp) (by simp)
  have hf1 := hM.flt
  have hf2 := hH.w.flt
  have wa := hok.wr.at_ ra
  have wb' := hok.wr.at_ rb
  have wc := hok.wr.at_ rc
  have la := M3.load1 (off := ra) (Ms.reg hok ha)
  have lb := M3.load1 (off := rb) (Ms.reg hok hb')
  have lc := M3.load1 (off := rc) (Ms.reg hok hc)
  generalize hva : M.R.getD ra 0 = va at *
  generalize hvb : M.R.getD rb 0 = vb at *
  generalize hvc : M.R.getD rc 0 = vc at *
  have ea : (ra : Int) ≤ 9223372036854775807 := by omega
  have eb : (rb : Int) ≤ 9223372036854775807 := by omega
  have ec : (rc : Int) ≤ 9223372036854775807 := by omega
  have hopr := fun m' => mop_run (m := m') hop (k := 13) (by omega)
  obtain ⟨m5, e5, o5, k5⟩ := store_own (r := _) rfl M3 (off := ra) (vs := [.int .u64 (r)]) (by rw [Ms.len hok]; simp; try omega) (by simp [one_int])
  rw [Ms.oreg hok ha] at o5
  have q1s := (o3.keep k5 (by simp; omega)).load1 (off := 1) rfl
  have q4s := (o3.keep k5 (by simp; omega)).load1 (off := 4) rfl
  refine fn_w 38 [50, 59, 68, 83, 92, 92, 106, 118, 130, 143, 157, 165, 174, 181, 184, 190, 193, 198, 209, 221] k33 hS rfl ?_
  simp [-Int.natCast_add, -BitVec.toNat_or, -BitVec.toNat_ofInt, -BitVec.toNat_and, box_of b52, fieldAddr_of fa52_1, load_of ld3, fieldAddr_of fa37_0, indexAddr_arr u34 sz33, load_of ld33, fieldAddr_of fa52_2, fieldAddr_of fa52_3, fieldAddr_of fa52_4, load_of ld2, conv_i u2 u33, fieldAddr_of fa52_0, store_of sz33, fieldAddr_of fa37_1, indexAddr_arr u35 sz33, conv_i u3 u33, fieldAddr_of fa37_2, store_of sz3, fieldAddr_of fa37_4, q0, q1, q2, q3, q4, la, lb, lc, ha, hb', hc, ea, eb, ec, hopr, hr, e5, q1s, q4s]
  exact ⟨⟨o5, H3.keep k5 (by simpa using n1) (by simpa using n2)⟩, k3.nil.trans (k5.mono (by simp))⟩
set_option maxHeartbeats 8000000 in
theorem does_Lt (hS : S 33 = []) (hX : MH m b f hb hf wb wf M ws) {ra rb rc : Nat} (ha : ra < 16) (hb' : rb < 16) (hc : rc < 16) (n : Int) {r : Int} (hop : S 45 = []) (hr : ∀ m : Mem, callw Tryd.prog TT S 44 [.int .i64 12, .int .u64 (M.R.getD rb 0), .int .u64 (M.R.getD rc 0)] m = some (.int .u64 r, m)) (wish : Int) :
    ∃ v m1, callw Tryd.prog TT S 33 [.pointer (some ⟨b, 0, none⟩), .agg (icl (14, (ra : Int), (rb : Int), (rc : Int), n)).toArray, .pointer (some ⟨hb, 0, none⟩), .int .i64 wish] m = some (v, m1) ∧ (MaAt m1 b f { M with R := M.R.set ra (r) } ∧ HeapAt m1 hb hf wb wf (ws) 100) ∧ Keeps m m1 [f, wf] := by
  obtain ⟨hM, hH, hok, hwd, hle, n1, n2⟩ := hX
  obtain ⟨o3, k3, n3⟩ := new_own (m := m) (cs := icl (14, (ra : Int), (rb : Int), (rc : Int), n)) (e := 52) rfl
  have q0 := o3.load1 (off := 0) rfl
  have q1 := o3.load1 (off := 1) rfl
  have q2 := o3.load1 (off := 2) rfl
  have q3 := o3.load1 (off := 3) rfl
  have q4 := o3.load1 (off := 4) rfl
  have M3 := hM.keep k3 (by simp)
  have H3 := hH.keep k3 (by simp) (by simp)
  have hf1 := hM.flt
  have hf2 := hH.w.flt
  have wa := hok.wr.at_ ra
  have wb' := hok.wr.at_ rb
  have wc := hok.wr.at_ rc
  have la := M3.load1 (off := ra) (Ms.reg hok ha)
  have lb := M3.load1 (off := rb) (Ms.reg hok hb')
  have lc := M3.load1 (off := rc) (Ms.reg hok hc)
  generalize hva : M.R.getD ra 0 = va at *
  generalize hvb : M.R.getD rb 0 = vb at *
  generalize hvc : M.R.getD rc 0 = vc at *
  have ea : (ra : Int) ≤ 9223372036854775807 := by omega
  have eb : (rb : Int) ≤ 9223372036854775807 := by omega
  have ec : (rc : Int) ≤ 9223372036854775807 := by omega
  have hopr := fun m' => mop_run (m := m') hop (k := 14) (by omega)
  obtain ⟨m5, e5, o5, k5⟩ := store_own (r := _) rfl M3 (off := ra) (vs := [.int .u64 (r)]) (by rw [Ms.len hok]; simp; try omega) (by simp [one_int])
  rw [Ms.oreg hok ha] at o5
  have q1s := (o3.keep k5 (by simp; omega)).load1 (off := 1) rfl
  have q4s := (o3.keep k5 (by simp; omega)).load1 (off := 4) rfl
  refine fn_w 38 [50, 59, 68, 83, 92, 92, 106, 118, 130, 143, 157, 165, 174, 181, 184, 190, 193, 198, 209, 221] k33 hS rfl ?_
  simp [-Int.natCast_add, -BitVec.toNat_or, -BitVec.toNat_ofInt, -BitVec.toNat_and, box_of b52, fieldAddr_of fa52_1, load_of ld3, fieldAddr_of fa37_0, indexAddr_arr u34 sz33, load_of ld33, fieldAddr_of fa52_2, fieldAddr_of fa52_3, fieldAddr_of fa52_4, load_of ld2, conv_i u2 u33, fieldAddr_of fa52_0, store_of sz33, fieldAddr_of fa37_1, indexAddr_arr u35 sz33, conv_i u3 u33, fieldAddr_of fa37_2, store_of sz3, fieldAddr_of fa37_4, q0, q1, q2, q3, q4, la, lb, lc, ha, hb', hc, ea, eb, ec, hopr, hr, e5, q1s, q4s]
  exact ⟨⟨o5, H3.keep k5 (by simpa using n1) (by simpa using n2)⟩, k3.nil.trans (k5.mono (by simp))⟩
set_option maxHeartbeats 8000000 in
theorem does_Le (hS : S 33 = []) (hX : MH m b f hb hf wb wf M ws) {ra rb rc : Nat} (ha : ra < 16) (hb' : rb < 16) (hc : rc < 16) (n : Int) {r : Int} (hop : S 45 = []) (hr : ∀ m : Mem, callw Tryd.prog TT S 44 [.int .i64 13, .int .u64 (M.R.getD rb 0), .int .u64 (M.R.getD rc 0)] m = some (.int .u64 r, m)) (wish : Int) :
    ∃ v m1, callw Tryd.prog TT S 33 [.pointer (some ⟨b, 0, none⟩), .agg (icl (15, (ra : Int), (rb : Int), (rc : Int), n)).toArray, .pointer (some ⟨hb, 0, none⟩), .int .i64 wish] m = some (v, m1) ∧ (MaAt m1 b f { M with R := M.R.set ra (r) } ∧ HeapAt m1 hb hf wb wf (ws) 100) ∧ Keeps m m1 [f, wf] := by
  obtain ⟨hM, hH, hok, hwd, hle, n1, n2⟩ := hX
  obtain ⟨o3, k3, n3⟩ := new_own (m := m) (cs := icl (15, (ra : Int), (rb : Int), (rc : Int), n)) (e := 52) rfl
  have q0 := o3.load1 (off := 0) rfl
  have q1 := o3.load1 (off := 1) rfl
  have q2 := o3.load1 (off := 2) rfl
  have q3 := o3.load1 (off := 3) rfl
  have q4 := o3.load1 (off := 4) rfl
  have M3 := hM.keep k3 (by simp)
  have H3 := hH.keep k3 (by simp) (by simp)
  have hf1 := hM.flt
  have hf2 := hH.w.flt
  have wa := hok.wr.at_ ra
  have wb' := hok.wr.at_ rb
  have wc := hok.wr.at_ rc
  have la := M3.load1 (off := ra) (Ms.reg hok ha)
  have lb := M3.load1 (off := rb) (Ms.reg hok hb')
  have lc := M3.load1 (off := rc) (Ms.reg hok hc)
  generalize hva : M.R.getD ra 0 = va at *
  generalize hvb : M.R.getD rb 0 = vb at *
  generalize hvc : M.R.getD rc 0 = vc at *
  have ea : (ra : Int) ≤ 9223372036854775807 := by omega
  have eb : (rb : Int) ≤ 9223372036854775807 := by omega
  have ec : (rc : Int) ≤ 9223372036854775807 := by omega
  have hopr := fun m' => mop_run (m := m') hop (k := 15) (by omega)
  obtain ⟨m5, e5, o5, k5⟩ := store_own (r := _) rfl M3 (off := ra) (vs := [.int .u64 (r)]) (by rw [Ms.len hok]; simp; try omega) (by simp [one_int])
  rw [Ms.oreg hok ha] at o5
  have q1s := (o3.keep k5 (by simp; omega)).load1 (off := 1) rfl
  have q4s := (o3.keep k5 (by simp; omega)).load1 (off := 4) rfl
  refine fn_w 38 [50, 59, 68, 83, 92, 92, 106, 118, 130, 143, 157, 165, 174, 181, 184, 190, 193, 198, 209, 221] k33 hS rfl ?_
  simp [-Int.natCast_add, -BitVec.toNat_or, -BitVec.toNat_ofInt, -BitVec.toNat_and, box_of b52, fieldAddr_of fa52_1, load_of ld3, fieldAddr_of fa37_0, indexAddr_arr u34 sz33, load_of ld33, fieldAddr_of fa52_2, fieldAddr_of fa52_3, fieldAddr_of fa52_4, load_of ld2, conv_i u2 u33, fieldAddr_of fa52_0, store_of sz33, fieldAddr_of fa37_1, indexAddr_arr u35 sz33, conv_i u3 u33, fieldAddr_of fa37_2, store_of sz3, fieldAddr_of fa37_4, q0, q1, q2, q3, q4, la, lb, lc, ha, hb', hc, ea, eb, ec, hopr, hr, e5, q1s, q4s]
  exact ⟨⟨o5, H3.keep k5 (by simpa using n1) (by simpa using n2)⟩, k3.nil.trans (k5.mono (by simp))⟩
set_option maxHeartbeats 8000000 in
theorem does_Below (hS : S 33 = []) (hX : MH m b f hb hf wb wf M ws) {ra rb rc : Nat} (ha : ra < 16) (hb' : rb < 16) (hc : rc < 16) (n : Int) {r : Int} (hop : S 45 = []) (hr : ∀ m : Mem, callw Tryd.prog TT S 44 [.int .i64 14, .int .u64 (M.R.getD rb 0), .int .u64 (M.R.getD rc 0)] m = some (.int .u64 r, m)) (wish : Int) :
    ∃ v m1, callw Tryd.prog TT S 33 [.pointer (some ⟨b, 0, none⟩), .agg (icl (16, (ra : Int), (rb : Int), (rc : Int), n)).toArray, .pointer (some ⟨hb, 0, none⟩), .int .i64 wish] m = some (v, m1) ∧ (MaAt m1 b f { M with R := M.R.set ra (r) } ∧ HeapAt m1 hb hf wb wf (ws) 100) ∧ Keeps m m1 [f, wf] := by
  obtain ⟨hM, hH, hok, hwd, hle, n1, n2⟩ := hX
  obtain ⟨o3, k3, n3⟩ := new_own (m := m) (cs := icl (16, (ra : Int), (rb : Int), (rc : Int), n)) (e := 52) rfl
  have q0 := o3.load1 (off := 0) rfl
  have q1 := o3.load1 (off := 1) rfl
  have q2 := o3.load1 (off := 2) rfl
  have q3 := o3.load1 (off := 3) rfl
  have q4 := o3.load1 (off := 4) rfl
  have M3 := hM.keep k3 (by simp)
  have H3 := hH.keep k3 (by simp) (by simp)
  have hf1 := hM.flt
  have hf2 := hH.w.flt
  have wa := hok.wr.at_ ra
  have wb' := hok.wr.at_ rb
  have wc := hok.wr.at_ rc
  have la := M3.load1 (off := ra) (Ms.reg hok ha)
  have lb := M3.load1 (off := rb) (Ms.reg hok hb')
  have lc := M3.load1 (off := rc) (Ms.reg hok hc)
  generalize hva : M.R.getD ra 0 = va at *
  generalize hvb : M.R.getD rb 0 = vb at *
  generalize hvc : M.R.getD rc 0 = vc at *
  have ea : (ra : Int) ≤ 9223372036854775807 := by omega
  have eb : (rb : Int) ≤ 9223372036854775807 := by omega
  have ec : (rc : Int) ≤ 9223372036854775807 := by omega
  have hopr := fun m' => mop_run (m := m') hop (k := 16) (by omega)
  obtain ⟨m5, e5, o5, k5⟩ := store_own (r := _) rfl M3 (off := ra) (vs := [.int .u64 (r)]) (by rw [Ms.len hok]; simp; try omega) (by simp [one_int])
  rw [Ms.oreg hok ha] at o5
  have q1s := (o3.keep k5 (by simp; omega)).load1 (off := 1) rfl
  have q4s := (o3.keep k5 (by simp; omega)).load1 (off := 4) rfl
  refine fn_w 38 [50, 59, 68, 83, 92, 92, 106, 118, 130, 143, 157, 165, 174, 181, 184, 190, 193, 198, 209, 221] k33 hS rfl ?_
  simp [-Int.natCast_add, -BitVec.toNat_or, -BitVec.toNat_ofInt, -BitVec.toNat_and, box_of b52, fieldAddr_of fa52_1, load_of ld3, fieldAddr_of fa37_0, indexAddr_arr u34 sz33, load_of ld33, fieldAddr_of fa52_2, fieldAddr_of fa52_3, fieldAddr_of fa52_4, load_of ld2, conv_i u2 u33, fieldAddr_of fa52_0, store_of sz33, fieldAddr_of fa37_1, indexAddr_arr u35 sz33, conv_i u3 u33, fieldAddr_of fa37_2, store_of sz3, fieldAddr_of fa37_4, q0, q1, q2, q3, q4, la, lb, lc, ha, hb', hc, ea, eb, ec, hopr, hr, e5, q1s, q4s]
  exact ⟨⟨o5, H3.keep k5 (by simpa using n1) (by simpa using n2)⟩, k3.nil.trans (k5.mono (by simp))⟩
set_option maxHeartbeats 8000000 in
theorem does_Neg (hS : S 33 = []) (hX : MH m b f hb hf wb wf M ws) {ra rb rc : Nat} (ha : ra < 16) (hb' : rb < 16) (hc : rc < 16) (n : Int) {r : Int} (hop : S 45 = []) (hr : ∀ m : Mem, callw Tryd.prog TT S 44 [.int .i64 8, .int .u64 (M.R.getD rb 0), .int .u64 0] m = some (.int .u64 r, m)) (wish : Int) :
    ∃ v m1, callw Tryd.prog TT S 33 [.pointer (some ⟨b, 0, none⟩), .agg (icl (10, (ra : Int), (rb : Int), (rc : Int), n)).toArray, .pointer (some ⟨hb, 0, none⟩), .int .i64 wish] m = some (v, m1) ∧ (MaAt m1 b f { M with R := M.R.set ra (r) } ∧ HeapAt m1 hb hf wb wf (ws) 100) ∧ Keeps m m1 [f, wf] := by
  obtain ⟨hM, hH, hok, hwd, hle, n1, n2⟩ := hX
  obtain ⟨o3, k3, n3⟩ := new_own (m := m) (cs := icl (10, (ra : Int), (rb : Int), (rc : Int), n)) (e := 52) rfl
  have q0 := o3.load1 (off := 0) rfl
  have q1 := o3.load1 (off := 1) rfl
  have q2 := o3.load1 (off := 2) rfl
  have q3 := o3.load1 (off := 3) rfl
  have q4 := o3.load1 (off := 4) rfl
  have M3 := hM.keep k3 (by simp)
  have H3 := hH.keep k3 (by simp) (by simp)
  have hf1 := hM.flt
  have hf2 := hH.w.flt
  have wa := hok.wr.at_ ra
  have wb' := hok.wr.at_ rb
  have wc := hok.wr.at_ rc
  have la := M3.load1 (off := ra) (Ms.reg hok ha)
  have lb := M3.load1 (off := rb) (Ms.reg hok hb')
  have lc := M3.load1 (off := rc) (Ms.reg hok hc)
  generalize hva : M.R.getD ra 0 = va at *
  generalize hvb : M.R.getD rb 0 = vb at *
  generalize hvc : M.R.getD rc 0 = vc at *
  have ea : (ra : Int) ≤ 9223372036854775807 := by omega
  have eb : (rb : Int) ≤ 9223372036854775807 := by omega
  have ec : (rc : Int) ≤ 9223372036854775807 := by omega
  have hopr := fun m' => mop_run (m := m') hop (k := 10) (by omega)
  obtain ⟨m5, e5, o5, k5⟩ := store_own (r := _) rfl M3 (off := ra) (vs := [.int .u64 (r)]) (by rw [Ms.len hok]; simp; try omega) (by simp [one_int])
  rw [Ms.oreg hok ha] at o5
  have q1s := (o3.keep k5 (by simp; omega)).load1 (off := 1) rfl
  have q4s := (o3.keep k5 (by simp; omega)).load1 (off := 4) rfl
  refine fn_w 38 [50, 59, 68, 83, 92, 92, 106, 118, 130, 143, 157, 165, 174, 181, 184, 190, 193, 198, 209, 221] k33 hS rfl ?_
  simp [-Int.natCast_add, -BitVec.toNat_or, -BitVec.toNat_ofInt, -BitVec.toNat_and, box_of b52, fieldAddr_of fa52_1, load_of ld3, fieldAddr_of fa37_0, indexAddr_arr u34 sz33, load_of ld33, fieldAddr_of fa52_2, fieldAddr_of fa52_3, fieldAddr_of fa52_4, load_of ld2, conv_i u2 u33, fieldAddr_of fa52_0, store_of sz33, fieldAddr_of fa37_1, indexAddr_arr u35 sz33, conv_i u3 u33, fieldAddr_of fa37_2, store_of sz3, fieldAddr_of fa37_4, q0, q1, q2, q3, q4, la, lb, lc, ha, hb', hc, ea, eb, ec, hopr, hr, e5, q1s, q4s]
  exact ⟨⟨o5, H3.keep k5 (by simpa using n1) (by simpa using n2)⟩, k3.nil.trans (k5.mono (by simp))⟩
set_option maxHeartbeats 8000000 in
theorem does_Not (hS : S 33 = []) (hX : MH m b f hb hf wb wf M ws) {ra rb rc : Nat} (ha : ra < 16) (hb' : rb < 16) (hc : rc < 16) (n : Int) {r : Int} (hop : S 45 = []) (hr : ∀ m : Mem, callw Tryd.prog TT S 44 [.int .i64 9, .int .u64 (M.R.getD rb 0), .int .u64 0] m = some (.int .u64 r, m)) (wish : Int) :
    ∃ v m1, callw Tryd.prog TT S 33 [.pointer (some ⟨b, 0, none⟩), .agg (icl (11, (ra : Int), (rb : Int), (rc : Int), n)).toArray, .pointer (some ⟨hb, 0, none⟩), .int .i64 wish] m = some (v, m1) ∧ (MaAt m1 b f { M with R := M.R.set ra (r) } ∧ HeapAt m1 hb hf wb wf (ws) 100) ∧ Keeps m m1 [f, wf] := by
  obtain ⟨hM, hH, hok, hwd, hle, n1, n2⟩ := hX
  obtain ⟨o3, k3, n3⟩ := new_own (m := m) (cs := icl (11, (ra : Int), (rb : Int), (rc : Int), n)) (e := 52) rfl
  have q0 := o3.load1 (off := 0) rfl
  have q1 := o3.load1 (off := 1) rfl
  have q2 := o3.load1 (off := 2) rfl
  have q3 := o3.load1 (off := 3) rfl
  have q4 := o3.load1 (off := 4) rfl
  have M3 := hM.keep k3 (by simp)
  have H3 := hH.keep k3 (by simp) (by simp)
  have hf1 := hM.flt
  have hf2 := hH.w.flt
  have wa := hok.wr.at_ ra
  have wb' := hok.wr.at_ rb
  have wc := hok.wr.at_ rc
  have la := M3.load1 (off := ra) (Ms.reg hok ha)
  have lb := M3.load1 (off := rb) (Ms.reg hok hb')
  have lc := M3.load1 (off := rc) (Ms.reg hok hc)
  generalize hva : M.R.getD ra 0 = va at *
  generalize hvb : M.R.getD rb 0 = vb at *
  generalize hvc : M.R.getD rc 0 = vc at *
  have ea : (ra : Int) ≤ 9223372036854775807 := by omega
  have eb : (rb : Int) ≤ 9223372036854775807 := by omega
  have ec : (rc : Int) ≤ 9223372036854775807 := by omega
  have hopr := fun m' => mop_run (m := m') hop (k := 11) (by omega)
  obtain ⟨m5, e5, o5, k5⟩ := store_own (r := _) rfl M3 (off := ra) (vs := [.int .u64 (r)]) (by rw [Ms.len hok]; simp; try omega) (by simp [one_int])
  rw [Ms.oreg hok ha] at o5
  have q1s := (o3.keep k5 (by simp; omega)).load1 (off := 1) rfl
  have q4s := (o3.keep k5 (by simp; omega)).load1 (off := 4) rfl
  refine fn_w 38 [50, 59, 68, 83, 92, 92, 106, 118, 130, 143, 157, 165, 174, 181, 184, 190, 193, 198, 209, 221] k33 hS rfl ?_
  simp [-Int.natCast_add, -BitVec.toNat_or, -BitVec.toNat_ofInt, -BitVec.toNat_and, box_of b52, fieldAddr_of fa52_1, load_of ld3, fieldAddr_of fa37_0, indexAddr_arr u34 sz33, load_of ld33, fieldAddr_of fa52_2, fieldAddr_of fa52_3, fieldAddr_of fa52_4, load_of ld2, conv_i u2 u33, fieldAddr_of fa52_0, store_of sz33, fieldAddr_of fa37_1, indexAddr_arr u35 sz33, conv_i u3 u33, fieldAddr_of fa37_2, store_of sz3, fieldAddr_of fa37_4, q0, q1, q2, q3, q4, la, lb, lc, ha, hb', hc, ea, eb, ec, hopr, hr, e5, q1s, q4s]
  exact ⟨⟨o5, H3.keep k5 (by simpa using n1) (by simpa using n2)⟩, k3.nil.trans (k5.mono (by simp))⟩
set_option maxHeartbeats 8000000 in
theorem does_TypeOf (hS : S 33 = []) (hX : MH m b f hb hf wb wf M ws) {ra rb rc : Nat} (ha : ra < 16) (hb' : rb < 16) (hc : rc < 16) (hP : Hp S) (n : Int) (wish : Int) :
    ∃ v m1, callw Tryd.prog TT S 33 [.pointer (some ⟨b, 0, none⟩), .agg (icl (17, (ra : Int), (rb : Int), (rc : Int), n)).toArray, .pointer (some ⟨hb, 0, none⟩), .int .i64 wish] m = some (v, m1) ∧ (MaAt m1 b f { M with R := M.R.set ra (IntKind.u64.wrap (ws.getD (M.R.getD rb 0).toNat 0 / 4294967296)) } ∧ HeapAt m1 hb hf wb wf (ws) 100) ∧ Keeps m m1 [f, wf] := by
  obtain ⟨hM, hH, hok, hwd, hle, n1, n2⟩ := hX
  obtain ⟨o3, k3, n3⟩ := new_own (m := m) (cs := icl (17, (ra : Int), (rb : Int), (rc : Int), n)) (e := 52) rfl
  have q0 := o3.load1 (off := 0) rfl
  have q1 := o3.load1 (off := 1) rfl
  have q2 := o3.load1 (off := 2) rfl
  have q3 := o3.load1 (off := 3) rfl
  have q4 := o3.load1 (off := 4) rfl
  have M3 := hM.keep k3 (by simp)
  have H3 := hH.keep k3 (by simp) (by simp)
  have hf1 := hM.flt
  have hf2 := hH.w.flt
  have wa := hok.wr.at_ ra
  have wb' := hok.wr.at_ rb
  have wc := hok.wr.at_ rc
  have la := M3.load1 (off := ra) (Ms.reg hok ha)
  have lb := M3.load1 (off := rb) (Ms.reg hok hb')
  have lc := M3.load1 (off := rc) (Ms.reg hok hc)
  generalize hva : M.R.getD ra 0 = va at *
  generalize hvb : M.R.getD rb 0 = vb at *
  generalize hvc : M.R.getD rc 0 = vc at *
  have ea : (ra : Int) ≤ 9223372036854775807 := by omega
  have eb : (rb : Int) ≤ 9223372036854775807 := by omega
  have ec : (rc : Int) ≤ 9223372036854775807 := by omega
  have hcl := fun (m' : Mem) (k' : Keeps m m' []) => type_run (m := m') (r := vb) hP.type hP.head hP.word (hH.keep k' (by simp) (by simp)) wb'.1 hle hwd
  have hcl3 := hcl _ k3
  clear hcl
  generalize hvw : ws.getD vb.toNat 0 = vw at *
  obtain ⟨m5, e5, o5, k5⟩ := store_own (r := _) rfl M3 (off := ra) (vs := [.int .u64 (IntKind.u64.wrap (vw / 4294967296))]) (by rw [Ms.len hok]; simp; try omega) (by simp [one_int])
  rw [Ms.oreg hok ha] at o5
  have q1s := (o3.keep k5 (by simp; omega)).load1 (off := 1) rfl
  have q4s := (o3.keep k5 (by simp; omega)).load1 (off := 4) rfl
  refine fn_w 38 [50, 59, 68, 83, 92, 92, 106, 118, 130, 143, 157, 165, 174, 181, 184, 190, 193, 198, 209, 221] k33 hS rfl ?_
  simp [-Int.natCast_add, -BitVec.toNat_or, -BitVec.toNat_ofInt, -BitVec.toNat_and, box_of b52, fieldAddr_of fa52_1, load_of ld3, fieldAddr_of fa37_0, indexAddr_arr u34 sz33, load_of ld33, fieldAddr_of fa52_2, fieldAddr_of fa52_3, fieldAddr_of fa52_4, load_of ld2, conv_i u2 u33, fieldAddr_of fa52_0, store_of sz33, fieldAddr_of fa37_1, indexAddr_arr u35 sz33, conv_i u3 u33, fieldAddr_of fa37_2, store_of sz3, fieldAddr_of fa37_4, q0, q1, q2, q3, q4, la, lb, lc, ha, hb', hc, ea, eb, ec, hcl3, e5, q1s, q4s]
  exact ⟨⟨o5, H3.keep k5 (by simpa using n1) (by simpa using n2)⟩, k3.nil.trans (k5.mono (by simp))⟩
set_option maxHeartbeats 8000000 in
theorem does_LenOf (hS : S 33 = []) (hX : MH m b f hb hf wb wf M ws) {ra rb rc : Nat} (ha : ra < 16) (hb' : rb < 16) (hc : rc < 16) (hP : Hp S) (n : Int) (wish : Int) :
    ∃ v m1, callw Tryd.prog TT S 33 [.pointer (some ⟨b, 0, none⟩), .agg (icl (18, (ra : Int), (rb : Int), (rc : Int), n)).toArray, .pointer (some ⟨hb, 0, none⟩), .int .i64 wish] m = some (v, m1) ∧ (MaAt m1 b f { M with R := M.R.set ra (IntKind.u64.wrap (ws.getD (M.R.getD rb 0).toNat 0 % 4294967296)) } ∧ HeapAt m1 hb hf wb wf (ws) 100) ∧ Keeps m m1 [f, wf] := by
  obtain ⟨hM, hH, hok, hwd, hle, n1, n2⟩ := hX
  obtain ⟨o3, k3, n3⟩ := new_own (m := m) (cs := icl (18, (ra : Int), (rb : Int), (rc : Int), n)) (e := 52) rfl
  have q0 := o3.load1 (off := 0) rfl
  have q1 := o3.load1 (off := 1) rfl
  have q2 := o3.load1 (off := 2) rfl
  have q3 := o3.load1 (off := 3) rfl
  have q4 := o3.load1 (off := 4) rfl
  have M3 := hM.keep k3 (by simp)
  have H3 := hH.keep k3 (by simp) (by simp)
  have hf1 := hM.flt
  have hf2 := hH.w.flt
  have wa := hok.wr.at_ ra
  have wb' := hok.wr.at_ rb
  have wc := hok.wr.at_ rc
  have la := M3.load1 (off := ra) (Ms.reg hok ha)
  have lb := M3.load1 (off := rb) (Ms.reg hok hb')
  have lc := M3.load1 (off := rc) (Ms.reg hok hc)
  generalize hva : M.R.getD ra 0 = va at *
  generalize hvb : M.R.getD rb 0 = vb at *
  generalize hvc : M.R.getD rc 0 = vc at *
  have ea : (ra : Int) ≤ 9223372036854775807 := by omega
  have eb : (rb : Int) ≤ 9223372036854775807 := by omega
  have ec : (rc : Int) ≤ 9223372036854775807 := by omega
  have hcl3 := len_run (r := vb) hP.len hP.head hP.word H3 wb'.1 hle hwd
  generalize hvw : ws.getD vb.toNat 0 = vw at *
  obtain ⟨m5, e5, o5, k5⟩ := store_own (r := _) rfl M3 (off := ra) (vs := [.int .u64 (IntKind.u64.wrap (vw % 4294967296))]) (by rw [Ms.len hok]; simp; try omega) (by simp [one_int])
  rw [Ms.oreg hok ha] at o5
  have q1s := (o3.keep k5 (by simp; omega)).load1 (off := 1) rfl
  have q4s := (o3.keep k5 (by simp; omega)).load1 (off := 4) rfl
  refine fn_w 38 [50, 59, 68, 83, 92, 92, 106, 118, 130, 143, 157, 165, 174, 181, 184, 190, 193, 198, 209, 221] k33 hS rfl ?_
  simp [-Int.natCast_add, -BitVec.toNat_or, -BitVec.toNat_ofInt, -BitVec.toNat_and, box_of b52, fieldAddr_of fa52_1, load_of ld3, fieldAddr_of fa37_0, indexAddr_arr u34 sz33, load_of ld33, fieldAddr_of fa52_2, fieldAddr_of fa52_3, fieldAddr_of fa52_4, load_of ld2, conv_i u2 u33, fieldAddr_of fa52_0, store_of sz33, fieldAddr_of fa37_1, indexAddr_arr u35 sz33, conv_i u3 u33, fieldAddr_of fa37_2, store_of sz3, fieldAddr_of fa37_4, q0, q1, q2, q3, q4, la, lb, lc, ha, hb', hc, ea, eb, ec, hcl3, e5, q1s, q4s]
  exact ⟨⟨o5, H3.keep k5 (by simpa using n1) (by simpa using n2)⟩, k3.nil.trans (k5.mono (by simp))⟩
set_option maxHeartbeats 8000000 in
theorem does_Word (hS : S 33 = []) (hX : MH m b f hb hf wb wf M ws) {ra rb rc : Nat} (ha : ra < 16) (hb' : rb < 16) (hc : rc < 16) (hP : Hp S) (n : Int) (wish : Int) :
    ∃ v m1, callw Tryd.prog TT S 33 [.pointer (some ⟨b, 0, none⟩), .agg (icl (19, (ra : Int), (rb : Int), (rc : Int), n)).toArray, .pointer (some ⟨hb, 0, none⟩), .int .i64 wish] m = some (v, m1) ∧ (MaAt m1 b f { M with R := M.R.set ra (ws.getD (IntKind.u64.wrap (M.R.getD rb 0 + IntKind.u64.wrap n)).toNat 0) } ∧ HeapAt m1 hb hf wb wf (ws) 100) ∧ Keeps m m1 [f, wf] := by
  obtain ⟨hM, hH, hok, hwd, hle, n1, n2⟩ := hX
  obtain ⟨o3, k3, n3⟩ := new_own (m := m) (cs := icl (19, (ra : Int), (rb : Int), (rc : Int), n)) (e := 52) rfl
  have q0 := o3.load1 (off := 0) rfl
  have q1 := o3.load1 (off := 1) rfl
  have q2 := o3.load1 (off := 2) rfl
  have q3 := o3.load1 (off := 3) rfl
  have q4 := o3.load1 (off := 4) rfl
  have M3 := hM.keep k3 (by simp)
  have H3 := hH.keep k3 (by simp) (by simp)
  have hf1 := hM.flt
  have hf2 := hH.w.flt
  have wa := hok.wr.at_ ra
  have wb' := hok.wr.at_ rb
  have wc := hok.wr.at_ rc
  have la := M3.load1 (off := ra) (Ms.reg hok ha)
  have lb := M3.load1 (off := rb) (Ms.reg hok hb')
  have lc := M3.load1 (off := rc) (Ms.reg hok hc)
  generalize hva : M.R.getD ra 0 = va at *
  generalize hvb : M.R.getD rb 0 = vb at *
  generalize hvc : M.R.getD rc 0 = vc at *
  have ea : (ra : Int) ≤ 9223372036854775807 := by omega
  have eb : (rb : Int) ≤ 9223372036854775807 := by omega
  have ec : (rc : Int) ≤ 9223372036854775807 := by omega
  have hcl3 := word_run (at_ := IntKind.u64.wrap (vb + IntKind.u64.wrap n)) hP.word H3 (wd_wrap _).1 hle
  generalize hvw : ws.getD (IntKind.u64.wrap (vb + IntKind.u64.wrap n)).toNat 0 = vw at *
  obtain ⟨m5, e5, o5, k5⟩ := store_own (r := _) rfl M3 (off := ra) (vs := [.int .u64 (vw)]) (by rw [Ms.len hok]; simp; try omega) (by simp [one_int])
  rw [Ms.oreg hok ha] at o5
  have q1s := (o3.keep k5 (by simp; omega)).load1 (off := 1) rfl
  have q4s := (o3.keep k5 (by simp; omega)).load1 (off := 4) rfl
  refine fn_w 38 [50, 59, 68, 83, 92, 92, 106, 118, 130, 143, 157, 165, 174, 181, 184, 190, 193, 198, 209, 221] k33 hS rfl ?_
  simp [-Int.natCast_add, -BitVec.toNat_or, -BitVec.toNat_ofInt, -BitVec.toNat_and, box_of b52, fieldAddr_of fa52_1, load_of ld3, fieldAddr_of fa37_0, indexAddr_arr u34 sz33, load_of ld33, fieldAddr_of fa52_2, fieldAddr_of fa52_3, fieldAddr_of fa52_4, load_of ld2, conv_i u2 u33, fieldAddr_of fa52_0, store_of sz33, fieldAddr_of fa37_1, indexAddr_arr u35 sz33, conv_i u3 u33, fieldAddr_of fa37_2, store_of sz3, fieldAddr_of fa37_4, q0, q1, q2, q3, q4, la, lb, lc, ha, hb', hc, ea, eb, ec, hcl3, e5, q1s, q4s]
  exact ⟨⟨o5, H3.keep k5 (by simpa using n1) (by simpa using n2)⟩, k3.nil.trans (k5.mono (by simp))⟩
set_option maxHeartbeats 8000000 in
theorem does_WordAt (hS : S 33 = []) (hX : MH m b f hb hf wb wf M ws) {ra rb rc : Nat} (ha : ra < 16) (hb' : rb < 16) (hc : rc < 16) (hP : Hp S) (n : Int) (wish : Int) :
    ∃ v m1, callw Tryd.prog TT S 33 [.pointer (some ⟨b, 0, none⟩), .agg (icl (20, (ra : Int), (rb : Int), (rc : Int), n)).toArray, .pointer (some ⟨hb, 0, none⟩), .int .i64 wish] m = some (v, m1) ∧ (MaAt m1 b f { M with R := M.R.set ra (ws.getD (IntKind.u64.wrap (IntKind.u64.wrap (M.R.getD rb 0 + 1) + M.R.getD rc 0)).toNat 0) } ∧ HeapAt m1 hb hf wb wf (ws) 100) ∧ Keeps m m1 [f, wf] := by
  obtain ⟨hM, hH, hok, hwd, hle, n1, n2⟩ := hX
  obtain ⟨o3, k3, n3⟩ := new_own (m := m) (cs := icl (20, (ra : Int), (rb : Int), (rc : Int), n)) (e := 52) rfl
  have q0 := o3.load1 (off := 0) rfl
  have q1 := o3.load1 (off := 1) rfl
  have q2 := o3.load1 (off := 2) rfl
  have q3 := o3.load1 (off := 3) rfl
  have q4 := o3.load1 (off := 4) rfl
  have M3 := hM.keep k3 (by simp)
  have H3 := hH.keep k3 (by simp) (by simp)
  have hf1 := hM.flt
  have hf2 := hH.w.flt
  have wa := hok.wr.at_ ra
  have wb' := hok.wr.at_ rb
  have wc := hok.wr.at_ rc
  have la := M3.load1 (off := ra) (Ms.reg hok ha)
  have lb := M3.load1 (off := rb) (Ms.reg hok hb')
  have lc := M3.load1 (off := rc) (Ms.reg hok hc)
  generalize hva : M.R.getD ra 0 = va at *
  generalize hvb : M.R.getD rb 0 = vb at *
  generalize hvc : M.R.getD rc 0 = vc at *
  have ea : (ra : Int) ≤ 9223372036854775807 := by omega
  have eb : (rb : Int) ≤ 9223372036854775807 := by omega
  have ec : (rc : Int) ≤ 9223372036854775807 := by omega
  have hcl3 := word_run (at_ := IntKind.u64.wrap (IntKind.u64.wrap (vb + 1) + vc)) hP.word H3 (wd_wrap _).1 hle
  generalize hvw : ws.getD (IntKind.u64.wrap (IntKind.u64.wrap (vb + 1) + vc)).toNat 0 = vw at *
  obtain ⟨m5, e5, o5, k5⟩ := store_own (r := _) rfl M3 (off := ra) (vs := [.int .u64 (vw)]) (by rw [Ms.len hok]; simp; try omega) (by simp [one_int])
  rw [Ms.oreg hok ha] at o5
  have q1s := (o3.keep k5 (by simp; omega)).load1 (off := 1) rfl
  have q4s := (o3.keep k5 (by simp; omega)).load1 (off := 4) rfl
  refine fn_w 38 [50, 59, 68, 83, 92, 92, 106, 118, 130, 143, 157, 165, 174, 181, 184, 190, 193, 198, 209, 221] k33 hS rfl ?_
  simp [-Int.natCast_add, -BitVec.toNat_or, -BitVec.toNat_ofInt, -BitVec.toNat_and, box_of b52, fieldAddr_of fa52_1, load_of ld3, fieldAddr_of fa37_0, indexAddr_arr u34 sz33, load_of ld33, fieldAddr_of fa52_2, fieldAddr_of fa52_3, fieldAddr_of fa52_4, load_of ld2, conv_i u2 u33, fieldAddr_of fa52_0, store_of sz33, fieldAddr_of fa37_1, indexAddr_arr u35 sz33, conv_i u3 u33, fieldAddr_of fa37_2, store_of sz3, fieldAddr_of fa37_4, q0, q1, q2, q3, q4, la, lb, lc, ha, hb', hc, ea, eb, ec, hcl3, e5, q1s, q4s]
  exact ⟨⟨o5, H3.keep k5 (by simpa using n1) (by simpa using n2)⟩, k3.nil.trans (k5.mono (by simp))⟩
set_option maxHeartbeats 8000000 in
theorem does_Put (hS : S 33 = []) (hX : MH m b f hb hf wb wf M ws) {ra rb rc : Nat} (ha : ra < 16) (hb' : rb < 16) (hc : rc < 16) (hP : Hp S) (n : Int) (wish : Int) :
    ∃ v m1, callw Tryd.prog TT S 33 [.pointer (some ⟨b, 0, none⟩), .agg (icl (21, (ra : Int), (rb : Int), (rc : Int), n)).toArray, .pointer (some ⟨hb, 0, none⟩), .int .i64 wish] m = some (v, m1) ∧ (MaAt m1 b f M ∧ HeapAt m1 hb hf wb wf (putF ws (IntKind.u64.wrap (M.R.getD ra 0 + IntKind.u64.wrap n)) (M.R.getD rb 0)) 100) ∧ Keeps m m1 [f, wf] := by
  obtain ⟨hM, hH, hok, hwd, hle, n1, n2⟩ := hX
  obtain ⟨o3, k3, n3⟩ := new_own (m := m) (cs := icl (21, (ra : Int), (rb : Int), (rc : Int), n)) (e := 52) rfl
  have q0 := o3.load1 (off := 0) rfl
  have q1 := o3.load1 (off := 1) rfl
  have q2 := o3.load1 (off := 2) rfl
  have q3 := o3.load1 (off := 3) rfl
  have q4 := o3.load1 (off := 4) rfl
  have M3 := hM.keep k3 (by simp)
  have H3 := hH.keep k3 (by simp) (by simp)
  have hf1 := hM.flt
  have hf2 := hH.w.flt
  have wa := hok.wr.at_ ra
  have wb' := hok.wr.at_ rb
  have wc := hok.wr.at_ rc
  have la := M3.load1 (off := ra) (Ms.reg hok ha)
  have lb := M3.load1 (off := rb) (Ms.reg hok hb')
  have lc := M3.load1 (off := rc) (Ms.reg hok hc)
  generalize hva : M.R.getD ra 0 = va at *
  generalize hvb : M.R.getD rb 0 = vb at *
  generalize hvc : M.R.getD rc 0 = vc at *
  have ea : (ra : Int) ≤ 9223372036854775807 := by omega
  have eb : (rb : Int) ≤ 9223372036854775807 := by omega
  have ec : (rc : Int) ≤ 9223372036854775807 := by omega
  obtain ⟨_, m5, c5, rfl, h5, k5⟩ := put_run (a := IntKind.u64.wrap (va + IntKind.u64.wrap n)) (v := vb) hP.put H3 (wd_wrap _).1 hle
  refine fn_w 38 [50, 59, 68, 83, 92, 92, 106, 118, 130, 143, 157, 165, 174, 181, 184, 190, 193, 198, 209, 221] k33 hS rfl ?_
  simp [-Int.natCast_add, -BitVec.toNat_or, -BitVec.toNat_ofInt, -BitVec.toNat_and, box_of b52, fieldAddr_of fa52_1, load_of ld3, fieldAddr_of fa37_0, indexAddr_arr u34 sz33, load_of ld33, fieldAddr_of fa52_2, fieldAddr_of fa52_3, fieldAddr_of fa52_4, load_of ld2, conv_i u2 u33, fieldAddr_of fa52_0, store_of sz33, fieldAddr_of fa37_1, indexAddr_arr u35 sz33, conv_i u3 u33, fieldAddr_of fa37_2, store_of sz3, fieldAddr_of fa37_4, q0, q1, q2, q3, q4, la, lb, lc, ha, hb', hc, ea, eb, ec, c5]
  exact ⟨⟨M3.keep k5 (by simp; exact fun e => n2 e.symm), h5⟩, k3.nil.trans (k5.mono (by simp))⟩
set_option maxHeartbeats 8000000 in
theorem does_PutAt (hS : S 33 = []) (hX : MH m b f hb hf wb wf M ws) {ra rb rc : Nat} (ha : ra < 16) (hb' : rb < 16) (hc : rc < 16) (hP : Hp S) (n : Int) (wish : Int) :
    ∃ v m1, callw Tryd.prog TT S 33 [.pointer (some ⟨b, 0, none⟩), .agg (icl (22, (ra : Int), (rb : Int), (rc : Int), n)).toArray, .pointer (some ⟨hb, 0, none⟩), .int .i64 wish] m = some (v, m1) ∧ (MaAt m1 b f M ∧ HeapAt m1 hb hf wb wf (putF ws (IntKind.u64.wrap (IntKind.u64.wrap (M.R.getD ra 0 + 1) + M.R.getD rb 0)) (M.R.getD rc 0)) 100) ∧ Keeps m m1 [f, wf] := by
  obtain ⟨hM, hH, hok, hwd, hle, n1, n2⟩ := hX
  obtain ⟨o3, k3, n3⟩ := new_own (m := m) (cs := icl (22, (ra : Int), (rb : Int), (rc : Int), n)) (e := 52) rfl
  have q0 := o3.load1 (off := 0) rfl
  have q1 := o3.load1 (off := 1) rfl
  have q2 := o3.load1 (off := 2) rfl
  have q3 := o3.load1 (off := 3) rfl
  have q4 := o3.load1 (off := 4) rfl
  have M3 := hM.keep k3 (by simp)
  have H3 := hH.keep k3 (by simp) (by simp)
  have hf1 := hM.flt
  have hf2 := hH.w.flt
  have wa := hok.wr.at_ ra
  have wb' := hok.wr.at_ rb
  have wc := hok.wr.at_ rc
  have la := M3.load1 (off := ra) (Ms.reg hok ha)
  have lb := M3.load1 (off := rb) (Ms.reg hok hb')
  have lc := M3.load1 (off := rc) (Ms.reg hok hc)
  generalize hva : M.R.getD ra 0 = va at *
  generalize hvb : M.R.getD rb 0 = vb at *
  generalize hvc : M.R.getD rc 0 = vc at *
  have ea : (ra : Int) ≤ 9223372036854775807 := by omega
  have eb : (rb : Int) ≤ 9223372036854775807 := by omega
  have ec : (rc : Int) ≤ 9223372036854775807 := by omega
  obtain ⟨_, m5, c5, rfl, h5, k5⟩ := put_run (a := IntKind.u64.wrap (IntKind.u64.wrap (va + 1) + vb)) (v := vc) hP.put H3 (wd_wrap _).1 hle
  refine fn_w 38 [50, 59, 68, 83, 92, 92, 106, 118, 130, 143, 157, 165, 174, 181, 184, 190, 193, 198, 209, 221] k33 hS rfl ?_
  simp [-Int.natCast_add, -BitVec.toNat_or, -BitVec.toNat_ofInt, -BitVec.toNat_and, box_of b52, fieldAddr_of fa52_1, load_of ld3, fieldAddr_of fa37_0, indexAddr_arr u34 sz33, load_of ld33, fieldAddr_of fa52_2, fieldAddr_of fa52_3, fieldAddr_of fa52_4, load_of ld2, conv_i u2 u33, fieldAddr_of fa52_0, store_of sz33, fieldAddr_of fa37_1, indexAddr_arr u35 sz33, conv_i u3 u33, fieldAddr_of fa37_2, store_of sz3, fieldAddr_of fa37_4, q0, q1, q2, q3, q4, la, lb, lc, ha, hb', hc, ea, eb, ec, c5]
  exact ⟨⟨M3.keep k5 (by simp; exact fun e => n2 e.symm), h5⟩, k3.nil.trans (k5.mono (by simp))⟩
set_option maxHeartbeats 8000000 in
theorem does_Jump (hS : S 33 = []) (hX : MH m b f hb hf wb wf M ws) {ra rb rc : Nat} (ha : ra < 16) (hb' : rb < 16) (hc : rc < 16) {n : Int} (hn : -9223372036854775808 ≤ n ∧ n ≤ 9223372036854775807) (wish : Int) :
    ∃ v m1, callw Tryd.prog TT S 33 [.pointer (some ⟨b, 0, none⟩), .agg (icl (23, (ra : Int), (rb : Int), (rc : Int), n)).toArray, .pointer (some ⟨hb, 0, none⟩), .int .i64 wish] m = some (v, m1) ∧ (MaAt m1 b f { M with pc := n } ∧ HeapAt m1 hb hf wb wf (ws) 100) ∧ Keeps m m1 [f, wf] := by
  obtain ⟨hM, hH, hok, hwd, hle, n1, n2⟩ := hX
  obtain ⟨o3, k3, n3⟩ := new_own (m := m) (cs := icl (23, (ra : Int), (rb : Int), (rc : Int), n)) (e := 52) rfl
  have q0 := o3.load1 (off := 0) rfl
  have q1 := o3.load1 (off := 1) rfl
  have q2 := o3.load1 (off := 2) rfl
  have q3 := o3.load1 (off := 3) rfl
  have q4 := o3.load1 (off := 4) rfl
  have M3 := hM.keep k3 (by simp)
  have H3 := hH.keep k3 (by simp) (by simp)
  have hf1 := hM.flt
  have hf2 := hH.w.flt
  have wa := hok.wr.at_ ra
  have wb' := hok.wr.at_ rb
  have wc := hok.wr.at_ rc
  have la := M3.load1 (off := ra) (Ms.reg hok ha)
  have lb := M3.load1 (off := rb) (Ms.reg hok hb')
  have lc := M3.load1 (off := rc) (Ms.reg hok hc)
  generalize hva : M.R.getD ra 0 = va at *
  generalize hvb : M.R.getD rb 0 = vb at *
  generalize hvc : M.R.getD rc 0 = vc at *
  have ea : (ra : Int) ≤ 9223372036854775807 := by omega
  have eb : (rb : Int) ≤ 9223372036854775807 := by omega
  have ec : (rc : Int) ≤ 9223372036854775807 := by omega
  have wn : IntKind.i64.wrap n = n := wrap_i64 hn.1 hn.2
  obtain ⟨m5, e5, o5, k5⟩ := store_own (r := _) rfl M3 (off := 416) (vs := [.int .i64 n]) (by rw [Ms.len hok]; simp; try omega) (by simp [one_int])
  rw [Ms.opc hok] at o5
  have q1s := (o3.keep k5 (by simp; omega)).load1 (off := 1) rfl
  have q4s := (o3.keep k5 (by simp; omega)).load1 (off := 4) rfl
  refine fn_w 38 [50, 59, 68, 83, 92, 92, 106, 118, 130, 143, 157, 165, 174, 181, 184, 190, 193, 198, 209, 221] k33 hS rfl ?_
  simp [-Int.natCast_add, -BitVec.toNat_or, -BitVec.toNat_ofInt, -BitVec.toNat_and, box_of b52, fieldAddr_of fa52_1, load_of ld3, fieldAddr_of fa37_0, indexAddr_arr u34 sz33, load_of ld33, fieldAddr_of fa52_2, fieldAddr_of fa52_3, fieldAddr_of fa52_4, load_of ld2, conv_i u2 u33, fieldAddr_of fa52_0, store_of sz33, fieldAddr_of fa37_1, indexAddr_arr u35 sz33, conv_i u3 u33, fieldAddr_of fa37_2, store_of sz3, fieldAddr_of fa37_4, q0, q1, q2, q3, q4, la, lb, lc, ha, hb', hc, ea, eb, ec, wn, e5, q1s, q4s]
  exact ⟨⟨o5, H3.keep k5 (by simpa using n1) (by simpa using n2)⟩, k3.nil.trans (k5.mono (by simp))⟩
set_option maxHeartbeats 8000000 in
theorem does_JzYes (hS : S 33 = []) (hX : MH m b f hb hf wb wf M ws) {ra rb rc : Nat} (ha : ra < 16) (hb' : rb < 16) (hc : rc < 16) {n : Int} (hn : -9223372036854775808 ≤ n ∧ n ≤ 9223372036854775807) (hz : M.R.getD ra 0 = 0) (wish : Int) :
    ∃ v m1, callw Tryd.prog TT S 33 [.pointer (some ⟨b, 0, none⟩), .agg (icl (24, (ra : Int), (rb : Int), (rc : Int), n)).toArray, .pointer (some ⟨hb, 0, none⟩), .int .i64 wish] m = some (v, m1) ∧ (MaAt m1 b f { M with pc := n } ∧ HeapAt m1 hb hf wb wf (ws) 100) ∧ Keeps m m1 [f, wf] := by
  obtain ⟨hM, hH, hok, hwd, hle, n1, n2⟩ := hX
  obtain ⟨o3, k3, n3⟩ := new_own (m := m) (cs := icl (24, (ra : Int), (rb : Int), (rc : Int), n)) (e := 52) rfl
  have q0 := o3.load1 (off := 0) rfl
  have q1 := o3.load1 (off := 1) rfl
  have q2 := o3.load1 (off := 2) rfl
  have q3 := o3.load1 (off := 3) rfl
  have q4 := o3.load1 (off := 4) rfl
  have M3 := hM.keep k3 (by simp)
  have H3 := hH.keep k3 (by simp) (by simp)
  have hf1 := hM.flt
  have hf2 := hH.w.flt
  have wa := hok.wr.at_ ra
  have wb' := hok.wr.at_ rb
  have wc := hok.wr.at_ rc
  have la := M3.load1 (off := ra) (Ms.reg hok ha)
  have lb := M3.load1 (off := rb) (Ms.reg hok hb')
  have lc := M3.load1 (off := rc) (Ms.reg hok hc)
  generalize hva : M.R.getD ra 0 = va at *
  generalize hvb : M.R.getD rb 0 = vb at *
  generalize hvc : M.R.getD rc 0 = vc at *
  have ea : (ra : Int) ≤ 9223372036854775807 := by omega
  have eb : (rb : Int) ≤ 9223372036854775807 := by omega
  have ec : (rc : Int) ≤ 9223372036854775807 := by omega
  have wn : IntKind.i64.wrap n = n := wrap_i64 hn.1 hn.2
  obtain ⟨m5, e5, o5, k5⟩ := store_own (r := _) rfl M3 (off := 416) (vs := [.int .i64 n]) (by rw [Ms.len hok]; simp; try omega) (by simp [one_int])
  rw [Ms.opc hok] at o5
  have q1s := (o3.keep k5 (by simp; omega)).load1 (off := 1) rfl
  have q4s := (o3.keep k5 (by simp; omega)).load1 (off := 4) rfl
  refine fn_w 38 [50, 59, 68, 83, 92, 92, 106, 118, 130, 143, 157, 165, 174, 181, 184, 190, 193, 198, 209, 221] k33 hS rfl ?_
  simp [-Int.natCast_add, -BitVec.toNat_or, -BitVec.toNat_ofInt, -BitVec.toNat_and, box_of b52, fieldAddr_of fa52_1, load_of ld3, fieldAddr_of fa37_0, indexAddr_arr u34 sz33, load_of ld33, fieldAddr_of fa52_2, fieldAddr_of fa52_3, fieldAddr_of fa52_4, load_of ld2, conv_i u2 u33, fieldAddr_of fa52_0, store_of sz33, fieldAddr_of fa37_1, indexAddr_arr u35 sz33, conv_i u3 u33, fieldAddr_of fa37_2, store_of sz3, fieldAddr_of fa37_4, q0, q1, q2, q3, q4, la, lb, lc, ha, hb', hc, ea, eb, ec, wn, hz, e5, q1s, q4s]
  exact ⟨⟨o5, H3.keep k5 (by simpa using n1) (by simpa using n2)⟩, k3.nil.trans (k5.mono (by simp))⟩
set_option maxHeartbeats 8000000 in
theorem does_JzNo (hS : S 33 = []) (hX : MH m b f hb hf wb wf M ws) {ra rb rc : Nat} (ha : ra < 16) (hb' : rb < 16) (hc : rc < 16) {n : Int} (hn : -9223372036854775808 ≤ n ∧ n ≤ 9223372036854775807) (hz : ¬ M.R.getD ra 0 = 0) (wish : Int) :
    ∃ v m1, callw Tryd.prog TT S 33 [.pointer (some ⟨b, 0, none⟩), .agg (icl (24, (ra : Int), (rb : Int), (rc : Int), n)).toArray, .pointer (some ⟨hb, 0, none⟩), .int .i64 wish] m = some (v, m1) ∧ (MaAt m1 b f M ∧ HeapAt m1 hb hf wb wf (ws) 100) ∧ Keeps m m1 [f, wf] := by
  obtain ⟨hM, hH, hok, hwd, hle, n1, n2⟩ := hX
  obtain ⟨o3, k3, n3⟩ := new_own (m := m) (cs := icl (24, (ra : Int), (rb : Int), (rc : Int), n)) (e := 52) rfl
  have q0 := o3.load1 (off := 0) rfl
  have q1 := o3.load1 (off := 1) rfl
  have q2 := o3.load1 (off := 2) rfl
  have q3 := o3.load1 (off := 3) rfl
  have q4 := o3.load1 (off := 4) rfl
  have M3 := hM.keep k3 (by simp)
  have H3 := hH.keep k3 (by simp) (by simp)
  have hf1 := hM.flt
  have hf2 := hH.w.flt
  have wa := hok.wr.at_ ra
  have wb' := hok.wr.at_ rb
  have wc := hok.wr.at_ rc
  have la := M3.load1 (off := ra) (Ms.reg hok ha)
  have lb := M3.load1 (off := rb) (Ms.reg hok hb')
  have lc := M3.load1 (off := rc) (Ms.reg hok hc)
  generalize hva : M.R.getD ra 0 = va at *
  generalize hvb : M.R.getD rb 0 = vb at *
  generalize hvc : M.R.getD rc 0 = vc at *
  have ea : (ra : Int) ≤ 9223372036854775807 := by omega
  have eb : (rb : Int) ≤ 9223372036854775807 := by omega
  have ec : (rc : Int) ≤ 9223372036854775807 := by omega
  refine fn_w 38 [50, 59, 68, 83, 92, 92, 106, 118, 130, 143, 157, 165, 174, 181, 184, 190, 193, 198, 209, 221] k33 hS rfl ?_
  simp [-Int.natCast_add, -BitVec.toNat_or, -BitVec.toNat_ofInt, -BitVec.toNat_and, box_of b52, fieldAddr_of fa52_1, load_of ld3, fieldAddr_of fa37_0, indexAddr_arr u34 sz33, load_of ld33, fieldAddr_of fa52_2, fieldAddr_of fa52_3, fieldAddr_of fa52_4, load_of ld2, conv_i u2 u33, fieldAddr_of fa52_0, store_of sz33, fieldAddr_of fa37_1, indexAddr_arr u35 sz33, conv_i u3 u33, fieldAddr_of fa37_2, store_of sz3, fieldAddr_of fa37_4, q0, q1, q2, q3, q4, la, lb, lc, ha, hb', hc, ea, eb, ec, hz]
  exact ⟨⟨M3, H3⟩, k3.nil⟩
set_option maxHeartbeats 8000000 in
theorem does_GuardYes (hS : S 33 = []) (hX : MH m b f hb hf wb wf M ws) {ra rb rc : Nat} (ha : ra < 16) (hb' : rb < 16) (hc : rc < 16) {n : Int} (hn : -9223372036854775808 ≤ n ∧ n ≤ 9223372036854775807) (hL : S 49 = []) (hz : M.R.getD ra 0 = 0) (wish : Int) :
    ∃ v m1, callw Tryd.prog TT S 33 [.pointer (some ⟨b, 0, none⟩), .agg (icl (25, (ra : Int), (rb : Int), (rc : Int), n)).toArray, .pointer (some ⟨hb, 0, none⟩), .int .i64 wish] m = some (v, m1) ∧ (MaAt m1 b f { M with state := 1, exit := n } ∧ HeapAt m1 hb hf wb wf (ws) 100) ∧ Keeps m m1 [f, wf] := by
  obtain ⟨hM, hH, hok, hwd, hle, n1, n2⟩ := hX
  obtain ⟨o3, k3, n3⟩ := new_own (m := m) (cs := icl (25, (ra : Int), (rb : Int), (rc : Int), n)) (e := 52) rfl
  have q0 := o3.load1 (off := 0) rfl
  have q1 := o3.load1 (off := 1) rfl
  have q2 := o3.load1 (off := 2) rfl
  have q3 := o3.load1 (off := 3) rfl
  have q4 := o3.load1 (off := 4) rfl
  have M3 := hM.keep k3 (by simp)
  have H3 := hH.keep k3 (by simp) (by simp)
  have hf1 := hM.flt
  have hf2 := hH.w.flt
  have wa := hok.wr.at_ ra
  have wb' := hok.wr.at_ rb
  have wc := hok.wr.at_ rc
  have la := M3.load1 (off := ra) (Ms.reg hok ha)
  have lb := M3.load1 (off := rb) (Ms.reg hok hb')
  have lc := M3.load1 (off := rc) (Ms.reg hok hc)
  generalize hva : M.R.getD ra 0 = va at *
  generalize hvb : M.R.getD rb 0 = vb at *
  generalize hvc : M.R.getD rc 0 = vc at *
  have ea : (ra : Int) ≤ 9223372036854775807 := by omega
  have eb : (rb : Int) ≤ 9223372036854775807 := by omega
  have ec : (rc : Int) ≤ 9223372036854775807 := by omega
  have wn : IntKind.i64.wrap n = n := wrap_i64 hn.1 hn.2
  obtain ⟨ml, cl, ol, kl⟩ := left_run hL M3 hok hn
  have q4s := (o3.keep kl (by simp; omega)).load1 (off := 4) rfl
  refine fn_w 38 [50, 59, 68, 83, 92, 92, 106, 118, 130, 143, 157, 165, 174, 181, 184, 190, 193, 198, 209, 221] k33 hS rfl ?_
  simp [-Int.natCast_add, -BitVec.toNat_or, -BitVec.toNat_ofInt, -BitVec.toNat_and, box_of b52, fieldAddr_of fa52_1, load_of ld3, fieldAddr_of fa37_0, indexAddr_arr u34 sz33, load_of ld33, fieldAddr_of fa52_2, fieldAddr_of fa52_3, fieldAddr_of fa52_4, load_of ld2, conv_i u2 u33, fieldAddr_of fa52_0, store_of sz33, fieldAddr_of fa37_1, indexAddr_arr u35 sz33, conv_i u3 u33, fieldAddr_of fa37_2, store_of sz3, fieldAddr_of fa37_4, q0, q1, q2, q3, q4, la, lb, lc, ha, hb', hc, ea, eb, ec, hz, cl]
  exact ⟨⟨ol, H3.keep kl (by simpa using n1) (by simpa using n2)⟩, k3.nil.trans (kl.mono (by simp))⟩
set_option maxHeartbeats 8000000 in
theorem does_GuardNo (hS : S 33 = []) (hX : MH m b f hb hf wb wf M ws) {ra rb rc : Nat} (ha : ra < 16) (hb' : rb < 16) (hc : rc < 16) {n : Int} (hn : -9223372036854775808 ≤ n ∧ n ≤ 9223372036854775807) (hz : ¬ M.R.getD ra 0 = 0) (wish : Int) :
    ∃ v m1, callw Tryd.prog TT S 33 [.pointer (some ⟨b, 0, none⟩), .agg (icl (25, (ra : Int), (rb : Int), (rc : Int), n)).toArray, .pointer (some ⟨hb, 0, none⟩), .int .i64 wish] m = some (v, m1) ∧ (MaAt m1 b f M ∧ HeapAt m1 hb hf wb wf (ws) 100) ∧ Keeps m m1 [f, wf] := by
  obtain ⟨hM, hH, hok, hwd, hle, n1, n2⟩ := hX
  obtain ⟨o3, k3, n3⟩ := new_own (m := m) (cs := icl (25, (ra : Int), (rb : Int), (rc : Int), n)) (e := 52) rfl
  have q0 := o3.load1 (off := 0) rfl
  have q1 := o3.load1 (off := 1) rfl
  have q2 := o3.load1 (off := 2) rfl
  have q3 := o3.load1 (off := 3) rfl
  have q4 := o3.load1 (off := 4) rfl
  have M3 := hM.keep k3 (by simp)
  have H3 := hH.keep k3 (by simp) (by simp)
  have hf1 := hM.flt
  have hf2 := hH.w.flt
  have wa := hok.wr.at_ ra
  have wb' := hok.wr.at_ rb
  have wc := hok.wr.at_ rc
  have la := M3.load1 (off := ra) (Ms.reg hok ha)
  have lb := M3.load1 (off := rb) (Ms.reg hok hb')
  have lc := M3.load1 (off := rc) (Ms.reg hok hc)
  generalize hva : M.R.getD ra 0 = va at *
  generalize hvb : M.R.getD rb 0 = vb at *
  generalize hvc : M.R.getD rc 0 = vc at *
  have ea : (ra : Int) ≤ 9223372036854775807 := by omega
  have eb : (rb : Int) ≤ 9223372036854775807 := by omega
  have ec : (rc : Int) ≤ 9223372036854775807 := by omega
  refine fn_w 38 [50, 59, 68, 83, 92, 92, 106, 118, 130, 143, 157, 165, 174, 181, 184, 190, 193, 198, 209, 221] k33 hS rfl ?_
  simp [-Int.natCast_add, -BitVec.toNat_or, -BitVec.toNat_ofInt, -BitVec.toNat_and, box_of b52, fieldAddr_of fa52_1, load_of ld3, fieldAddr_of fa37_0, indexAddr_arr u34 sz33, load_of ld33, fieldAddr_of fa52_2, fieldAddr_of fa52_3, fieldAddr_of fa52_4, load_of ld2, conv_i u2 u33, fieldAddr_of fa52_0, store_of sz33, fieldAddr_of fa37_1, indexAddr_arr u35 sz33, conv_i u3 u33, fieldAddr_of fa37_2, store_of sz3, fieldAddr_of fa37_4, q0, q1, q2, q3, q4, la, lb, lc, ha, hb', hc, ea, eb, ec, hz]
  exact ⟨⟨M3, H3⟩, k3.nil⟩
set_option maxHeartbeats 8000000 in
theorem does_Leave (hS : S 33 = []) (hX : MH m b f hb hf wb wf M ws) {ra rb rc : Nat} (ha : ra < 16) (hb' : rb < 16) (hc : rc < 16) {n : Int} (hn : -9223372036854775808 ≤ n ∧ n ≤ 9223372036854775807) (hL : S 49 = []) (wish : Int) :
    ∃ v m1, callw Tryd.prog TT S 33 [.pointer (some ⟨b, 0, none⟩), .agg (icl (27, (ra : Int), (rb : Int), (rc : Int), n)).toArray, .pointer (some ⟨hb, 0, none⟩), .int .i64 wish] m = some (v, m1) ∧ (MaAt m1 b f { M with state := 1, exit := n } ∧ HeapAt m1 hb hf wb wf (ws) 100) ∧ Keeps m m1 [f, wf] := by
  obtain ⟨hM, hH, hok, hwd, hle, n1, n2⟩ := hX
  obtain ⟨o3, k3, n3⟩ := new_own (m := m) (cs := icl (27, (ra : Int), (rb : Int), (rc : Int), n)) (e := 52) rfl
  have q0 := o3.load1 (off := 0) rfl
  have q1 := o3.load1 (off := 1) rfl
  have q2 := o3.load1 (off := 2) rfl
  have q3 := o3.load1 (off := 3) rfl
  have q4 := o3.load1 (off := 4) rfl
  have M3 := hM.keep k3 (by simp)
  have H3 := hH.keep k3 (by simp) (by simp)
  have hf1 := hM.flt
  have hf2 := hH.w.flt
  have wa := hok.wr.at_ ra
  have wb' := hok.wr.at_ rb
  have wc := hok.wr.at_ rc
  have la := M3.load1 (off := ra) (Ms.reg hok ha)
  have lb := M3.load1 (off := rb) (Ms.reg hok hb')
  have lc := M3.load1 (off := rc) (Ms.reg hok hc)
  generalize hva : M.R.getD ra 0 = va at *
  generalize hvb : M.R.getD rb 0 = vb at *
  generalize hvc : M.R.getD rc 0 = vc at *
  have ea : (ra : Int) ≤ 9223372036854775807 := by omega
  have eb : (rb : Int) ≤ 9223372036854775807 := by omega
  have ec : (rc : Int) ≤ 9223372036854775807 := by omega
  have wn : IntKind.i64.wrap n = n := wrap_i64 hn.1 hn.2
  obtain ⟨ml, cl, ol, kl⟩ := left_run hL M3 hok hn
  have q4s := (o3.keep kl (by simp; omega)).load1 (off := 4) rfl
  refine fn_w 38 [50, 59, 68, 83, 92, 92, 106, 118, 130, 143, 157, 165, 174, 181, 184, 190, 193, 198, 209, 221] k33 hS rfl ?_
  simp [-Int.natCast_add, -BitVec.toNat_or, -BitVec.toNat_ofInt, -BitVec.toNat_and, box_of b52, fieldAddr_of fa52_1, load_of ld3, fieldAddr_of fa37_0, indexAddr_arr u34 sz33, load_of ld33, fieldAddr_of fa52_2, fieldAddr_of fa52_3, fieldAddr_of fa52_4, load_of ld2, conv_i u2 u33, fieldAddr_of fa52_0, store_of sz33, fieldAddr_of fa37_1, indexAddr_arr u35 sz33, conv_i u3 u33, fieldAddr_of fa37_2, store_of sz3, fieldAddr_of fa37_4, q0, q1, q2, q3, q4, la, lb, lc, ha, hb', hc, ea, eb, ec, cl]
  exact ⟨⟨ol, H3.keep kl (by simpa using n1) (by simpa using n2)⟩, k3.nil.trans (kl.mono (by simp))⟩
set_option maxHeartbeats 8000000 in
theorem does_PollYes (hS : S 33 = []) (hX : MH m b f hb hf wb wf M ws) {ra rb rc : Nat} (ha : ra < 16) (hb' : rb < 16) (hc : rc < 16) {n : Int} (hn : -9223372036854775808 ≤ n ∧ n ≤ 9223372036854775807) (hL : S 49 = []) {wish : Int} (hz : 0 ≤ wish ∧ M.polls = wish)  :
    ∃ v m1, callw Tryd.prog TT S 33 [.pointer (some ⟨b, 0, none⟩), .agg (icl (26, (ra : Int), (rb : Int), (rc : Int), n)).toArray, .pointer (some ⟨hb, 0, none⟩), .int .i64 wish] m = some (v, m1) ∧ (MaAt m1 b f { M with state := 1, exit := n } ∧ HeapAt m1 hb hf wb wf (ws) 100) ∧ Keeps m m1 [f, wf] := by
  obtain ⟨hM, hH, hok, hwd, hle, n1, n2⟩ := hX
  obtain ⟨o3, k3, n3⟩ := new_own (m := m) (cs := icl (26, (ra : Int), (rb : Int), (rc : Int), n)) (e := 52) rfl
  have q0 := o3.load1 (off := 0) rfl
  have q1 := o3.load1 (off := 1) rfl
  have q2 := o3.load1 (off := 2) rfl
  have q3 := o3.load1 (off := 3) rfl
  have q4 := o3.load1 (off := 4) rfl
  have M3 := hM.keep k3 (by simp)
  have H3 := hH.keep k3 (by simp) (by simp)
  have hf1 := hM.flt
  have hf2 := hH.w.flt
  have wa := hok.wr.at_ ra
  have wb' := hok.wr.at_ rb
  have wc := hok.wr.at_ rc
  have la := M3.load1 (off := ra) (Ms.reg hok ha)
  have lb := M3.load1 (off := rb) (Ms.reg hok hb')
  have lc := M3.load1 (off := rc) (Ms.reg hok hc)
  generalize hva : M.R.getD ra 0 = va at *
  generalize hvb : M.R.getD rb 0 = vb at *
  generalize hvc : M.R.getD rc 0 = vc at *
  have ea : (ra : Int) ≤ 9223372036854775807 := by omega
  have eb : (rb : Int) ≤ 9223372036854775807 := by omega
  have ec : (rc : Int) ≤ 9223372036854775807 := by omega
  have lp := M3.load1 (off := 418) (v := .int .i64 M.polls) (Ms.scal hok 2)
  obtain ⟨z1, z2⟩ := hz
  have wn : IntKind.i64.wrap n = n := wrap_i64 hn.1 hn.2
  obtain ⟨ml, cl, ol, kl⟩ := left_run hL M3 hok hn
  have q4s := (o3.keep kl (by simp; omega)).load1 (off := 4) rfl
  refine fn_w 38 [50, 59, 68, 83, 92, 92, 106, 118, 130, 143, 157, 165, 174, 181, 184, 190, 193, 198, 209, 221] k33 hS rfl ?_
  simp [-Int.natCast_add, -BitVec.toNat_or, -BitVec.toNat_ofInt, -BitVec.toNat_and, box_of b52, fieldAddr_of fa52_1, load_of ld3, fieldAddr_of fa37_0, indexAddr_arr u34 sz33, load_of ld33, fieldAddr_of fa52_2, fieldAddr_of fa52_3, fieldAddr_of fa52_4, load_of ld2, conv_i u2 u33, fieldAddr_of fa52_0, store_of sz33, fieldAddr_of fa37_1, indexAddr_arr u35 sz33, conv_i u3 u33, fieldAddr_of fa37_2, store_of sz3, fieldAddr_of fa37_4, q0, q1, q2, q3, q4, la, lb, lc, ha, hb', hc, ea, eb, ec, lp, z1, z2, cl]
  exact ⟨⟨(by simpa [z2] using ol), H3.keep kl (by simpa using n1) (by simpa using n2)⟩, k3.nil.trans (kl.mono (by simp))⟩
set_option maxHeartbeats 8000000 in
theorem does_PollNo (hS : S 33 = []) (hX : MH m b f hb hf wb wf M ws) {ra rb rc : Nat} (ha : ra < 16) (hb' : rb < 16) (hc : rc < 16) {n : Int} (hn : -9223372036854775808 ≤ n ∧ n ≤ 9223372036854775807) {wish : Int} (hp : -9223372036854775808 ≤ M.polls + 1 ∧ M.polls + 1 ≤ 9223372036854775807) (hz : ¬ (0 ≤ wish ∧ M.polls = wish))  :
    ∃ v m1, callw Tryd.prog TT S 33 [.pointer (some ⟨b, 0, none⟩), .agg (icl (26, (ra : Int), (rb : Int), (rc : Int), n)).toArray, .pointer (some ⟨hb, 0, none⟩), .int .i64 wish] m = some (v, m1) ∧ (MaAt m1 b f { M with polls := M.polls + 1 } ∧ HeapAt m1 hb hf wb wf (ws) 100) ∧ Keeps m m1 [f, wf] := by
  obtain ⟨hM, hH, hok, hwd, hle, n1, n2⟩ := hX
  obtain ⟨o3, k3, n3⟩ := new_own (m := m) (cs := icl (26, (ra : Int), (rb : Int), (rc : Int), n)) (e := 52) rfl
  have q0 := o3.load1 (off := 0) rfl
  have q1 := o3.load1 (off := 1) rfl
  have q2 := o3.load1 (off := 2) rfl
  have q3 := o3.load1 (off := 3) rfl
  have q4 := o3.load1 (off := 4) rfl
  have M3 := hM.keep k3 (by simp)
  have H3 := hH.keep k3 (by simp) (by simp)
  have hf1 := hM.flt
  have hf2 := hH.w.flt
  have wa := hok.wr.at_ ra
  have wb' := hok.wr.at_ rb
  have wc := hok.wr.at_ rc
  have la := M3.load1 (off := ra) (Ms.reg hok ha)
  have lb := M3.load1 (off := rb) (Ms.reg hok hb')
  have lc := M3.load1 (off := rc) (Ms.reg hok hc)
  generalize hva : M.R.getD ra 0 = va at *
  generalize hvb : M.R.getD rb 0 = vb at *
  generalize hvc : M.R.getD rc 0 = vc at *
  have ea : (ra : Int) ≤ 9223372036854775807 := by omega
  have eb : (rb : Int) ≤ 9223372036854775807 := by omega
  have ec : (rc : Int) ≤ 9223372036854775807 := by omega
  have lp := M3.load1 (off := 418) (v := .int .i64 M.polls) (Ms.scal hok 2)
  have wp : IntKind.i64.wrap (M.polls + 1) = M.polls + 1 := wrap_i64 hp.1 hp.2
  obtain ⟨m5, e5, o5, k5⟩ := store_own (r := _) rfl M3 (off := 418) (vs := [.int .i64 (M.polls + 1)]) (by rw [Ms.len hok]; simp; try omega) (by simp [one_int])
  rw [Ms.opolls hok] at o5
  have q1s := (o3.keep k5 (by simp; omega)).load1 (off := 1) rfl
  have q4s := (o3.keep k5 (by simp; omega)).load1 (off := 4) rfl
  by_cases z1 : 0 ≤ wish
  · have z2 : ¬ M.polls = wish := fun e => hz ⟨z1, e⟩
    refine fn_w 38 [50, 59, 68, 83, 92, 92, 106, 118, 130, 143, 157, 165, 174, 181, 184, 190, 193, 198, 209, 221] k33 hS rfl ?_
    simp [-Int.natCast_add, -BitVec.toNat_or, -BitVec.toNat_ofInt, -BitVec.toNat_and, box_of b52, fieldAddr_of fa52_1, load_of ld3, fieldAddr_of fa37_0, indexAddr_arr u34 sz33, load_of ld33, fieldAddr_of fa52_2, fieldAddr_of fa52_3, fieldAddr_of fa52_4, load_of ld2, conv_i u2 u33, fieldAddr_of fa52_0, store_of sz33, fieldAddr_of fa37_1, indexAddr_arr u35 sz33, conv_i u3 u33, fieldAddr_of fa37_2, store_of sz3, fieldAddr_of fa37_4, q0, q1, q2, q3, q4, la, lb, lc, ha, hb', hc, ea, eb, ec, lp, wp, z1, z2, e5, q1s, q4s]
    exact ⟨⟨o5, H3.keep k5 (by simpa using n1) (by simpa using n2)⟩, k3.nil.trans (k5.mono (by simp))⟩
  · refine fn_w 38 [50, 59, 68, 83, 92, 92, 106, 118, 130, 143, 157, 165, 174, 181, 184, 190, 193, 198, 209, 221] k33 hS rfl ?_
    simp [-Int.natCast_add, -BitVec.toNat_or, -BitVec.toNat_ofInt, -BitVec.toNat_and, box_of b52, fieldAddr_of fa52_1, load_of ld3, fieldAddr_of fa37_0, indexAddr_arr u34 sz33, load_of ld33, fieldAddr_of fa52_2, fieldAddr_of fa52_3, fieldAddr_of fa52_4, load_of ld2, conv_i u2 u33, fieldAddr_of fa52_0, store_of sz33, fieldAddr_of fa37_1, indexAddr_arr u35 sz33, conv_i u3 u33, fieldAddr_of fa37_2, store_of sz3, fieldAddr_of fa37_4, q0, q1, q2, q3, q4, la, lb, lc, ha, hb', hc, ea, eb, ec, lp, wp, z1, e5, q1s, q4s]
    exact ⟨⟨o5, H3.keep k5 (by simpa using n1) (by simpa using n2)⟩, k3.nil.trans (k5.mono (by simp))⟩
end Go.Proofs.YtkcehgajpalgnaaDoor.base

