/-
  This text proves eval's machine's smaller parts, over the abstract run: leaves, tired, params.
  Condition: nothing is known of the calls ahead ('S f = []').
-/
import Derived.Test.YtlogdohlcdhepaaDoorEvN
set_option maxRecDepth 100000
set_option linter.unusedSimpArgs false
set_option linter.unusedVariables false
namespace Go.Proofs.YtlogdohlcdhepaaDoor.base
open Go.Sh gen
variable {S : Sums} {m : Mem}
theorem ev_wish {Q : Nat → Prop} {u : UnT.D} {K : Kv} {V : Vv} (h : Ev Q m u K V) (v : Int) :
    ∃ m1, storeRow m ⟨K.x, 7, none⟩ [.int .i64 v] = some m1 ∧ Ev Q m1 u K { V with wish := v } ∧ Keeps m m1 [K.f] := by
  obtain ⟨m1, e1, o1, k1⟩ := store_own (r := _) rfl h.own (off := 7) (vs := [.int .i64 v]) (by simp) (by simp [one_int])
  have nd := h.nd
  refine ⟨m1, e1, ⟨by simpa [over] using o1, h.wds.keep k1 (by simpa using fun e => nd.1 e.symm), h.len, h.wd, h.hwd, h.hl, h.heap.keep k1 (by simpa using fun e => nd.2.1 e.symm) (by simpa using fun e => nd.2.2.1 e.symm), h.unit.keep k1 (by simpa using h.nq.1), h.nq, nd⟩, k1⟩
theorem ev_steps {Q : Nat → Prop} {u : UnT.D} {K : Kv} {V : Vv} (h : Ev Q m u K V) (v : Int) :
    ∃ m1, storeRow m ⟨K.x, 8, none⟩ [.int .i64 v] = some m1 ∧ Ev Q m1 u K { V with steps := v } ∧ Keeps m m1 [K.f] := by
  obtain ⟨m1, e1, o1, k1⟩ := store_own (r := _) rfl h.own (off := 8) (vs := [.int .i64 v]) (by simp) (by simp [one_int])
  have nd := h.nd
  refine ⟨m1, e1, ⟨by simpa [over] using o1, h.wds.keep k1 (by simpa using fun e => nd.1 e.symm), h.len, h.wd, h.hwd, h.hl, h.heap.keep k1 (by simpa using fun e => nd.2.1 e.symm) (by simpa using fun e => nd.2.2.1 e.symm), h.unit.keep k1 (by simpa using h.nq.1), h.nq, nd⟩, k1⟩
theorem tired_run (hS : S 26 = []) {Q : Nat → Prop} {u : UnT.D} {K : Kv} {V : Vv} (h : Ev Q m u K V) :
    ∃ v m1, callw Tryd.prog TT S 26 [.pointer (some ⟨K.x, 0, none⟩)] m = some (v, m1) ∧ v = .agg #[.int .i64 0, .int .i64 (-1), .int .i64 (-1), .slice none 0 0, .int .i64 V.steps] ∧ Keeps m m1 [] := by
  obtain ⟨oZ, kZ, nZ⟩ := new_own (m := m) (cs := [.int .i64 0, .int .i64 0, .int .i64 0, .slice none 0 0, .int .i64 0]) (e := 28) rfl
  obtain ⟨bx, hbx⟩ : ∃ bx, m.next = bx := ⟨_, rfl⟩
  have l8 := (h.keep0 kZ).own.load1 (off := 8) rfl
  obtain ⟨m3, e3, oX, kX⟩ := store_own (r := _) rfl oZ (off := 0) (vs := [.int .i64 0, .int .i64 (-1), .int .i64 (-1), .slice none 0 0, .int .i64 V.steps]) (by simp) (by simp [one_int, one_slice])
  simp [over] at oX
  have k3 := kZ.fresh kX (by simp)
  rw [hbx] at oX nZ e3
  have lX := oX.load (off := 0) 5 (by simp)
  simp [window] at lX
  refine fn_w 3 [] k26 hS rfl ?_
  simp [lres_agg ld28, alloc_of zo28, fieldAddr_of fa78_4, load_of ld3, build_of bo28, store_of sz28, l8, hbx, e3, lX]
  exact k3
def leavesB (x : ValT.D) (ws : List Int) (wish : Int) : Bool := if x.1 = 22 then decide (ws.getD (show Int from x.2.1).toNat 0 = 0) else if x.1 = 23 then decide (wish = 0) else false
def leavesW (x : ValT.D) (wish : Int) : Int := if x.1 = 23 ∧ 0 < wish then wish - 1 else wish
set_option maxHeartbeats 4000000 in
theorem leaves_run (hS : S 27 = []) {Q : Nat → Prop} {u : UnT.D} {K : Kv} {V : Vv} (h : Ev Q m u K V) (hnu : nv u ≤ 1000000) {i : Nat} (hi : i < nv u)
    (ha : (u.2.2.1[i]).1 = 22 → (0 : Int) ≤ (u.2.2.1[i]).2.1 ∧ (u.2.2.1[i]).2.1 < (nv u : Int)) (hw : -9223372036854775808 ≤ V.wish ∧ V.wish ≤ 9223372036854775807) :
    ∃ v m1, callw Tryd.prog TT S 27 [.pointer (some ⟨K.x, 0, none⟩), .int .i64 (i : Int)] m = some (v, m1) ∧ v = .bool (leavesB (u.2.2.1[i]) V.ws V.wish) ∧ Ev Q m1 u K { V with wish := leavesW (u.2.2.1[i]) V.wish } ∧ Keeps m m1 [K.f] := by
  obtain ⟨vb, ao, fa, hvo, ld, hra, hqa⟩ := val_at h.unit hi
  generalize u.2.2.1[i] = x at *
  have i4 : (i : Int) ≤ 9223372036854775807 := by omega
  have i1 : (i : Int) < (nv u : Int) := by omega
  have o2 := h.own.load1 (off := 2) rfl
  rw [hvo] at o2
  obtain ⟨oZ, kZ, nZ⟩ := new_own (m := m) (cs := [.int .i64 0, .int .i64 0, .int .i64 0, .int .i64 0, .slice none 0 0, .int .i64 0]) (e := 38) rfl
  obtain ⟨bx, hbx⟩ : ∃ bx, m.next = bx := ⟨_, rfl⟩
  obtain ⟨m3, e3, oX, kX⟩ := store_own (r := _) rfl oZ (off := 0) (vs := valC x ao) (by simp) (by simp [one_int, one_slice])
  simp [over] at oX
  have k3 := kZ.fresh kX (by simp)
  rw [hbx] at oX nZ e3
  have h3 := h.keep0 k3
  have k3f : Keeps m m3 [K.f] := k3.mono (by simp)
  have b0 := oX.load1 (off := 0) rfl
  have b1 := oX.load1 (off := 1) rfl
  have w6 := h3.own.load1 (off := 6) rfl
  have w7 := h3.own.load1 (off := 7) rfl
  obtain ⟨o, ho⟩ : ∃ o : Int, x.1 = o := ⟨_, rfl⟩
  obtain ⟨a, ha'⟩ : ∃ a : Int, x.2.1 = a := ⟨_, rfl⟩
  rw [ho] at b0
  rw [ha'] at b1
  have ha2 : o = 22 → (0 : Int) ≤ a ∧ a < (nv u : Int) := by rw [← ho, ← ha']; exact ha
  have eB : leavesB x V.ws V.wish = (if o = 22 then decide (V.ws.getD a.toNat 0 = 0) else if o = 23 then decide (V.wish = 0) else false) := by unfold leavesB; rw [ho]; rw [show (show Int from x.2.1) = a from ha']
  have eW : leavesW x V.wish = (if o = 23 ∧ 0 < V.wish then V.wish - 1 else V.wish) := by unfold leavesW; rw [ho]
  rw [eB, eW]
  have nL1 : (nv u : Int) ≤ 9223372036854775807 := by omega
  refine fn_w 16 [16, 27, 33, 38] k27 hS rfl ?_
  by_cases c22 : o = 22
  · obtain ⟨q1, q2⟩ := ha2 c22
    obtain ⟨n, rfl⟩ : ∃ n : Nat, a = (n : Int) := ⟨a.toNat, by omega⟩
    have q3 : n < nv u := by omega
    have q4 : (n : Int) ≤ 9223372036854775807 := by omega
    have lw := h3.wds.load1 (off := n) (words_at (by rw [h.len]; exact q3))
    simp [-Int.natCast_add, -List.getD_eq_getElem?_getD, fieldAddr_of fa78_0, fieldAddr_of fa34_2, load_of ld30, index_slice u30 sz38, load_agg ld38, alloc_of zo38, store_of sz38, fieldAddr_of fa38_0, load_of ld3, fieldAddr_of fa78_2, load_of ld42, fieldAddr_of fa38_1, index_slice u42 sz45, load_of ld45, o2, i4, hi, ld, hbx, e3, b0, b1, c22, w6, q3, q4, lw]
    exact ⟨h3, k3f⟩
  by_cases c23 : o = 23
  · by_cases z : V.wish = 0
    · simp [-Int.natCast_add, fieldAddr_of fa78_0, fieldAddr_of fa34_2, load_of ld30, index_slice u30 sz38, load_agg ld38, alloc_of zo38, store_of sz38, fieldAddr_of fa38_0, load_of ld3, fieldAddr_of fa78_3, o2, i4, hi, ld, hbx, e3, b0, c23, w7, z]
      rw [z] at w7
      exact ⟨by simpa [← z] using h3, k3f⟩
    · by_cases p : 0 < V.wish
      · obtain ⟨m4, e4, v4, k4⟩ := ev_wish h3 (V.wish - 1)
        have wr : IntKind.i64.wrap (V.wish - 1) = V.wish - 1 := wrap_i64 (by omega) (by omega)
        simp [-Int.natCast_add, fieldAddr_of fa78_0, fieldAddr_of fa34_2, load_of ld30, index_slice u30 sz38, load_agg ld38, alloc_of zo38, store_of sz38, fieldAddr_of fa38_0, load_of ld3, fieldAddr_of fa78_3, store_of sz3, o2, i4, hi, ld, hbx, e3, b0, c23, w7, z, p, wr, e4]
        exact ⟨v4, k3f.trans k4⟩
      · simp [-Int.natCast_add, fieldAddr_of fa78_0, fieldAddr_of fa34_2, load_of ld30, index_slice u30 sz38, load_agg ld38, alloc_of zo38, store_of sz38, fieldAddr_of fa38_0, load_of ld3, fieldAddr_of fa78_3, o2, i4, hi, ld, hbx, e3, b0, c23, w7, z, p]
        exact ⟨h3, k3f⟩
  simp [-Int.natCast_add, fieldAddr_of fa78_0, fieldAddr_of fa34_2, load_of ld30, index_slice u30 sz38, load_agg ld38, alloc_of zo38, store_of sz38, fieldAddr_of fa38_0, load_of ld3, o2, i4, hi, ld, hbx, e3, b0, c22, c23]
  exact ⟨h3, k3f⟩
end Go.Proofs.YtlogdohlcdhepaaDoor.base

