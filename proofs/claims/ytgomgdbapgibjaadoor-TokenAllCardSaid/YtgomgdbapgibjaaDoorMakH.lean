/-
  This text proves that the maker's Text gives some text over the abstract run.
  Condition: nothing is known of its calls ahead ('S f = []').
-/
import Derived.Test.YtgomgdbapgibjaaDoorMakG
set_option maxRecDepth 100000
set_option linter.unusedSimpArgs false
set_option linter.unusedVariables false
namespace Go.Proofs.YtgomgdbapgibjaaDoor.base
open Go.Sh gen
variable {S : Sums} {m : Mem}
structure Zt (m0 : Mem) (b g : Nat) (m : Mem) : Prop where
  h : ∃ υ, Mk m b υ ∧ υ.out.length ≤ g ∧ υ.loops = 0
  k : Keeps m0 m [b]
theorem Zt.new {m0 m : Mem} {b g : Nat} (h : Zt m0 b g m) (cs : List Value) (e : TypeId) : Zt m0 b g (m.new cs e) := by
  obtain ⟨υ, h1, h2, h3⟩ := h.h
  exact ⟨⟨υ, h1.keep (keeps_new _ _ _ _), h2, h3⟩, h.k.trans (keeps_new _ _ _ _)⟩
theorem Zt.lt {m0 m : Mem} {b g : Nat} (h : Zt m0 b g m) : b < m.next := by
  obtain ⟨υ, h1, h2, h3⟩ := h.h
  exact h1.own.flt
theorem Zt.next {m0 m : Mem} {b g : Nat} (hN : Nm S) (h : Zt m0 b g m) (k : Nat) (K : Int) (hK : K = k) (hk : 0 < k) (hk2 : k < 1000000) :
    ∃ (y : Nat) (m1 : Mem), callw Tryd.prog TT S 22 [.pointer (some ⟨b, 0, none⟩), .int .i64 K] m = some (.int .i64 y, m1) ∧ y < k ∧ Zt m0 b g m1 := by
  obtain ⟨υ, h1, h2, h3⟩ := h.h
  obtain ⟨v1, m1, c1, y, a2, rfl, hy, h4, k1⟩ := mnext_run hN h1 k K hK hk hk2
  exact ⟨y, m1, c1, hy, ⟨_, h4, h2, h3⟩, h.k.trans k1⟩
theorem Zt.fn {m0 m : Mem} {b g : Nat} (hN : Nm S) (h : Zt m0 b g m) (hd : List UInt8) (hhd : hd.length ≤ 100) {pa ta : Option Addr} (ps : List (List UInt8)) (ts : List Nat) {pf tf k : Nat} (hp : Rs m pa ps.length (strC ps) 9 1 pf) (ht : Rs m ta ts.length (ts.map fun n : Nat => Value.int .i64 n) 3 1 tf)
    (hpl : ps.length = k) (htl : ts.length = k) (h8 : ∀ s ∈ ps, s.length ≤ 8) (h6 : ∀ t ∈ ts, t < 6) (h3 : k ≤ 2) (hpf : pf ≠ b ∧ pf < m.next) (htf : tf ≠ b ∧ tf < m.next) (res : Int) (hres : res < 7) (d : Nat) (D : Int) (hD : D = d) (hd8 : d ≤ 3) (calls : Bool) (ho : g ≤ 500000000000) :
    ∃ v m1, callw Tryd.prog TT S 21 [.pointer (some ⟨b, 0, none⟩), .string ⟨hd.toArray⟩, .slice pa k k, .slice ta k k, .int .i64 res, .int .i64 D, .bool calls] m = some (v, m1) ∧ Zt m0 b (g + 1000000000) m1 := by
  subst hD hpl
  obtain ⟨υ, h1, h2, h9⟩ := h.h
  obtain ⟨v, m1, c1, τ, g1, g2, g3, g4⟩ := mfn_run hN h1 hd hhd hp ht htl.symm h8 h6 h3 hpf htf res hres d hd8 calls (by omega) h9
  rw [htl] at c1
  exact ⟨v, m1, c1, ⟨τ, g1, by omega, g4⟩, h.k.trans g3⟩
theorem Zt.two {m0 m m2 : Mem} {b g k : Nat} (hN : Nm S) (h : Zt m0 b g m) (hd : List UInt8) (hhd : hd.length ≤ 100) (ps : List (List UInt8)) (ts : List Nat)
    (hpl : ps.length = k) (htl : ts.length = k) (h8 : ∀ s ∈ ps, s.length ≤ 8) (h6 : ∀ t ∈ ts, t < 6) (h3 : k ≤ 2) (k2 : Keeps ((m.new (strC ps) 9).new (ts.map fun n : Nat => Value.int .i64 n) 3) m2 [b]) (h2 : Zt m0 b g m2) (res : Int) (hres : res < 7) (d : Nat) (D : Int) (hD : D = d) (hd8 : d ≤ 3) (calls : Bool) (ho : g ≤ 500000000000) :
    ∃ v m1, callw Tryd.prog TT S 21 [.pointer (some ⟨b, 0, none⟩), .string ⟨hd.toArray⟩, .slice (some ⟨m.next, 0, none⟩) k k, .slice (some ⟨(m.new (strC ps) 9).next, 0, none⟩) k k, .int .i64 res, .int .i64 D, .bool calls] m2 = some (v, m1) ∧ Zt m0 b (g + 1000000000) m1 := by
  have hlt := h.lt
  obtain ⟨oA, kA, nA⟩ := new_own (m := m) (cs := strC ps) (e := 9) rfl
  generalize m.new (strC ps) _ = mA at *
  obtain ⟨oB, kB, nB⟩ := new_own (m := mA) (cs := ts.map fun n : Nat => Value.int .i64 n) (e := 3) rfl
  generalize mA.new _ _ = mB at *
  have oA2 := (oA.keep kB (by simp)).keep k2 (by simp; omega)
  have oB2 := oB.keep k2 (by simp; omega)
  exact h2.fn hN hd hhd ps ts ⟨by simp [strC], Or.inr ⟨_, rfl, oA2.rdo⟩⟩ ⟨by simp, Or.inr ⟨_, rfl, oB2.rdo⟩⟩ hpl htl h8 h6 h3 ⟨by omega, oA2.flt⟩ ⟨by omega, oB2.flt⟩ res hres d D hD hd8 calls ho
theorem Zt.two0 {m0 m : Mem} {b g k : Nat} (hN : Nm S) (h : Zt m0 b g m) (hd : List UInt8) (hhd : hd.length ≤ 100) (ps : List (List UInt8)) (ts : List Nat)
    (hpl : ps.length = k) (htl : ts.length = k) (h8 : ∀ s ∈ ps, s.length ≤ 8) (h6 : ∀ t ∈ ts, t < 6) (h3 : k ≤ 2) (res : Int) (hres : res < 7) (d : Nat) (D : Int) (hD : D = d) (hd8 : d ≤ 3) (calls : Bool) (ho : g ≤ 500000000000) :
    ∃ v m1, callw Tryd.prog TT S 21 [.pointer (some ⟨b, 0, none⟩), .string ⟨hd.toArray⟩, .slice (some ⟨m.next, 0, none⟩) k k, .slice (some ⟨(m.new (strC ps) 9).next, 0, none⟩) k k, .int .i64 res, .int .i64 D, .bool calls] ((m.new (strC ps) 9).new (ts.map fun n : Nat => Value.int .i64 n) 3) = some (v, m1) ∧ Zt m0 b (g + 1000000000) m1 :=
  h.two hN hd hhd ps ts hpl htl h8 h6 h3 (Keeps.refl _ _) ((h.new _ _).new _ _) res hres d D hD hd8 calls ho
theorem Zt.two1 {m0 m : Mem} {b g k : Nat} (hN : Nm S) (h : Zt m0 b g m) (hd : List UInt8) (hhd : hd.length ≤ 100) (ps : List (List UInt8)) (ts : List Nat) (q : Nat) (Q : Int) (hQ : Q = q) (hq : 0 < q) (hq2 : q < 1000000)
    (hpl : ps.length = k) (htl : ts.length = k) (h8 : ∀ s ∈ ps, s.length ≤ 8) (h6 : ∀ t ∈ ts, t < 6) (h3 : k ≤ 2) (res : Int) (hres : res < 7) (d : Nat) (D : Int) (hD : D = d) (hd8 : d ≤ 3) (ho : g ≤ 500000000000) :
    ∃ (y : Nat) (m2 : Mem), callw Tryd.prog TT S 22 [.pointer (some ⟨b, 0, none⟩), .int .i64 Q] ((m.new (strC ps) 9).new (ts.map fun n : Nat => Value.int .i64 n) 3) = some (.int .i64 y, m2) ∧
    ∃ v m1, callw Tryd.prog TT S 21 [.pointer (some ⟨b, 0, none⟩), .string ⟨hd.toArray⟩, .slice (some ⟨m.next, 0, none⟩) k k, .slice (some ⟨(m.new (strC ps) 9).next, 0, none⟩) k k, .int .i64 res, .int .i64 D, .bool (decide (y = 0))] m2 = some (v, m1) ∧ Zt m0 b (g + 1000000000) m1 := by
  obtain ⟨υ, h1, h2, h9⟩ := ((h.new (strC ps) 9).new (ts.map fun n : Nat => Value.int .i64 n) 3).h
  obtain ⟨v1, m2, c1, y, a2, rfl, hy, h4, k1⟩ := mnext_run hN h1 q Q hQ hq hq2
  exact ⟨y, m2, c1, h.two hN hd hhd ps ts hpl htl h8 h6 h3 k1 ⟨⟨_, h4, h2, h9⟩, ((h.new _ _).new _ _).k.trans k1⟩ res hres d D hD hd8 _ ho⟩
theorem mtext_run (hN : Nm S) {ra : Option Addr} {raw : List Int} {rf : Nat} (hr : Rs m ra raw.length (raw.flatMap fun n : Int => [Value.int .i64 n]) 3 1 rf) (hrf : rf < m.next) (hl : raw.length ≤ 9223372036854775807) :
    ∃ v m1, callw Tryd.prog TT S 12 [.slice ra raw.length raw.length] m = some (v, m1) ∧ (∃ s : List UInt8, v = .string ⟨s.toArray⟩ ∧ s.length ≤ 1000000000000) ∧ Keeps m m1 [] := by
  refine fn_w 4 [] k12 hN.text rfl ?_
  have hz : zerosOf Tryd.prog 48 7 = some (List.replicate 7 (.slice none 0 0)) := zeros_one (by kernel_rfl : zOk Tryd.prog 48 24 (.slice none 0 0) = true) rfl rfl (by omega)
  simp (disch := first | omega | (simp only [List.length_append, List.length_cons, List.length_nil]; omega) | rfl) [-Int.natCast_add, -strOp, add_short, fold_k, fold_0, -w12_2, make_of u43 ap48, build_of bo45, box_of b45, fieldAddr_of fa45_6, load_of ld9, bin_str u9 .add (Or.inl rfl), store_of sz9, buildSlice_of u48 bs9 rfl, buildSlice_of u22 bs3 rfl, hz]
  obtain ⟨oA, kA, nA⟩ := new_own (m := m) (cs := [Value.slice none 0 0, Value.slice none 0 0, Value.slice none 0 0, Value.slice none 0 0, Value.slice none 0 0, Value.slice none 0 0, Value.slice none 0 0]) (e := 48) rfl
  generalize m.new _ _ = mA at *
  obtain ⟨oB, kB, nB⟩ := new_own (m := mA) (cs := [Value.slice ra raw.length raw.length, Value.int .i64 0, Value.slice (some ⟨m.next, 0, none⟩) 7 7, Value.int .i64 0, Value.int .i64 0, Value.int .i64 0, Value.string ⟨#[]⟩, Value.int .i64 (-1), Value.bool false]) (e := 45) rfl
  generalize mA.new _ _ = mB at *
  have hB : Mk mB mA.next ⟨raw, ra, rf, 0, m.next, m.next, [Value.slice none 0 0, Value.slice none 0 0, Value.slice none 0 0, Value.slice none 0 0, Value.slice none 0 0, Value.slice none 0 0, Value.slice none 0 0], 0, 0, 0, [], -1, false⟩ := by
    refine ⟨oB, oA.keep kB (by simp), rfl, ?_, by show m.next ≠ mA.next; omega, (hr.keep kA (by simp)).keep kB (by simp), hl, ⟨by show rf ≠ mA.next; omega, by show rf ≠ m.next; omega⟩, by show 0 ≤ raw.length; omega, by show 0 ≤ 30; omega, by show 0 ≤ 10; omega, by show rf < mB.next; omega⟩
    intro v hv
    have hv : v = .slice none 0 0 := by simpa using hv
    exact ⟨none, [], 0, hv, ⟨rfl, Or.inl rfl⟩, by simp, by simp, by simp, by simp⟩
  have kmB : Keeps m mB [] := kA.trans kB
  have hbm : m.next < mA.next := by omega
  generalize mA.next = b at *
  clear oA kA nA oB kB nB
  have fin : ∀ {mm : Mem}, Keeps mB mm [b] → Keeps m mm [] := fun k => kmB.fresh k (by simp; omega)
  obtain ⟨v1, m1, υ1, c1, q1, _⟩ := (Cu.refl hB).line hN 0 0 rfl (by omega) [116, 121, 112, 101, 32, 80, 32, 115, 116, 114, 117, 99, 116, 32, 123] (by simp) (by simp)
  simp [-Int.natCast_add, -strOp, fold_k, fold_0, -w12_3, make_of u43 ap48, build_of bo45, box_of b45, fieldAddr_of fa45_6, load_of ld9, bin_str u9 .add (Or.inl rfl), store_of sz9, buildSlice_of u48 bs9 rfl, buildSlice_of u22 bs3 rfl, c1]
  rw [w12_3]
  unfold L12_3
  dsimp only
  generalize hlit : List.append (α := UInt8) _ _ = lit
  have hll : lit.length ≤ 300 := by rw [← hlit]; decide
  clear hlit
  have ho1 : υ1.out.length ≤ 0 + 10000 := q1.out
  have a1 := add_short υ1.out lit (by omega)
  simp [-Int.natCast_add, -strOp, fold_k, fold_0, make_of u43 ap48, build_of bo45, box_of b45, fieldAddr_of fa45_6, load_of ld9, bin_str u9 .add (Or.inl rfl), store_of sz9, buildSlice_of u48 bs9 rfl, buildSlice_of u22 bs3 rfl, q1.m_.l.2.2.2.2.2.2.1, a1]
  generalize hrr : storeRow _ _ _ = rr
  obtain ⟨m2, rfl, o2, k2⟩ := store_own hrr q1.m_.own (by simp [Ms.cells]) (by simp [one_str])
  have h2 : Mk m2 b { υ1 with out := υ1.out ++ lit } := q1.m_.set k2 (by simpa [Ms.cells, over] using o2) rfl rfl rfl rfl rfl rfl q1.m_.at_ q1.m_.names q1.m_.loops (Nat.le_refl _)
  simp [-Int.natCast_add, -strOp, fold_k, fold_0, make_of u43 ap48, build_of bo45, box_of b45, fieldAddr_of fa45_6, load_of ld9, bin_str u9 .add (Or.inl rfl), store_of sz9, buildSlice_of u48 bs9 rfl, buildSlice_of u22 bs3 rfl]
  obtain ⟨v1', m1', c1', _, k1'⟩ := mline_run hN hB (n := 0) (by omega) [116, 121, 112, 101, 32, 80, 32, 115, 116, 114, 117, 99, 116, 32, 123] (by simp) (by simp)
  have e1 := c1.symm.trans c1'
  simp only [Option.some.injEq, Prod.mk.injEq] at e1
  rw [← e1.2] at k1'
  have z2 : Zt mB b 20000 m2 := ⟨⟨_, h2, by simp; omega, q1.loops⟩, k1'.trans k2⟩
  have zlt := z2.lt
  obtain ⟨v3, m3, c3, z3⟩ := z2.fn hN [102, 117, 110, 99, 32, 109, 97, 105, 110, 40, 41] (by simp) (pa := none) (ta := none) (pf := m.next) (tf := m.next) (k := 0) [] [] ⟨rfl, Or.inl rfl⟩ ⟨rfl, Or.inl rfl⟩ rfl rfl (by simp) (by simp) (by omega) ⟨by omega, by omega⟩ ⟨by omega, by omega⟩ (-1) (by omega) 3 3 rfl (by omega) true (by omega)
  simp [-Int.natCast_add, -strOp, fold_k, fold_0, make_of u43 ap48, build_of bo45, box_of b45, fieldAddr_of fa45_6, load_of ld9, bin_str u9 .add (Or.inl rfl), store_of sz9, buildSlice_of u48 bs9 rfl, buildSlice_of u22 bs3 rfl, c3]
  obtain ⟨y4, n4, d4, v4, m4, c4, z4⟩ := z3.two1 hN [102, 117, 110, 99, 32, 102, 40, 97, 32, 105, 110, 116, 44, 32, 98, 32, 105, 110, 116, 41, 32, 105, 110, 116] (by simp) [[97], [98]] [0, 0] 4 4 rfl (by omega) (by omega) (k := 2) rfl rfl (by simp) (by simp) (by omega) 0 (by omega) 2 2 rfl (by omega) (by omega)
  simp [strC] at d4 c4
  simp [-Int.natCast_add, -strOp, fold_k, fold_0, make_of u43 ap48, build_of bo45, box_of b45, fieldAddr_of fa45_6, load_of ld9, bin_str u9 .add (Or.inl rfl), store_of sz9, buildSlice_of u48 bs9 rfl, buildSlice_of u22 bs3 rfl, d4, c4]
  obtain ⟨y5, n5, d5, v5, m5, c5, z5⟩ := z4.two1 hN [102, 117, 110, 99, 32, 104, 40, 112, 32, 80, 41, 32, 80] (by simp) [[112]] [4] 6 6 rfl (by omega) (by omega) (k := 1) rfl rfl (by simp) (by simp) (by omega) 4 (by omega) 1 1 rfl (by omega) (by omega)
  simp [strC] at d5 c5
  simp [-Int.natCast_add, -strOp, fold_k, fold_0, make_of u43 ap48, build_of bo45, box_of b45, fieldAddr_of fa45_6, load_of ld9, bin_str u9 .add (Or.inl rfl), store_of sz9, buildSlice_of u48 bs9 rfl, buildSlice_of u22 bs3 rfl, d5, c5]
  obtain ⟨v6, m6, c6, z6⟩ := z5.two0 hN [102, 117, 110, 99, 32, 40, 112, 32, 80, 41, 32, 103, 101, 116, 40, 97, 32, 105, 110, 116, 41, 32, 105, 110, 116] (by simp) [[112], [97]] [4, 0] (k := 2) rfl rfl (by simp) (by simp) (by omega) 0 (by omega) 1 1 rfl (by omega) false (by omega)
  simp [strC] at c6
  simp [-Int.natCast_add, -strOp, fold_k, fold_0, make_of u43 ap48, build_of bo45, box_of b45, fieldAddr_of fa45_6, load_of ld9, bin_str u9 .add (Or.inl rfl), store_of sz9, buildSlice_of u48 bs9 rfl, buildSlice_of u22 bs3 rfl, c6]
  obtain ⟨v7, m7, c7, z7⟩ := z6.two0 hN [102, 117, 110, 99, 32, 40, 112, 32, 80, 41, 32, 115, 101, 116, 40, 97, 32, 105, 110, 116, 41] (by simp) [[112], [97]] [4, 0] (k := 2) rfl rfl (by simp) (by simp) (by omega) (-1) (by omega) 1 1 rfl (by omega) false (by omega)
  simp [strC] at c7
  simp [-Int.natCast_add, -strOp, fold_k, fold_0, make_of u43 ap48, build_of bo45, box_of b45, fieldAddr_of fa45_6, load_of ld9, bin_str u9 .add (Or.inl rfl), store_of sz9, buildSlice_of u48 bs9 rfl, buildSlice_of u22 bs3 rfl, c7]
  obtain ⟨y8, n8, d8, v8, m8, c8, z8⟩ := z7.two1 hN [102, 117, 110, 99, 32, 40, 113, 32, 81, 41, 32, 103, 101, 116, 40, 97, 32, 105, 110, 116, 41, 32, 105, 110, 116] (by simp) [[113], [97]] [5, 0] 3 3 rfl (by omega) (by omega) (k := 2) rfl rfl (by simp) (by simp) (by omega) 0 (by omega) 1 1 rfl (by omega) (by omega)
  simp [strC] at d8 c8
  simp [-Int.natCast_add, -strOp, fold_k, fold_0, make_of u43 ap48, build_of bo45, box_of b45, fieldAddr_of fa45_6, load_of ld9, bin_str u9 .add (Or.inl rfl), store_of sz9, buildSlice_of u48 bs9 rfl, buildSlice_of u22 bs3 rfl, d8, c8]
  obtain ⟨v9, m9, c9, z9⟩ := z8.two0 hN [102, 117, 110, 99, 32, 40, 113, 32, 81, 41, 32, 115, 101, 116, 40, 97, 32, 105, 110, 116, 41] (by simp) [[113], [97]] [5, 0] (k := 2) rfl rfl (by simp) (by simp) (by omega) (-1) (by omega) 1 1 rfl (by omega) false (by omega)
  simp [strC] at c9
  obtain ⟨υ9, h9, o9, _⟩ := z9.h
  simp [-Int.natCast_add, -strOp, fold_k, fold_0, make_of u43 ap48, build_of bo45, box_of b45, fieldAddr_of fa45_6, load_of ld9, bin_str u9 .add (Or.inl rfl), store_of sz9, buildSlice_of u48 bs9 rfl, buildSlice_of u22 bs3 rfl, c9, h9.l.2.2.2.2.2.2.1]
  exact ⟨by omega, fin z9.k⟩
end Go.Proofs.YtgomgdbapgibjaaDoor.base

