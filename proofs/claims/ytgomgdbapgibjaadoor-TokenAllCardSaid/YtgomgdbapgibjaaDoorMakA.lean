/-
  This text proves what the maker of programs' texts does over the abstract run, function by function: it gives some text, not too long (next, v, leaf, tabs, line, Digits).
  Condition: nothing is known of its calls ahead ('S f = []').
-/
import Derived.Test.YtgomgdbapgibjaaDoorGen2
import Derived.Test.YtgomgdbapgibjaaDoorTokW
set_option maxRecDepth 100000
set_option linter.unusedSimpArgs false
set_option linter.unusedVariables false
namespace Go.Proofs.YtgomgdbapgibjaaDoor.base
open Go.Sh gen
variable {S : Sums} {m : Mem}
theorem add_short (a b : List UInt8) (h : a.length + b.length ≤ 9223372036854775807) : strOp .add ⟨a.toArray⟩ ⟨b.toArray⟩ = some (.string ⟨(a ++ b).toArray⟩) := by
  simp only [strOp, sz_str, cat_str]
  rw [if_pos (by omega)]
theorem fold_k (k : Nat) (cs : Array Value) (v : Value) : Array.foldl (fun (cs : Array Value) (x : Value × Nat) => cs.setIfInBounds (k + x.snd) x.fst) cs #[(v, 0)] 0 1 = cs.setIfInBounds k v := rfl
theorem fold_0 (cs : Array Value) (v : Value) : Array.foldl (fun (cs : Array Value) (x : Value × Nat) => cs.setIfInBounds x.snd x.fst) cs #[(v, 0)] 0 1 = cs.setIfInBounds 0 v := rfl
structure Ms where
  raw : List Int
  ra : Option Addr
  rf : Nat
  at_ : Nat
  vb : Nat
  vf : Nat
  vs : List Value
  names : Nat
  loops : Nat
  size : Int
  out : List UInt8
  res : Int
  calls : Bool
def Ms.cells (σ : Ms) : List Value := [.slice σ.ra σ.raw.length σ.raw.length, .int .i64 σ.at_, .slice (some ⟨σ.vb, 0, none⟩) 7 7, .int .i64 σ.names, .int .i64 σ.loops, .int .i64 σ.size, .string ⟨σ.out.toArray⟩, .int .i64 σ.res, .bool σ.calls]
def strC (l : List (List UInt8)) : List Value := l.map fun s => .string ⟨s.toArray⟩
def VarV (m : Mem) (b vb names : Nat) (v : Value) : Prop := ∃ ao ss fam, v = .slice ao ss.length ss.length ∧ Rs m ao ss.length (strC ss) 9 1 fam ∧ (∀ s ∈ ss, s.length ≤ 8) ∧ ss.length ≤ names + 4 ∧ (ss.length ≠ 0 → fam ≠ b ∧ fam ≠ vb) ∧ (ss.length = 0 → ao = none)
structure Mk (m : Mem) (b : Nat) (σ : Ms) : Prop where
  own : Own m b σ.cells 45 b
  vo : Own m σ.vb σ.vs 48 σ.vf
  len : σ.vs.length = 7
  vars : ∀ v ∈ σ.vs, VarV m b σ.vf σ.names v
  ne : σ.vf ≠ b
  raw : Rs m σ.ra σ.raw.length (σ.raw.flatMap fun n : Int => [Value.int .i64 n]) 3 1 σ.rf
  rl : σ.raw.length ≤ 9223372036854775807
  rne : σ.rf ≠ b ∧ σ.rf ≠ σ.vf
  at_ : σ.at_ ≤ σ.raw.length
  names : σ.names ≤ 30
  loops : σ.loops ≤ 10
  rlt : σ.rf < m.next
theorem VarV.keep {m m' : Mem} {b vb names : Nat} {v : Value} (h : VarV m b vb names v) {fs : List Nat} (k : Keeps m m' fs) (hf : ∀ f ∈ fs, f = b ∨ f = vb) : VarV m' b vb names v := by
  obtain ⟨ao, ss, fam, h1, h2, h3, h4, h5, h6⟩ := h
  refine ⟨ao, ss, fam, h1, h2.keep0 k (fun h0 hx => ?_), h3, h4, h5, h6⟩
  have := h5 h0
  rcases hf _ hx with h | h
  · exact this.1 h
  · exact this.2 h
theorem Mk.keep {m m' : Mem} {b : Nat} {σ : Ms} (h : Mk m b σ) (k : Keeps m m' []) : Mk m' b σ :=
  ⟨h.own.keep k (by simp), h.vo.keep k (by simp), h.len, fun v hv => (h.vars v hv).keep k (by simp), h.ne, h.raw.keep k (by simp), h.rl, h.rne, h.at_, h.names, h.loops, Nat.lt_of_lt_of_le h.rlt k.1⟩
theorem Mk.set {m m' : Mem} {b : Nat} {σ : Ms} (h : Mk m b σ) (k : Keeps m m' [b]) {τ : Ms} (o : Own m' b τ.cells 45 b) (e1 : τ.raw = σ.raw) (e2 : τ.ra = σ.ra) (e3 : τ.rf = σ.rf) (e4 : τ.vb = σ.vb) (e6 : τ.vf = σ.vf) (e5 : τ.vs = σ.vs) (h1 : τ.at_ ≤ τ.raw.length) (h2 : τ.names ≤ 30) (h3 : τ.loops ≤ 10) (h4 : σ.names ≤ τ.names) : Mk m' b τ := by
  refine ⟨o, ?_, ?_, ?_, ?_, ?_, ?_, ?_, h1, h2, h3, by rw [e3]; exact Nat.lt_of_lt_of_le h.rlt k.1⟩
  · rw [e4, e5, e6]; exact h.vo.keep k (by simpa using h.ne)
  · rw [e5]; exact h.len
  · rw [e6, e5]
    intro v hv
    obtain ⟨ao, ss, fam, g1, g2, g3, g4, g5⟩ := (h.vars v hv).keep k (by simp)
    exact ⟨ao, ss, fam, g1, g2, g3, by omega, g5⟩
  · rw [e6]; exact h.ne
  · rw [e1, e2, e3]; exact h.raw.keep k (by simpa using h.rne.1)
  · rw [e1]; exact h.rl
  · rw [e3, e6]; exact h.rne
theorem Mk.l {b : Nat} {σ : Ms} (h : Mk m b σ) :
    loadRow m ⟨b, 0, none⟩ 1 = some [.slice σ.ra σ.raw.length σ.raw.length] ∧ loadRow m ⟨b, 1, none⟩ 1 = some [.int .i64 σ.at_] ∧ loadRow m ⟨b, 2, none⟩ 1 = some [.slice (some ⟨σ.vb, 0, none⟩) 7 7] ∧ loadRow m ⟨b, 3, none⟩ 1 = some [.int .i64 σ.names] ∧ loadRow m ⟨b, 4, none⟩ 1 = some [.int .i64 σ.loops] ∧ loadRow m ⟨b, 5, none⟩ 1 = some [.int .i64 σ.size] ∧ loadRow m ⟨b, 6, none⟩ 1 = some [.string ⟨σ.out.toArray⟩] ∧ loadRow m ⟨b, 7, none⟩ 1 = some [.int .i64 σ.res] ∧ loadRow m ⟨b, 8, none⟩ 1 = some [.bool σ.calls] :=
  ⟨h.own.load1 (off := 0) rfl, h.own.load1 (off := 1) rfl, h.own.load1 (off := 2) rfl, h.own.load1 (off := 3) rfl, h.own.load1 (off := 4) rfl, h.own.load1 (off := 5) rfl, h.own.load1 (off := 6) rfl, h.own.load1 (off := 7) rfl, h.own.load1 (off := 8) rfl⟩
structure Nm (S : Sums) : Prop where
  next : S 22 = []
  v : S 51 = []
  leaf : S 46 = []
  expr : S 35 = []
  expr1 : S 47 = []
  tabs : S 33 = []
  line : S 20 = []
  declare : S 50 = []
  stmts : S 34 = []
  stmt : S 45 = []
  loop : S 52 = []
  fn : S 21 = []
  text : S 12 = []
  digits : S 53 = []
  pick : S 7 = []
def PInt (m : Mem) (b : Nat) (σ : Ms) (k : Nat) (v : Value) (m1 : Mem) : Prop := ∃ y a : Nat, v = .int .i64 y ∧ y < k ∧ Mk m1 b { σ with at_ := a } ∧ Keeps m m1 [b]
def PStr (m : Mem) (b : Nat) (σ : Ms) (n : Nat) (v : Value) (m1 : Mem) : Prop := ∃ (s : List UInt8) (a : Nat) (z : Int), v = .string ⟨s.toArray⟩ ∧ s.length ≤ n ∧ Mk m1 b { σ with at_ := a, size := z } ∧ Keeps m m1 [b]
theorem mnext_run (hN : Nm S) {b : Nat} {σ : Ms} (h : Mk m b σ) (k : Nat) (K : Int) (hK : K = k) (hk : 0 < k) (hk2 : k < 1000000) :
    ∃ v m1, callw Tryd.prog TT S 22 [.pointer (some ⟨b, 0, none⟩), .int .i64 K] m = some (v, m1) ∧ PInt m b σ k v m1 := by
  subst hK
  refine fn_w 5 [14] k22 hN.next rfl ?_
  obtain ⟨l0, l1, _⟩ := h.l
  have ha := h.at_
  have hrl := h.rl
  by_cases hge : σ.raw.length ≤ σ.at_
  · have e1 : (σ.raw.length : Int) ≤ σ.at_ := by omega
    simp [-Int.natCast_add, -BitVec.toNat_or, -BitVec.toNat_ofInt, -BitVec.toNat_and, fieldAddr_of fa45_1, load_of ld3, fieldAddr_of fa45_0, load_of ld22, len_slice u22, store_of sz3, index_slice u22 sz3, l0, l1, e1, hge]
    exact ⟨0, σ.at_, rfl, hk, h, Keeps.refl _ _⟩
  · have e1 : ¬ (σ.raw.length : Int) ≤ σ.at_ := by omega
    have w1 : IntKind.i64.wrap ((σ.at_ : Int) + 1) = ((σ.at_ + 1 : Nat) : Int) := by rw [wrap_i64 (by omega) (by omega)]; omega
    have w2 : IntKind.i64.wrap (((σ.at_ + 1 : Nat) : Int) - 1) = ((σ.at_ : Nat) : Int) := by rw [wrap_i64 (by omega) (by omega)]; omega
    have hlt : σ.at_ < σ.raw.length := by omega
    have em : (σ.at_ : Int) ≤ 9223372036854775807 := by omega
    simp [-Int.natCast_add, -BitVec.toNat_or, -BitVec.toNat_ofInt, -BitVec.toNat_and, fieldAddr_of fa45_1, load_of ld3, fieldAddr_of fa45_0, load_of ld22, len_slice u22, store_of sz3, index_slice u22 sz3, l0, l1, e1, hge, w1]
    generalize hrr : storeRow _ _ _ = rr
    obtain ⟨m1, rfl, o1, k1⟩ := store_own hrr h.own (by simp [Ms.cells]) (by simp [one_int])
    have h1 : Mk m1 b { σ with at_ := σ.at_ + 1 } := h.set k1 (by simpa [Ms.cells, over] using o1) rfl rfl rfl rfl rfl rfl (by show σ.at_ + 1 ≤ σ.raw.length; omega) h.names h.loops (Nat.le_refl _)
    obtain ⟨l0, l1, _⟩ := h1.l
    obtain ⟨rb, hrb, ro⟩ := h1.raw.rdo (by show ¬ σ.raw.length = 0; omega)
    have ld : loadRow m1 ⟨rb, σ.at_, none⟩ 1 = some [.int .i64 σ.raw[σ.at_]] := by
      have hf : (σ.raw.flatMap fun n : Int => [Value.int .i64 n]) = σ.raw.map (Value.int .i64) := List.map_eq_flatMap.symm
      have hl := ro.load (off := σ.at_) 1 (by simp only [hf, List.length_map]; omega)
      simp only [hf] at hl
      rw [hl]
      simp only [window, ← List.map_drop, ← List.map_take]
      rw [List.drop_eq_getElem_cons hlt]
      rfl
    have pk := fun m' => pick_run (m := m') hN.pick σ.raw[σ.at_] k (by omega) (by omega)
    obtain ⟨y, hy, hyk⟩ : ∃ y : Nat, σ.raw[σ.at_] % (k : Int) = y ∧ y < k := by
      have g1 := Int.emod_nonneg σ.raw[σ.at_] (by omega : (k : Int) ≠ 0)
      have g2 := Int.emod_lt_of_pos σ.raw[σ.at_] (by omega : (0 : Int) < k)
      exact ⟨(σ.raw[σ.at_] % (k : Int)).toNat, by omega, by omega⟩
    rw [hy] at pk
    simp only at hrb
    simp [-Int.natCast_add, -BitVec.toNat_or, -BitVec.toNat_ofInt, -BitVec.toNat_and, fieldAddr_of fa45_1, load_of ld3, fieldAddr_of fa45_0, load_of ld22, len_slice u22, store_of sz3, index_slice u22 sz3, l0, l1, hrb, ld, w2, hlt, em, pk]
    exact ⟨y, _, rfl, hyk, h1, k1⟩
theorem mv_run (hN : Nm S) {b : Nat} {σ : Ms} (h : Mk m b σ) (t : Nat) (ht : t < 7) :
    ∃ v m1, callw Tryd.prog TT S 51 [.pointer (some ⟨b, 0, none⟩), .int .i64 t] m = some (v, m1) ∧ PStr m b σ 8 v m1 := by
  refine fn_w 6 [15] k51 hN.v rfl ?_
  obtain ⟨l0, l1, l2, _⟩ := h.l
  have hl := h.len
  obtain ⟨ao, ss, fam, hv, hr, hs, hn, hq, _⟩ := h.vars σ.vs[t] (List.getElem_mem _)
  have ld : loadRow m ⟨σ.vb, t, none⟩ 1 = some [.slice ao ss.length ss.length] := by
    rw [h.vo.load (off := t) 1 (by omega)]
    simp only [window]
    rw [List.drop_eq_getElem_cons (by omega), hv]
    rfl
  have em : (t : Int) ≤ 9223372036854775807 := by omega
  have hnm := h.names
  by_cases z : ss = []
  · subst z
    simp at ld
    simp [-Int.natCast_add, -BitVec.toNat_or, -BitVec.toNat_ofInt, -BitVec.toNat_and, fieldAddr_of fa45_2, load_of ld43, index_slice u43 sz48, load_of ld48, len_slice u48, index_slice u48 sz9, load_of ld9, l2, ht, em, ld]
    exact ⟨[], σ.at_, σ.size, rfl, by simp, h, Keeps.refl _ _⟩
  · have z1 : ¬ ss.length = 0 := by simpa using z
    have z2 : ¬ (ss.length : Int) = 0 := by omega
    obtain ⟨sb, rfl, so⟩ := hr.rdo z1
    obtain ⟨v1, m1, c1, y, a, rfl, hy, h1, k1⟩ := mnext_run hN h ss.length _ rfl (by omega) (by omega)
    have em2 : (y : Int) ≤ 9223372036854775807 := by omega
    have so1 := so.keep k1 (by simpa using (hq z1).1)
    have ld2 : loadRow m1 ⟨sb, y, none⟩ 1 = some [.string ⟨(ss[y]).toArray⟩] := by
      rw [so1.load (off := y) 1 (by simp [strC]; omega)]
      simp only [window, strC]
      rw [List.drop_eq_getElem_cons (by simpa using hy)]
      simp
    simp [-Int.natCast_add, -BitVec.toNat_or, -BitVec.toNat_ofInt, -BitVec.toNat_and, fieldAddr_of fa45_2, load_of ld43, index_slice u43 sz48, load_of ld48, len_slice u48, index_slice u48 sz9, load_of ld9, l2, ht, em, ld, z, z1, z2, c1, hy, em2, ld2]
    exact ⟨_, a, σ.size, rfl, hs _ (List.getElem_mem _), h1, k1⟩
theorem mleaf_run (hN : Nm S) {b : Nat} {σ : Ms} (h : Mk m b σ) (t : Nat) (ht : t < 7) :
    ∃ v m1, callw Tryd.prog TT S 46 [.pointer (some ⟨b, 0, none⟩), .int .i64 t] m = some (v, m1) ∧ PStr m b σ 24 v m1 := by
  obtain ⟨v1, m1, c1, s, a, z, rfl, hs, h1, k1⟩ := mv_run hN h t ht
  have nx := fun k K hK hk hk2 => mnext_run hN h1 k K hK hk hk2
  have fin : ∀ {m2 : Mem} {a2 : Nat} (s : List UInt8), s.length ≤ 24 → Mk m2 b { σ with at_ := a2, size := z } → Keeps m1 m2 [b] → PStr m b σ 24 (.string ⟨s.toArray⟩) m2 := fun s hs h k => ⟨s, _, _, rfl, hs, h, k1.trans k⟩
  refine fn_w 18 [18, 24, 30, 36, 38, 40] k46 hN.leaf rfl ?_
  apply cut2_ (fun (m2 : Mem) (a2 : Nat) => Mk m2 b { σ with at_ := a2, size := z } ∧ Keeps m1 m2 [b])
  case main =>
    rcases (Classical.em (s = [])).symm with z0 | z0
    · obtain ⟨v2, m2, c2, y, a2, rfl, hy, h2, k2⟩ := nx 4 4 rfl (by omega) (by omega)
      have he : s.isEmpty = false := by simpa using z0
      rcases (Classical.em (y = 0)) with y0 | y0
      · have y1 : ¬ (0 : Int) < y := by omega
        have y2 : ¬ 0 < y := by omega
        intro meth
        simp [-Int.natCast_add, -w46_4, -BitVec.toNat_or, -BitVec.toNat_ofInt, -BitVec.toNat_and, build_arr u79 sz9 zo79, index_arr u79 sz9, part_one ld9, build_arr u71 sz9 zo71, index_arr u71 sz9, build_arr u73 sz9 zo73, index_arr u73 sz9, c1, z0, he, c2, y0]
        exact w_sub (E := [(0, .pointer (some ⟨b, 0, none⟩)), (1, .int .i64 t)]) (meth m2 a2 ⟨h2, k2⟩) ⟨by rfl, by rfl, trivial⟩
      · have y1 : (0 : Int) < y := by omega
        have y2 : 0 < y := by omega
        intro meth
        simp [-Int.natCast_add, -BitVec.toNat_or, -BitVec.toNat_ofInt, -BitVec.toNat_and, build_arr u79 sz9 zo79, index_arr u79 sz9, part_one ld9, build_arr u71 sz9 zo71, index_arr u71 sz9, build_arr u73 sz9 zo73, index_arr u73 sz9, c1, z0, he, c2, y1, y2]
        exact fin s (by omega) h2 k2
    · intro meth
      simp [-Int.natCast_add, -w46_4, -BitVec.toNat_or, -BitVec.toNat_ofInt, -BitVec.toNat_and, build_arr u79 sz9 zo79, index_arr u79 sz9, part_one ld9, build_arr u71 sz9 zo71, index_arr u71 sz9, build_arr u73 sz9 zo73, index_arr u73 sz9, c1, z0]
      exact w_sub (E := [(0, .pointer (some ⟨b, 0, none⟩)), (1, .int .i64 t)]) (meth m1 a ⟨h1, Keeps.refl _ _⟩) ⟨by rfl, by rfl, trivial⟩
  clear nx
  rintro m2 a2 ⟨h2, k2⟩
  have nx := fun k K hK hk hk2 => mnext_run hN h2 k K hK hk hk2
  rcases (by omega : t = 0 ∨ t = 1 ∨ t = 2 ∨ t = 3 ∨ t = 4 ∨ t = 5 ∨ t = 6) with rfl | rfl | rfl | rfl | rfl | rfl | rfl
  · obtain ⟨v3, m3, c3, y, a3, rfl, hy, h3, k3⟩ := nx 9 9 rfl (by omega) (by omega)
    rcases (by omega : y = 0 ∨ y = 1 ∨ y = 2 ∨ y = 3 ∨ y = 4 ∨ y = 5 ∨ y = 6 ∨ y = 7 ∨ y = 8) with rfl | rfl | rfl | rfl | rfl | rfl | rfl | rfl | rfl
    all_goals
      simp [-Int.natCast_add, -BitVec.toNat_or, -BitVec.toNat_ofInt, -BitVec.toNat_and, build_arr u79 sz9 zo79, index_arr u79 sz9, part_one ld9, build_arr u71 sz9 zo71, index_arr u71 sz9, build_arr u73 sz9 zo73, index_arr u73 sz9, c3]
      refine fin _ ?_ h3 (k2.trans k3)
      simp
  · obtain ⟨v3, m3, c3, y, a3, rfl, hy, h3, k3⟩ := nx 2 2 rfl (by omega) (by omega)
    rcases (by omega : y = 0 ∨ y = 1) with rfl | rfl
    all_goals
      simp [-Int.natCast_add, -BitVec.toNat_or, -BitVec.toNat_ofInt, -BitVec.toNat_and, build_arr u79 sz9 zo79, index_arr u79 sz9, part_one ld9, build_arr u71 sz9 zo71, index_arr u71 sz9, build_arr u73 sz9 zo73, index_arr u73 sz9, c3]
      refine fin _ ?_ h3 (k2.trans k3)
      simp
  · obtain ⟨v3, m3, c3, y, a3, rfl, hy, h3, k3⟩ := nx 4 4 rfl (by omega) (by omega)
    rcases (by omega : y = 0 ∨ y = 1 ∨ y = 2 ∨ y = 3) with rfl | rfl | rfl | rfl
    all_goals
      simp [-Int.natCast_add, -BitVec.toNat_or, -BitVec.toNat_ofInt, -BitVec.toNat_and, build_arr u79 sz9 zo79, index_arr u79 sz9, part_one ld9, build_arr u71 sz9 zo71, index_arr u71 sz9, build_arr u73 sz9 zo73, index_arr u73 sz9, c3]
      refine fin _ ?_ h3 (k2.trans k3)
      simp
  all_goals
    simp [-Int.natCast_add, -BitVec.toNat_or, -BitVec.toNat_ofInt, -BitVec.toNat_and, build_arr u79 sz9 zo79, index_arr u79 sz9, part_one ld9, build_arr u71 sz9 zo71, index_arr u71 sz9, build_arr u73 sz9 zo73, index_arr u73 sz9]
    refine fin _ ?_ h2 k2
    simp
theorem mtabs_run (hN : Nm S) {b n : Nat} (hn : n ≤ 100) :
    ∃ v m1, callw Tryd.prog TT S 33 [.pointer (some ⟨b, 0, none⟩), .int .i64 n] m = some (v, m1) ∧ v = .string ⟨(List.replicate n (9 : UInt8)).toArray⟩ ∧ m1 = m := by
  refine fn_w 7 [9] k33 hN.tabs rfl ?_
  simp [-Int.natCast_add, -BitVec.toNat_or, -BitVec.toNat_ofInt, -BitVec.toNat_and, bin_str u9 .add (Or.inl rfl)]
  refine wsem_loop 7 [9] (fun d E m2 => ∃ i : Nat, n - i = d ∧ i ≤ n ∧ E = [(1, .int .i64 n), (5, .string ⟨(List.replicate i (9 : UInt8)).toArray⟩), (6, .int .i64 i)] ∧ m2 = m) _ ⟨_, ⟨0, rfl, by omega, rfl, rfl⟩, ⟨by rfl, by rfl, by rfl, trivial⟩⟩ ?_
  rintro d E m2 ih ⟨i, hd, hi, rfl, rfl⟩
  by_cases hlt : i < n
  · have e1 : (i : Int) < n := by omega
    have w1 : IntKind.i64.wrap ((i : Int) + 1) = ((i + 1 : Nat) : Int) := by rw [wrap_i64 (by omega) (by omega)]; omega
    have z1 : ((i + 1 : Nat) : Int) ≤ 9223372036854775807 := by omega
    have hr : List.replicate (i + 1) (9 : UInt8) = List.replicate i 9 ++ [9] := List.replicate_succ'
    generalize hl : List.replicate i (9 : UInt8) = l at *
    have hll : l.length = i := by rw [← hl]; simp
    simp [-Int.natCast_add, -BitVec.toNat_or, -BitVec.toNat_ofInt, -BitVec.toNat_and, bin_str u9 .add (Or.inl rfl), e1, hlt, w1, hll, z1]
    exact ih _ _ _ _ ⟨i + 1, rfl, by omega, rfl, rfl⟩ (by omega) ⟨by rfl, by simp [lget, hr], by simp [lget], trivial⟩
  · have e1 : ¬ (i : Int) < n := by omega
    have hin : i = n := by omega
    simp [-Int.natCast_add, -BitVec.toNat_or, -BitVec.toNat_ofInt, -BitVec.toNat_and, bin_str u9 .add (Or.inl rfl), e1, hlt, hin]
theorem mline_run (hN : Nm S) {b n : Nat} {σ : Ms} (h : Mk m b σ) (hn : n ≤ 100) (s : List UInt8) (hs : s.length ≤ 10000) (ho : σ.out.length ≤ 1000000000000) :
    ∃ v m1, callw Tryd.prog TT S 20 [.pointer (some ⟨b, 0, none⟩), .int .i64 n, .string ⟨s.toArray⟩] m = some (v, m1) ∧ Mk m1 b { σ with out := σ.out ++ (List.replicate n (9 : UInt8) ++ (s ++ [10])) } ∧ Keeps m m1 [b] := by
  obtain ⟨v1, m1, c1, rfl, hm⟩ := mtabs_run (m := m) (b := b) hN hn
  rw [hm] at c1
  obtain ⟨l0, l1, l2, l3, l4, l5, l6, _⟩ := h.l
  have ho2 := h.own
  obtain ⟨P, hP⟩ : ∃ P : Mem → Prop, P = fun m1 => Mk m1 b { σ with out := σ.out ++ (List.replicate n (9 : UInt8) ++ (s ++ [10])) } ∧ Keeps m m1 [b] := ⟨_, rfl⟩
  have fin : ∀ m1 : Mem, Own m1 b (Ms.cells { σ with out := σ.out ++ (List.replicate n (9 : UInt8) ++ (s ++ [10])) }) 45 b → Keeps m m1 [b] → P m1 := fun m1 o k => by
    rw [hP]
    exact ⟨h.set k o rfl rfl rfl rfl rfl rfl h.at_ h.names h.loops (Nat.le_refl _), k⟩
  suffices hh : ∃ v m1, callw Tryd.prog TT S 20 [.pointer (some ⟨b, 0, none⟩), .int .i64 n, .string ⟨s.toArray⟩] m = some (v, m1) ∧ P m1 by rw [hP] at hh; exact hh
  clear hP
  have ht : (List.replicate n (9 : UInt8)).length = n := by simp
  generalize List.replicate n (9 : UInt8) = t at *
  refine fn_w 3 [] k20 hN.line rfl ?_
  have z1 : ((σ.out.length + n : Nat) : Int) ≤ 9223372036854775807 := by omega
  have z2 : ((σ.out.length + n + s.length : Nat) : Int) ≤ 9223372036854775807 := by omega
  have z3 : ((σ.out.length + (n + s.length) : Nat) : Int) ≤ 9223372036854775807 := by omega
  have z4 : ((σ.out.length + n + s.length + 1 : Nat) : Int) ≤ 9223372036854775807 := by omega
  have z5 : ((σ.out.length + (n + (s.length + 1)) : Nat) : Int) ≤ 9223372036854775807 := by omega
  have z6 : ((σ.out.length + (n + s.length) + 1 : Nat) : Int) ≤ 9223372036854775807 := by omega
  simp [-Int.natCast_add, -BitVec.toNat_or, -BitVec.toNat_ofInt, -BitVec.toNat_and, fieldAddr_of fa45_6, load_of ld9, bin_str u9 .add (Or.inl rfl), store_of sz9, c1, l6, ht, z1, z2, z3, z4, z5, z6]
  generalize hrr : storeRow _ _ _ = rr
  obtain ⟨m1, rfl, o1, k1⟩ := store_own hrr ho2 (by simp [Ms.cells]) (by simp [one_str])
  have f1 := fin m1 (by simpa [Ms.cells, over] using o1) k1
  simp [-Int.natCast_add, -BitVec.toNat_or, -BitVec.toNat_ofInt, -BitVec.toNat_and, fieldAddr_of fa45_6, load_of ld9, bin_str u9 .add (Or.inl rfl), store_of sz9, l6]
  exact f1
theorem mwrap_u8 {x : Int} (h : 0 ≤ x) (h2 : x < 256) : IntKind.u8.wrap x = x := by
  have e1 : (2 : Int) ^ IntKind.u8.bits = 256 := by decide
  have e3 : IntKind.u8.signed = false := rfl
  simp only [IntKind.wrap, e1, e3]
  simp
  omega
theorem mconv_one (m : Mem) (d : UInt8) : bToS (m.new [Value.int .u8 (d.toNat : Int)] 5) (.slice (some ⟨m.next, 0, none⟩) 1 1) = some (.string ⟨#[d]⟩, m.new [Value.int .u8 (d.toNat : Int)] 5) := bToS_sl (l := [d]) (Sl.of (Own.new _ _ _) rfl)
theorem mdigit_run (hN : Nm S) {n : Nat} (hn : n < 10) :
    ∃ v m1, callw Tryd.prog TT S 53 [.int .i64 n] m = some (v, m1) ∧ v = .string ⟨#[UInt8.ofNat (48 + n)]⟩ ∧ Keeps m m1 [] := by
  refine fn_w 3 [4] k53 hN.digits rfl ?_
  have h1 : (n : Int) < 10 := by omega
  have hm : (if 0 < n then (n : Int) else 0) = n := by split <;> omega
  have hm' : (if (0 : Int) < n then (n : Int) else 0) = n := by split <;> omega
  have hd : (UInt8.ofNat (48 + n)).toNat = 48 + n := by simp; omega
  have w1 : IntKind.u8.wrap (IntKind.i64.wrap (48 + (n : Int))) = ((UInt8.ofNat (48 + n)).toNat : Int) := by rw [hd, wrap_i64 (by omega) (by omega), mwrap_u8 (by omega) (by omega)]; omega
  have cv := mconv_one m (UInt8.ofNat (48 + n))
  generalize UInt8.ofNat (48 + n) = d at *
  have kn : Keeps m (m.new [Value.int .u8 (d.toNat : Int)] 5) [] := (new_own rfl).2.1
  simp [-Int.natCast_add, -BitVec.toNat_or, -BitVec.toNat_ofInt, -BitVec.toNat_and, conv_i u3 u5, buildSlice_of u39 bs5 rfl, conv_bytes u39 u5 u9, bin_str u9 .add (Or.inl rfl), hn, h1, hm, hm', w1, cv]
  exact kn
theorem mdigits_run (hN : Nm S) {n : Nat} (hn : n ≤ 99) :
    ∃ v m1, callw Tryd.prog TT S 53 [.int .i64 n] m = some (v, m1) ∧ (∃ s : List UInt8, v = .string ⟨s.toArray⟩ ∧ s.length ≤ 2) ∧ Keeps m m1 [] := by
  by_cases h : n < 10
  · obtain ⟨v, m1, c, rfl, k⟩ := mdigit_run (m := m) hN h
    exact ⟨_, _, c, ⟨[_], rfl, by simp⟩, k⟩
  · obtain ⟨v1, m1, c1, rfl, k1⟩ := mdigit_run (m := m) hN (n := n / 10) (by omega)
    obtain ⟨v2, m2, c2, rfl, k2⟩ := mdigit_run (m := m1) hN (n := n % 10) (by omega)
    have h1 : ¬ (n : Int) < 10 := by omega
    have w1 : IntKind.i64.wrap ((n : Int) / 10) = ((n / 10 : Nat) : Int) := by rw [wrap_i64 (by omega) (by omega)]; omega
    have w2 : ((n : Int) % 10) = ((n % 10 : Nat) : Int) := by omega
    have w3 : (n : Int).tdiv 10 = ((n / 10 : Nat) : Int) := by rw [Int.tdiv_eq_ediv_of_nonneg (by omega)]; omega
    have w4 : (n : Int).tmod 10 = ((n % 10 : Nat) : Int) := by rw [Int.tmod_eq_emod_of_nonneg (by omega)]; omega
    have w5 : IntKind.i64.wrap ((n / 10 : Nat) : Int) = ((n / 10 : Nat) : Int) := by rw [wrap_i64 (by omega) (by omega)]
    refine fn_w 3 [4] k53 hN.digits rfl ?_
    generalize n / 10 = x at *
    generalize n % 10 = y at *
    have e2 : ∀ d : UInt8, (⟨#[d]⟩ : ByteArray) = ⟨([d] : List UInt8).toArray⟩ := fun d => rfl
    rw [e2] at c1 c2
    generalize UInt8.ofNat (48 + x) = d1 at *
    generalize UInt8.ofNat (48 + y) = d2 at *
    have kk := k1.trans k2
    have fin : ∃ s : List UInt8, Value.string ⟨#[d1, d2]⟩ = .string ⟨s.toArray⟩ ∧ s.length ≤ 2 := ⟨[d1, d2], rfl, by simp⟩
    simp [-Int.natCast_add, -BitVec.toNat_or, -BitVec.toNat_ofInt, -BitVec.toNat_and, conv_i u3 u5, buildSlice_of u39 bs5 rfl, conv_bytes u39 u5 u9, bin_str u9 .add (Or.inl rfl), h, h1, w1, w2, w3, w4, w5, c1, c2]
    exact kk
end Go.Proofs.YtgomgdbapgibjaaDoor.base

