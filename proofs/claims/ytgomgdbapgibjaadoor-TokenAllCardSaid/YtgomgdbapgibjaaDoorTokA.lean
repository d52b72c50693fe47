/-
  This text proves what the small functions of package token do over the abstract run: letter, digit, escape, IsWord, and the scanner's next, rest, skip, fault, put, ends, comment.
  Condition: nothing is known of their calls ahead ('S f = []').
-/
import Derived.Test.YtgomgdbapgibjaaDoorGen
set_option maxRecDepth 100000
set_option linter.unusedSimpArgs false
set_option linter.unusedVariables false
namespace Go.Proofs.YtgomgdbapgibjaaDoor.base
open Go.Sh gen
variable {S : Sums} {m : Mem}
def ltr (n : Nat) : Bool := (decide (97 ≤ n) && decide (n ≤ 122)) || (decide (65 ≤ n) && decide (n ≤ 90)) || decide (n = 95)
def dgt (n : Nat) : Bool := decide (48 ≤ n) && decide (n ≤ 57)
def lod (n : Nat) : Bool := ltr n || dgt n
theorem letter_run (hS : S 26 = []) (n : Nat) : callw Tryd.prog TT S 26 [.int .u8 n] m = some (.bool (ltr n), m) := by
  refine fn_eq 3 [] k26 hS rfl ?_
  unfold ltr
  by_cases a : 97 ≤ n
  · have a' : (97 : Int) ≤ n := by omega
    have a'' : ¬ n ≤ 90 := by omega
    have a3 : ¬ n = 95 := by omega
    have a4 : ¬ (n : Int) ≤ 90 := by omega
    have a5 : ¬ (n : Int) = 95 := by omega
    have a6 : (65 : Int) ≤ n := by omega
    have a7 : 65 ≤ n := by omega
    by_cases b : n ≤ 122
    · have b' : (n : Int) ≤ 122 := by omega
      simp [-BitVec.toNat_or, -BitVec.toNat_ofInt, -BitVec.toNat_and, id, a, a', b, b']
    · have b' : ¬ (n : Int) ≤ 122 := by omega
      simp [-BitVec.toNat_or, -BitVec.toNat_ofInt, -BitVec.toNat_and, id, a, a', b, b', a'', a3, a4, a5, a6, a7]
  · have a' : ¬ (97 : Int) ≤ n := by omega
    by_cases b : 65 ≤ n
    · have b' : (65 : Int) ≤ n := by omega
      by_cases c : n ≤ 90
      · have c' : (n : Int) ≤ 90 := by omega
        simp [-BitVec.toNat_or, -BitVec.toNat_ofInt, -BitVec.toNat_and, id, a, a', b, b', c, c']
      · have c' : ¬ (n : Int) ≤ 90 := by omega
        by_cases e : n = 95
        · subst e; simp [-BitVec.toNat_or, -BitVec.toNat_ofInt, -BitVec.toNat_and, id]
        · have e' : ¬ (n : Int) = 95 := by omega
          simp [-BitVec.toNat_or, -BitVec.toNat_ofInt, -BitVec.toNat_and, id, a, a', b, b', c, c', e, e']
    · have b' : ¬ (65 : Int) ≤ n := by omega
      have e : ¬ n = 95 := by omega
      have e' : ¬ (n : Int) = 95 := by omega
      simp [-BitVec.toNat_or, -BitVec.toNat_ofInt, -BitVec.toNat_and, id, a, a', b, b', e, e']
theorem digit_run (hS : S 27 = []) (n : Nat) : callw Tryd.prog TT S 27 [.int .u8 n] m = some (.bool (dgt n), m) := by
  refine fn_eq 3 [] k27 hS rfl ?_
  unfold dgt
  by_cases a : 48 ≤ n
  · have a' : (48 : Int) ≤ n := by omega
    by_cases b : n ≤ 57
    · have b' : (n : Int) ≤ 57 := by omega
      simp [-BitVec.toNat_or, -BitVec.toNat_ofInt, -BitVec.toNat_and, id, a, a', b, b']
    · have b' : ¬ (n : Int) ≤ 57 := by omega
      simp [-BitVec.toNat_or, -BitVec.toNat_ofInt, -BitVec.toNat_and, id, a, a', b, b']
  · have a' : ¬ (48 : Int) ≤ n := by omega
    simp [-BitVec.toNat_or, -BitVec.toNat_ofInt, -BitVec.toNat_and, id, a, a']
def esc (n : Nat) : Option Nat := if n = 110 then some 10 else if n = 116 then some 9 else if n = 34 ∨ n = 92 then some n else none
theorem escape_run (hS : S 49 = []) (n : Nat) : callw Tryd.prog TT S 49 [.int .u8 n] m = some (.tuple #[.int .u8 ((esc n).getD 0 : Nat), .bool (esc n).isSome], m) := by
  refine fn_eq 5 [5, 7, 9, 9] k49 hS rfl ?_
  unfold esc
  by_cases a : n = 110
  · subst a; simp [-BitVec.toNat_or, -BitVec.toNat_ofInt, -BitVec.toNat_and, id]
  have a' : ¬ (n : Int) = 110 := by omega
  by_cases b : n = 116
  · subst b; simp [-BitVec.toNat_or, -BitVec.toNat_ofInt, -BitVec.toNat_and, id]
  have b' : ¬ (n : Int) = 116 := by omega
  by_cases c : n = 34
  · subst c; simp [-BitVec.toNat_or, -BitVec.toNat_ofInt, -BitVec.toNat_and, id]
  have c' : ¬ (n : Int) = 34 := by omega
  by_cases e : n = 92
  · subst e; simp [-BitVec.toNat_or, -BitVec.toNat_ofInt, -BitVec.toNat_and, id]
  have e' : ¬ (n : Int) = 92 := by omega
  simp [-BitVec.toNat_or, -BitVec.toNat_ofInt, -BitVec.toNat_and, id, a, a', b, b', c, c', e, e']
structure Tok where
  k : Int
  t : List UInt8
  n : Int
  l : Int
  c : Int
def Tok.cells (x : Tok) : List Value := [.int .i64 x.k, .string ⟨x.t.toArray⟩, .int .i64 x.n, .int .i64 x.l, .int .i64 x.c]
structure St where
  s : List UInt8
  at_ : Nat
  line : Nat
  col : Nat
  out : List Tok
  bad : Int
  w : Tok
def St.cells (σ : St) (ao : Option Addr) : List Value := [.string ⟨σ.s.toArray⟩, .int .i64 σ.at_, .int .i64 σ.line, .int .i64 σ.col, .slice ao σ.out.length σ.out.length, .int .i64 σ.bad] ++ σ.w.cells
def outCells (l : List Tok) : List Value := l.flatMap Tok.cells
theorem outCells_len (l : List Tok) : l.length * 5 = (outCells l).length := (flatMap_len (f := Tok.cells) (fun _ => rfl) l).symm
structure Sc (m : Mem) (b f : Nat) (ao : Option Addr) (fo : Nat) (σ : St) : Prop where
  h : Own m b (σ.cells ao) 52 f
  o : Sl m ao σ.out.length (outCells σ.out) 31 5 fo
  ne : f ≠ fo
structure Bd (σ : St) : Prop where
  s : σ.s.length ≤ 16384
  a : σ.at_ ≤ σ.s.length
  l : σ.line ≤ 1 + σ.at_
  c : σ.col ≤ 1 + σ.at_
  o : σ.out.length ≤ 4000
section
variable {b f fo : Nat} {ao : Option Addr} {σ : St}
theorem Sc.l0 (h : Sc m b f ao fo σ) : loadRow m ⟨b, 0, none⟩ 1 = some [.string ⟨σ.s.toArray⟩] := h.h.load1 (off := 0) rfl
theorem Sc.l1 (h : Sc m b f ao fo σ) : loadRow m ⟨b, 1, none⟩ 1 = some [.int .i64 σ.at_] := h.h.load1 (off := 1) rfl
theorem Sc.l2 (h : Sc m b f ao fo σ) : loadRow m ⟨b, 2, none⟩ 1 = some [.int .i64 σ.line] := h.h.load1 (off := 2) rfl
theorem Sc.l3 (h : Sc m b f ao fo σ) : loadRow m ⟨b, 3, none⟩ 1 = some [.int .i64 σ.col] := h.h.load1 (off := 3) rfl
theorem Sc.l4 (h : Sc m b f ao fo σ) : loadRow m ⟨b, 4, none⟩ 1 = some [.slice ao σ.out.length σ.out.length] := h.h.load1 (off := 4) rfl
theorem Sc.l5 (h : Sc m b f ao fo σ) : loadRow m ⟨b, 5, none⟩ 1 = some [.int .i64 σ.bad] := h.h.load1 (off := 5) rfl
theorem Sc.l6 (h : Sc m b f ao fo σ) : loadRow m ⟨b, 6, none⟩ 5 = some σ.w.cells := by
  rw [h.h.load (off := 6) 5 (by simp [St.cells, Tok.cells])]
  rfl
theorem next_run (hS : S 37 = []) (h : Sc m b f ao fo σ) (hb : Bd σ) : callw Tryd.prog TT S 37 [.pointer (some ⟨b, 0, none⟩)] m = some (.int .u8 ((σ.s[σ.at_]?.map UInt8.toNat).getD 0 : Nat), m) := by
  refine fn_eq 3 [12] k37 hS rfl ?_
  have hs := hb.s
  have ha := hb.a
  by_cases e : σ.at_ = σ.s.length
  · have e' : σ.s[σ.at_]? = none := List.getElem?_eq_none (by omega)
    simp [-BitVec.toNat_or, -BitVec.toNat_ofInt, -BitVec.toNat_and, fieldAddr_of fa52_1, load_of ld3, fieldAddr_of fa52_0, load_of ld9, len_string u9, index_str u9, h.l0, h.l1, e, e']
  · have hlt : σ.at_ < σ.s.length := by omega
    have e2 : ¬ ((σ.at_ : Int) = σ.s.length) := by omega
    have hm : (σ.at_ : Int) ≤ 9223372036854775807 := by omega
    simp [-BitVec.toNat_or, -BitVec.toNat_ofInt, -BitVec.toNat_and, fieldAddr_of fa52_1, load_of ld3, fieldAddr_of fa52_0, load_of ld9, len_string u9, index_str u9, h.l0, h.l1, e2, hm, hlt, e]
theorem rest_run (hS : S 39 = []) (h : Sc m b f ao fo σ) (hb : Bd σ) : callw Tryd.prog TT S 39 [.pointer (some ⟨b, 0, none⟩)] m = some (.string ⟨(σ.s.drop σ.at_).toArray⟩, m) := by
  refine fn_eq 3 [] k39 hS rfl ?_
  have hs := hb.s
  have ha := hb.a
  have hm : (σ.at_ : Int) ≤ 9223372036854775807 := by omega
  simp [-BitVec.toNat_or, -BitVec.toNat_ofInt, -BitVec.toNat_and, fieldAddr_of fa52_0, load_of ld9, fieldAddr_of fa52_1, load_of ld3, slice_str u9, h.l0, h.l1, hm, ha]
  exact List.take_of_length_le (by simp)
def St.skip (σ : St) (n : Nat) : St := { σ with at_ := σ.at_ + n, col := σ.col + n }
def St.fault (σ : St) (e : Int) : St := if σ.bad = 0 then { σ with bad := e, w := ⟨0, [], 0, σ.line, σ.col⟩ } else σ
def St.put (σ : St) (k : Int) (t : List UInt8) (n : Int) : St := if σ.out.length = 4000 then { σ with bad := 6, w := ⟨0, [], 0, σ.line, σ.col⟩ } else { σ with out := σ.out ++ [⟨k, t, n, σ.line, σ.col⟩] }
theorem Sc.keep {m1 : Mem} {fs : List Nat} (h : Sc m b f ao fo σ) (k : Keeps m m1 fs) (h1 : f ∉ fs) (h2 : fo ∉ fs) : Sc m1 b f ao fo σ := ⟨h.h.keep k h1, h.o.keep k h2, h.ne⟩
theorem skip_run (hS : S 38 = []) (h : Sc m b f ao fo σ) (hb : Bd σ) (n : Nat) (hn : n ≤ 100000) : ∃ v m1, callw Tryd.prog TT S 38 [.pointer (some ⟨b, 0, none⟩), .int .i64 n] m = some (v, m1) ∧ v = .tuple #[] ∧ Sc m1 b f ao fo (σ.skip n) ∧ Keeps m m1 [f] := by
  have hs := hb.s
  have ha := hb.a
  have hc := hb.c
  refine fn_w 2 [] k38 hS rfl ?_
  have w1 : IntKind.i64.wrap ((σ.at_ : Int) + n) = ((σ.at_ + n : Nat) : Int) := by rw [wrap_i64 (by omega) (by omega)]; omega
  have w2 : IntKind.i64.wrap ((σ.col : Int) + n) = ((σ.col + n : Nat) : Int) := by rw [wrap_i64 (by omega) (by omega)]; omega
  simp [-BitVec.toNat_or, -BitVec.toNat_ofInt, -BitVec.toNat_and, fieldAddr_of fa52_1, load_of ld3, store_of sz3, fieldAddr_of fa52_3, h.l1, w1]
  generalize hr : storeRow _ _ _ = r
  obtain ⟨m1, rfl, o1, k1⟩ := store_own hr h.h (by simp [St.cells, Tok.cells]) (by simp [one_int])
  have l3 : loadRow m1 ⟨b, 3, none⟩ 1 = some [.int .i64 σ.col] := o1.load1 (off := 3) rfl
  simp [-BitVec.toNat_or, -BitVec.toNat_ofInt, -BitVec.toNat_and, fieldAddr_of fa52_1, load_of ld3, store_of sz3, fieldAddr_of fa52_3, l3, w2]
  generalize hr2 : storeRow _ _ _ = r2
  obtain ⟨m2, rfl, o2, k2⟩ := store_own hr2 o1 (by simp [St.cells, Tok.cells, over]) (by simp [one_int])
  simp [-BitVec.toNat_or, -BitVec.toNat_ofInt, -BitVec.toNat_and, fieldAddr_of fa52_1, load_of ld3, store_of sz3, fieldAddr_of fa52_3]
  have kk := k1.trans k2
  exact ⟨⟨by simpa [St.cells, St.skip, Tok.cells, over] using o2, h.o.keep kk (by simpa using h.ne.symm), h.ne⟩, kk⟩
theorem fault_run (hS : S 48 = []) (h : Sc m b f ao fo σ) (e : Int) : ∃ v m1, callw Tryd.prog TT S 48 [.pointer (some ⟨b, 0, none⟩), .int .i64 e] m = some (v, m1) ∧ v = .tuple #[] ∧ Sc m1 b f ao fo (σ.fault e) ∧ Keeps m m1 [f] := by
  refine fn_w 2 [8] k48 hS rfl ?_
  by_cases hb : σ.bad = 0
  · simp [-BitVec.toNat_or, -BitVec.toNat_ofInt, -BitVec.toNat_and, fieldAddr_of fa52_5, load_of ld32, fieldAddr_of fa52_2, load_of ld3, fieldAddr_of fa52_3, build_of bo31, store_of sz32, fieldAddr_of fa52_6, store_of sz31, h.l5, h.l2, h.l3, hb]
    generalize hr : storeRow _ _ _ = r
    obtain ⟨m1, rfl, o1, k1⟩ := store_own hr h.h (by simp [St.cells, Tok.cells]) (by simp [one_int])
    have l2 : loadRow m1 ⟨b, 2, none⟩ 1 = some [.int .i64 σ.line] := o1.load1 (off := 2) rfl
    have l3 : loadRow m1 ⟨b, 3, none⟩ 1 = some [.int .i64 σ.col] := o1.load1 (off := 3) rfl
    simp [-BitVec.toNat_or, -BitVec.toNat_ofInt, -BitVec.toNat_and, fieldAddr_of fa52_5, load_of ld32, fieldAddr_of fa52_2, load_of ld3, fieldAddr_of fa52_3, build_of bo31, store_of sz32, fieldAddr_of fa52_6, store_of sz31, h.l2, h.l3, l2, l3]
    generalize hr2 : storeRow _ _ _ = r2
    obtain ⟨m2, rfl, o2, k2⟩ := store_own hr2 o1 (by simp [St.cells, Tok.cells, over]) (by simp [one_int, one_str])
    have l2' : loadRow m2 ⟨b, 2, none⟩ 1 = some [.int .i64 σ.line] := o2.load1 (off := 2) rfl
    have l3' : loadRow m2 ⟨b, 3, none⟩ 1 = some [.int .i64 σ.col] := o2.load1 (off := 3) rfl
    simp [-BitVec.toNat_or, -BitVec.toNat_ofInt, -BitVec.toNat_and, fieldAddr_of fa52_5, load_of ld32, fieldAddr_of fa52_2, load_of ld3, fieldAddr_of fa52_3, build_of bo31, store_of sz32, fieldAddr_of fa52_6, store_of sz31, h.l2, h.l3, l2, l3, l2', l3']
    have kk := k1.trans k2
    exact ⟨⟨by simpa [St.cells, St.fault, Tok.cells, over, hb] using o2, by simpa [St.fault, hb] using h.o.keep kk (by simpa using h.ne.symm), h.ne⟩, kk⟩
  · simp [-BitVec.toNat_or, -BitVec.toNat_ofInt, -BitVec.toNat_and, fieldAddr_of fa52_5, load_of ld32, fieldAddr_of fa52_2, load_of ld3, fieldAddr_of fa52_3, build_of bo31, store_of sz32, fieldAddr_of fa52_6, store_of sz31, h.l5, hb]
    exact ⟨by simpa [St.fault, hb] using h, .refl _ _⟩
end
end Go.Proofs.YtgomgdbapgibjaaDoor.base

