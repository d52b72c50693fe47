/-
  This text proves what the small functions of the document's chapter 3 do over the abstract run: letter, digit, IsWord, ends, add, text.
  Condition: nothing is known of their calls ahead ('S f = []').
-/
import Derived.Test.YtgomgdbapgibjaaDoorTokH
set_option maxRecDepth 100000
set_option linter.unusedSimpArgs false
set_option linter.unusedVariables false
namespace Go.Proofs.YtgomgdbapgibjaaDoor.base
open Go.Sh gen
variable {S : Sums} {m : Mem} {b f fo : Nat} {ao : Option Addr} {σ : St}
theorem rletter_run (hS : S 28 = []) (n : Nat) : callw Tryd.prog TT S 28 [.int .u8 n] m = some (.bool (ltr n), m) := by
  refine fn_eq 3 [] k28 hS rfl ?_
  unfold ltr
  by_cases e : n = 95
  · subst e; simp [-BitVec.toNat_or, -BitVec.toNat_ofInt, -BitVec.toNat_and, id]
  have e' : ¬ (n : Int) = 95 := by omega
  by_cases a : 97 ≤ n
  · have a' : (97 : Int) ≤ n := by omega
    by_cases c : n ≤ 122
    · have c' : (n : Int) ≤ 122 := by omega
      simp [-BitVec.toNat_or, -BitVec.toNat_ofInt, -BitVec.toNat_and, id, a, a', c, c', e, e']
    · have c' : ¬ (n : Int) ≤ 122 := by omega
      have a1 : 65 ≤ n := by omega
      have a2 : ¬ n ≤ 90 := by omega
      have a3 : (65 : Int) ≤ n := by omega
      have a4 : ¬ (n : Int) ≤ 90 := by omega
      simp [-BitVec.toNat_or, -BitVec.toNat_ofInt, -BitVec.toNat_and, id, a, a', c, c', e, e', a1, a2, a3, a4]
  · have a' : ¬ (97 : Int) ≤ n := by omega
    by_cases c : 65 ≤ n
    · have c' : (65 : Int) ≤ n := by omega
      by_cases d : n ≤ 90
      · have d' : (n : Int) ≤ 90 := by omega
        simp [-BitVec.toNat_or, -BitVec.toNat_ofInt, -BitVec.toNat_and, id, a, a', c, c', d, d', e, e']
      · have d' : ¬ (n : Int) ≤ 90 := by omega
        simp [-BitVec.toNat_or, -BitVec.toNat_ofInt, -BitVec.toNat_and, id, a, a', c, c', d, d', e, e']
    · have c' : ¬ (65 : Int) ≤ n := by omega
      simp [-BitVec.toNat_or, -BitVec.toNat_ofInt, -BitVec.toNat_and, id, a, a', c, c', e, e']
theorem rdigit_run (hS : S 29 = []) (n : Nat) : callw Tryd.prog TT S 29 [.int .u8 n] m = some (.bool (dgt n), m) := by
  refine fn_eq 3 [] k29 hS rfl ?_
  unfold dgt
  by_cases a : 48 ≤ n
  · have a' : (48 : Int) ≤ n := by omega
    by_cases b : n ≤ 57
    · have b' : (n : Int) ≤ 57 := by omega
      simp [-BitVec.toNat_or, -BitVec.toNat_ofInt, -BitVec.toNat_and, id, a, a', b, b']
    · have b' : ¬ (n : Int) ≤ 57 := by omega
      simp [-BitVec.toNat_or, -BitVec.toNat_ofInt, -BitVec.toNat_and, id, a, a', b, b']
  · have a' : ¬ (48 : Int) ≤ n := by omega
    simp [-BitVec.toNat_or, -BitVec.toNat_ofInt, -BitVec.toNat_and, id, a, a']
theorem risWord_run (hS : S 15 = []) (l : List UInt8) : callw Tryd.prog TT S 15 [.string ⟨l.toArray⟩] m = some (.bool (decide (l ∈ wordL)), m) := by
  refine fn_eq 4 [4, 4, 4, 4, 4, 4, 4, 4, 4, 4, 4, 4, 4, 4, 4, 4, 4, 4, 4, 4, 4, 4] k15 hS rfl ?_
  simp [-BitVec.toNat_or, -BitVec.toNat_ofInt, -BitVec.toNat_and, id]
  refine cnd_dec (fun e => by simp [-BitVec.toNat_or, -BitVec.toNat_ofInt, -BitVec.toNat_and, id, e, wordL]) (fun t1 => ?_)
  simp [-BitVec.toNat_or, -BitVec.toNat_ofInt, -BitVec.toNat_and, id, t1]
  refine cnd_dec (fun e => by simp [-BitVec.toNat_or, -BitVec.toNat_ofInt, -BitVec.toNat_and, id, e, wordL]) (fun t2 => ?_)
  simp [-BitVec.toNat_or, -BitVec.toNat_ofInt, -BitVec.toNat_and, id, t2]
  refine cnd_dec (fun e => by simp [-BitVec.toNat_or, -BitVec.toNat_ofInt, -BitVec.toNat_and, id, e, wordL]) (fun t3 => ?_)
  simp [-BitVec.toNat_or, -BitVec.toNat_ofInt, -BitVec.toNat_and, id, t3]
  refine cnd_dec (fun e => by simp [-BitVec.toNat_or, -BitVec.toNat_ofInt, -BitVec.toNat_and, id, e, wordL]) (fun t4 => ?_)
  simp [-BitVec.toNat_or, -BitVec.toNat_ofInt, -BitVec.toNat_and, id, t4]
  refine cnd_dec (fun e => by simp [-BitVec.toNat_or, -BitVec.toNat_ofInt, -BitVec.toNat_and, id, e, wordL]) (fun t5 => ?_)
  simp [-BitVec.toNat_or, -BitVec.toNat_ofInt, -BitVec.toNat_and, id, t5]
  refine cnd_dec (fun e => by simp [-BitVec.toNat_or, -BitVec.toNat_ofInt, -BitVec.toNat_and, id, e, wordL]) (fun t6 => ?_)
  simp [-BitVec.toNat_or, -BitVec.toNat_ofInt, -BitVec.toNat_and, id, t6]
  refine cnd_dec (fun e => by simp [-BitVec.toNat_or, -BitVec.toNat_ofInt, -BitVec.toNat_and, id, e, wordL]) (fun t7 => ?_)
  simp [-BitVec.toNat_or, -BitVec.toNat_ofInt, -BitVec.toNat_and, id, t7]
  refine cnd_dec (fun e => by simp [-BitVec.toNat_or, -BitVec.toNat_ofInt, -BitVec.toNat_and, id, e, wordL]) (fun t8 => ?_)
  simp [-BitVec.toNat_or, -BitVec.toNat_ofInt, -BitVec.toNat_and, id, t8]
  refine cnd_dec (fun e => by simp [-BitVec.toNat_or, -BitVec.toNat_ofInt, -BitVec.toNat_and, id, e, wordL]) (fun t9 => ?_)
  simp [-BitVec.toNat_or, -BitVec.toNat_ofInt, -BitVec.toNat_and, id, t9]
  refine cnd_dec (fun e => by simp [-BitVec.toNat_or, -BitVec.toNat_ofInt, -BitVec.toNat_and, id, e, wordL]) (fun t10 => ?_)
  simp [-BitVec.toNat_or, -BitVec.toNat_ofInt, -BitVec.toNat_and, id, t10]
  refine cnd_dec (fun e => by simp [-BitVec.toNat_or, -BitVec.toNat_ofInt, -BitVec.toNat_and, id, e, wordL]) (fun t11 => ?_)
  simp [-BitVec.toNat_or, -BitVec.toNat_ofInt, -BitVec.toNat_and, id, t11]
  refine cnd_dec (fun e => by simp [-BitVec.toNat_or, -BitVec.toNat_ofInt, -BitVec.toNat_and, id, e, wordL]) (fun t12 => ?_)
  simp [-BitVec.toNat_or, -BitVec.toNat_ofInt, -BitVec.toNat_and, id, t12]
  refine cnd_dec (fun e => by simp [-BitVec.toNat_or, -BitVec.toNat_ofInt, -BitVec.toNat_and, id, e, wordL]) (fun t13 => ?_)
  simp [-BitVec.toNat_or, -BitVec.toNat_ofInt, -BitVec.toNat_and, id, t13]
  refine cnd_dec (fun e => by simp [-BitVec.toNat_or, -BitVec.toNat_ofInt, -BitVec.toNat_and, id, e, wordL]) (fun t14 => ?_)
  simp [-BitVec.toNat_or, -BitVec.toNat_ofInt, -BitVec.toNat_and, id, t14]
  refine cnd_dec (fun e => by simp [-BitVec.toNat_or, -BitVec.toNat_ofInt, -BitVec.toNat_and, id, e, wordL]) (fun t15 => ?_)
  simp [-BitVec.toNat_or, -BitVec.toNat_ofInt, -BitVec.toNat_and, id, t15]
  refine cnd_dec (fun e => by simp [-BitVec.toNat_or, -BitVec.toNat_ofInt, -BitVec.toNat_and, id, e, wordL]) (fun t16 => ?_)
  simp [-BitVec.toNat_or, -BitVec.toNat_ofInt, -BitVec.toNat_and, id, t16]
  refine cnd_dec (fun e => by simp [-BitVec.toNat_or, -BitVec.toNat_ofInt, -BitVec.toNat_and, id, e, wordL]) (fun t17 => ?_)
  simp [-BitVec.toNat_or, -BitVec.toNat_ofInt, -BitVec.toNat_and, id, t17]
  refine cnd_dec (fun e => by simp [-BitVec.toNat_or, -BitVec.toNat_ofInt, -BitVec.toNat_and, id, e, wordL]) (fun t18 => ?_)
  simp [-BitVec.toNat_or, -BitVec.toNat_ofInt, -BitVec.toNat_and, id, t18]
  refine cnd_dec (fun e => by simp [-BitVec.toNat_or, -BitVec.toNat_ofInt, -BitVec.toNat_and, id, e, wordL]) (fun t19 => ?_)
  simp [-BitVec.toNat_or, -BitVec.toNat_ofInt, -BitVec.toNat_and, id, t19]
  refine cnd_dec (fun e => by simp [-BitVec.toNat_or, -BitVec.toNat_ofInt, -BitVec.toNat_and, id, e, wordL]) (fun t20 => ?_)
  simp [-BitVec.toNat_or, -BitVec.toNat_ofInt, -BitVec.toNat_and, id, t20]
  refine cnd_dec (fun e => by simp [-BitVec.toNat_or, -BitVec.toNat_ofInt, -BitVec.toNat_and, id, e, wordL]) (fun t21 => ?_)
  simp [-BitVec.toNat_or, -BitVec.toNat_ofInt, -BitVec.toNat_and, id, t21]
  refine cnd_dec (fun e => by simp [-BitVec.toNat_or, -BitVec.toNat_ofInt, -BitVec.toNat_and, id, e, wordL]) (fun t22 => ?_)
  simp [-BitVec.toNat_or, -BitVec.toNat_ofInt, -BitVec.toNat_and, id, t22]
  simp [wordL, t1, t2, t3, t4, t5, t6, t7, t8, t9, t10, t11, t12, t13, t14, t15, t16, t17, t18, t19, t20, t21, t22]
theorem rends_run (hS : S 30 = []) (x : Tok) : ∃ v m1, callw Tryd.prog TT S 30 [.agg x.cells.toArray] m = some (v, m1) ∧ v = .bool (endsT x) ∧ Keeps m m1 [] := by
  obtain ⟨on, kn, nn⟩ := new_own (m := m) (cs := x.cells) (e := 31) rfl
  have x0 := on.load1 (off := 0) rfl
  have x1 := on.load1 (off := 1) rfl
  refine fn_w 13 [13, 13, 13, 13, 13, 13, 13, 13, 13, 23] k30 hS rfl ?_
  simp [-BitVec.toNat_or, -BitVec.toNat_ofInt, -BitVec.toNat_and, box_of b31, fieldAddr_of fa31_0, load_of ld3, fieldAddr_of fa31_1, load_of ld9, x0, x1]
  refine cnd_dec (fun e => by simp [-BitVec.toNat_or, -BitVec.toNat_ofInt, -BitVec.toNat_and, box_of b31, fieldAddr_of fa31_0, load_of ld3, fieldAddr_of fa31_1, load_of ld9, e, endsT, kn]) (fun e2 => ?_)
  simp [-BitVec.toNat_or, -BitVec.toNat_ofInt, -BitVec.toNat_and, box_of b31, fieldAddr_of fa31_0, load_of ld3, fieldAddr_of fa31_1, load_of ld9, e2]
  refine cnd_dec (fun e => by simp [-BitVec.toNat_or, -BitVec.toNat_ofInt, -BitVec.toNat_and, box_of b31, fieldAddr_of fa31_0, load_of ld3, fieldAddr_of fa31_1, load_of ld9, e, endsT, kn]) (fun e4 => ?_)
  simp [-BitVec.toNat_or, -BitVec.toNat_ofInt, -BitVec.toNat_and, box_of b31, fieldAddr_of fa31_0, load_of ld3, fieldAddr_of fa31_1, load_of ld9, e4]
  refine cnd_dec (fun e => by simp [-BitVec.toNat_or, -BitVec.toNat_ofInt, -BitVec.toNat_and, box_of b31, fieldAddr_of fa31_0, load_of ld3, fieldAddr_of fa31_1, load_of ld9, e, endsT, kn]) (fun e5 => ?_)
  simp [-BitVec.toNat_or, -BitVec.toNat_ofInt, -BitVec.toNat_and, box_of b31, fieldAddr_of fa31_0, load_of ld3, fieldAddr_of fa31_1, load_of ld9, e5]
  refine cnd_dec (fun e3 => ?_) (fun e3 => ?_)
  · simp [-BitVec.toNat_or, -BitVec.toNat_ofInt, -BitVec.toNat_and, box_of b31, fieldAddr_of fa31_0, load_of ld3, fieldAddr_of fa31_1, load_of ld9, e3, x1]
    refine cnd_dec (fun e => by simp [-BitVec.toNat_or, -BitVec.toNat_ofInt, -BitVec.toNat_and, box_of b31, fieldAddr_of fa31_0, load_of ld3, fieldAddr_of fa31_1, load_of ld9, e, endsT, e3, ender, kn]) (fun t1 => ?_)
    simp [-BitVec.toNat_or, -BitVec.toNat_ofInt, -BitVec.toNat_and, box_of b31, fieldAddr_of fa31_0, load_of ld3, fieldAddr_of fa31_1, load_of ld9, t1]
    refine cnd_dec (fun e => by simp [-BitVec.toNat_or, -BitVec.toNat_ofInt, -BitVec.toNat_and, box_of b31, fieldAddr_of fa31_0, load_of ld3, fieldAddr_of fa31_1, load_of ld9, e, endsT, e3, ender, kn]) (fun t2 => ?_)
    simp [-BitVec.toNat_or, -BitVec.toNat_ofInt, -BitVec.toNat_and, box_of b31, fieldAddr_of fa31_0, load_of ld3, fieldAddr_of fa31_1, load_of ld9, t2]
    refine cnd_dec (fun e => by simp [-BitVec.toNat_or, -BitVec.toNat_ofInt, -BitVec.toNat_and, box_of b31, fieldAddr_of fa31_0, load_of ld3, fieldAddr_of fa31_1, load_of ld9, e, endsT, e3, ender, kn]) (fun t3 => ?_)
    simp [-BitVec.toNat_or, -BitVec.toNat_ofInt, -BitVec.toNat_and, box_of b31, fieldAddr_of fa31_0, load_of ld3, fieldAddr_of fa31_1, load_of ld9, t3]
    refine cnd_dec (fun e => by simp [-BitVec.toNat_or, -BitVec.toNat_ofInt, -BitVec.toNat_and, box_of b31, fieldAddr_of fa31_0, load_of ld3, fieldAddr_of fa31_1, load_of ld9, e, endsT, e3, ender, kn]) (fun t4 => ?_)
    simp [-BitVec.toNat_or, -BitVec.toNat_ofInt, -BitVec.toNat_and, box_of b31, fieldAddr_of fa31_0, load_of ld3, fieldAddr_of fa31_1, load_of ld9, t4]
    refine cnd_dec (fun e => by simp [-BitVec.toNat_or, -BitVec.toNat_ofInt, -BitVec.toNat_and, box_of b31, fieldAddr_of fa31_0, load_of ld3, fieldAddr_of fa31_1, load_of ld9, e, endsT, e3, ender, kn]) (fun t5 => ?_)
    simp [-BitVec.toNat_or, -BitVec.toNat_ofInt, -BitVec.toNat_and, box_of b31, fieldAddr_of fa31_0, load_of ld3, fieldAddr_of fa31_1, load_of ld9, t5]
    refine cnd_dec (fun e => by simp [-BitVec.toNat_or, -BitVec.toNat_ofInt, -BitVec.toNat_and, box_of b31, fieldAddr_of fa31_0, load_of ld3, fieldAddr_of fa31_1, load_of ld9, e, endsT, e3, ender, kn]) (fun t6 => ?_)
    simp [-BitVec.toNat_or, -BitVec.toNat_ofInt, -BitVec.toNat_and, box_of b31, fieldAddr_of fa31_0, load_of ld3, fieldAddr_of fa31_1, load_of ld9, t6]
    refine cnd_dec (fun e => by simp [-BitVec.toNat_or, -BitVec.toNat_ofInt, -BitVec.toNat_and, box_of b31, fieldAddr_of fa31_0, load_of ld3, fieldAddr_of fa31_1, load_of ld9, e, endsT, e3, ender, kn]) (fun t7 => ?_)
    simp [-BitVec.toNat_or, -BitVec.toNat_ofInt, -BitVec.toNat_and, box_of b31, fieldAddr_of fa31_0, load_of ld3, fieldAddr_of fa31_1, load_of ld9, t7]
    refine cnd_dec (fun e => by simp [-BitVec.toNat_or, -BitVec.toNat_ofInt, -BitVec.toNat_and, box_of b31, fieldAddr_of fa31_0, load_of ld3, fieldAddr_of fa31_1, load_of ld9, e, endsT, e3, ender, kn]) (fun t8 => ?_)
    simp [-BitVec.toNat_or, -BitVec.toNat_ofInt, -BitVec.toNat_and, box_of b31, fieldAddr_of fa31_0, load_of ld3, fieldAddr_of fa31_1, load_of ld9, t8]
    refine cnd_dec (fun e => by simp [-BitVec.toNat_or, -BitVec.toNat_ofInt, -BitVec.toNat_and, box_of b31, fieldAddr_of fa31_0, load_of ld3, fieldAddr_of fa31_1, load_of ld9, e, endsT, e3, ender, kn]) (fun t9 => ?_)
    simp [-BitVec.toNat_or, -BitVec.toNat_ofInt, -BitVec.toNat_and, box_of b31, fieldAddr_of fa31_0, load_of ld3, fieldAddr_of fa31_1, load_of ld9, t9]
    exact ⟨by simp [endsT, e3, ender, t1, t2, t3, t4, t5, t6, t7, t8, t9], kn⟩
  · simp [-BitVec.toNat_or, -BitVec.toNat_ofInt, -BitVec.toNat_and, box_of b31, fieldAddr_of fa31_0, load_of ld3, fieldAddr_of fa31_1, load_of ld9, e3]
    refine cnd_dec (fun e6 => ?_) (fun e6 => ?_)
    · by_cases u1 : x.t = [41]
      · simp [-BitVec.toNat_or, -BitVec.toNat_ofInt, -BitVec.toNat_and, box_of b31, fieldAddr_of fa31_0, load_of ld3, fieldAddr_of fa31_1, load_of ld9, e6, x1, u1, endsT, kn]
      · by_cases u2 : x.t = [93]
        · simp [-BitVec.toNat_or, -BitVec.toNat_ofInt, -BitVec.toNat_and, box_of b31, fieldAddr_of fa31_0, load_of ld3, fieldAddr_of fa31_1, load_of ld9, e6, x1, u1, u2, endsT, kn]
        · simp [-BitVec.toNat_or, -BitVec.toNat_ofInt, -BitVec.toNat_and, box_of b31, fieldAddr_of fa31_0, load_of ld3, fieldAddr_of fa31_1, load_of ld9, e6, x1, u1, u2, endsT, kn]
    · simp [-BitVec.toNat_or, -BitVec.toNat_ofInt, -BitVec.toNat_and, box_of b31, fieldAddr_of fa31_0, load_of ld3, fieldAddr_of fa31_1, load_of ld9, e6]
      exact ⟨by simp [endsT, e2, e3, e4, e5, e6], kn⟩
def fcells (σ : St) (ao : Option Addr) : List Value := [.slice ao σ.out.length σ.out.length, .int .i64 σ.line, .int .i64 σ.col, .bool (decide (σ.bad ≠ 0))]
structure Fd (m : Mem) (b f : Nat) (ao : Option Addr) (fo : Nat) (σ : St) : Prop where
  h : Own m b (fcells σ ao) 57 f
  o : Sl m ao σ.out.length (outCells σ.out) 31 5 fo
  ne : f ≠ fo
theorem Fd.keep {m1 : Mem} {fs : List Nat} (h : Fd m b f ao fo σ) (k : Keeps m m1 fs) (h1 : f ∉ fs) (h2 : fo ∉ fs) : Fd m1 b f ao fo σ := ⟨h.h.keep k h1, h.o.keep k h2, h.ne⟩
theorem Fd.l0 (h : Fd m b f ao fo σ) : loadRow m ⟨b, 0, none⟩ 1 = some [.slice ao σ.out.length σ.out.length] := h.h.load1 (off := 0) rfl
theorem Fd.l1 (h : Fd m b f ao fo σ) : loadRow m ⟨b, 1, none⟩ 1 = some [.int .i64 σ.line] := h.h.load1 (off := 1) rfl
theorem Fd.l2 (h : Fd m b f ao fo σ) : loadRow m ⟨b, 2, none⟩ 1 = some [.int .i64 σ.col] := h.h.load1 (off := 2) rfl
theorem Fd.l3 (h : Fd m b f ao fo σ) : loadRow m ⟨b, 3, none⟩ 1 = some [.bool (decide (σ.bad ≠ 0))] := h.h.load1 (off := 3) rfl
theorem add_run (hS : S 31 = []) (h : Fd m b f ao fo σ) (hb : Bd σ) (h0 : σ.bad = 0) (k : Int) (t : List UInt8) (n l c : Int) :
    ∃ v m1, callw Tryd.prog TT S 31 [.pointer (some ⟨b, 0, none⟩), .agg #[.int .i64 k, .string ⟨t.toArray⟩, .int .i64 n, .int .i64 l, .int .i64 c]] m = some (v, m1) ∧ v = .tuple #[] ∧ ∃ ao1 fo1, Fd m1 b f ao1 fo1 (σ.put k t n) ∧ Keeps m m1 [f, fo] ∧ (fo1 = fo ∨ m.next ≤ fo1) := by
  obtain ⟨on, kn, nn⟩ := new_own (m := m) (cs := [.int .i64 k, .string ⟨t.toArray⟩, .int .i64 n, .int .i64 l, .int .i64 c]) (e := 31) rfl
  have hn := h.keep kn (by simp) (by simp)
  have hflt := h.h.flt
  have ho := hb.o
  refine fn_w 4 [27] k31 hS rfl ?_
  by_cases hf : σ.out.length = 4000
  · have hf' : (4000 : Int) ≤ σ.out.length := by omega
    simp [-BitVec.toNat_or, -BitVec.toNat_ofInt, -BitVec.toNat_and, box_of b31, fieldAddr_of fa57_0, load_of ld29, len_slice u29, fieldAddr_of fa57_3, store_of sz4, fieldAddr_of fa57_1, load_of ld3, fieldAddr_of fa31_3, store_of sz3, fieldAddr_of fa57_2, fieldAddr_of fa31_4, load_of ld4, load_agg ld31, buildSlice_of u29 bs31 rfl, append_s u29 sz31, store_of sz29, hn.l0, hf', hf]
    generalize hr1 : storeRow _ _ _ = r1
    obtain ⟨m1, rfl, o1, k1⟩ := store_own hr1 hn.h (by simp [fcells]) (by simp [one_bool])
    have on1 := on.keep k1 (by simp; omega)
    have p1 : loadRow m1 ⟨b, 1, none⟩ 1 = some [.int .i64 σ.line] := o1.load1 (off := 1) rfl
    simp [-BitVec.toNat_or, -BitVec.toNat_ofInt, -BitVec.toNat_and, box_of b31, fieldAddr_of fa57_0, load_of ld29, len_slice u29, fieldAddr_of fa57_3, store_of sz4, fieldAddr_of fa57_1, load_of ld3, fieldAddr_of fa31_3, store_of sz3, fieldAddr_of fa57_2, fieldAddr_of fa31_4, load_of ld4, load_agg ld31, buildSlice_of u29 bs31 rfl, append_s u29 sz31, store_of sz29, p1]
    generalize hr2 : storeRow _ _ _ = r2
    obtain ⟨m2, rfl, on2, k2⟩ := store_own hr2 on1 (by simp) (by simp [one_int])
    have o2 := o1.keep k2 (by simp; omega)
    have p2 : loadRow m2 ⟨b, 2, none⟩ 1 = some [.int .i64 σ.col] := o2.load1 (off := 2) rfl
    simp [-BitVec.toNat_or, -BitVec.toNat_ofInt, -BitVec.toNat_and, box_of b31, fieldAddr_of fa57_0, load_of ld29, len_slice u29, fieldAddr_of fa57_3, store_of sz4, fieldAddr_of fa57_1, load_of ld3, fieldAddr_of fa31_3, store_of sz3, fieldAddr_of fa57_2, fieldAddr_of fa31_4, load_of ld4, load_agg ld31, buildSlice_of u29 bs31 rfl, append_s u29 sz31, store_of sz29, p2]
    generalize hr3 : storeRow _ _ _ = r3
    obtain ⟨m3, rfl, on3, k3⟩ := store_own hr3 on2 (by simp [over]) (by simp [one_int])
    have o3 := o2.keep k3 (by simp; omega)
    have p3 := o3.load1 (off := 3) rfl
    have p0 : loadRow m3 ⟨b, 0, none⟩ 1 = some [.slice ao σ.out.length σ.out.length] := o3.load1 (off := 0) rfl
    have kk3 : Keeps m m3 [f, m.next] := ((kn.nil.trans (k1.mono (by simp))).trans (k2.mono (by simp))).trans (k3.mono (by simp))
    have kk3' : Keeps m m3 [f, fo] := kk3.drop (by simp) (Nat.le_refl _)
    simp [-BitVec.toNat_or, -BitVec.toNat_ofInt, -BitVec.toNat_and, box_of b31, fieldAddr_of fa57_0, load_of ld29, len_slice u29, fieldAddr_of fa57_3, store_of sz4, fieldAddr_of fa57_1, load_of ld3, fieldAddr_of fa31_3, store_of sz3, fieldAddr_of fa57_2, fieldAddr_of fa31_4, load_of ld4, load_agg ld31, buildSlice_of u29 bs31 rfl, append_s u29 sz31, store_of sz29, p3]
    refine ⟨ao, fo, ⟨?_, ?_, h.ne⟩, kk3', Or.inl rfl⟩
    · simpa [fcells, St.put, hf, over] using o3
    · have := h.o.keep2 kk3 (fun hlt => by have := h.ne; simp; omega)
      simpa [St.put, hf] using this
  · have hf' : ¬ (4000 : Int) ≤ σ.out.length := by omega
    simp [-BitVec.toNat_or, -BitVec.toNat_ofInt, -BitVec.toNat_and, box_of b31, fieldAddr_of fa57_0, load_of ld29, len_slice u29, fieldAddr_of fa57_3, store_of sz4, fieldAddr_of fa57_1, load_of ld3, fieldAddr_of fa31_3, store_of sz3, fieldAddr_of fa57_2, fieldAddr_of fa31_4, load_of ld4, load_agg ld31, buildSlice_of u29 bs31 rfl, append_s u29 sz31, store_of sz29, hn.l0, hf', hf]
    generalize hr1 : storeRow _ _ _ = r1
    obtain ⟨m1, rfl, o1, k1⟩ := store_own hr1 hn.h (by simp [fcells]) (by simp [one_bool])
    have on1 := on.keep k1 (by simp; omega)
    have p1 : loadRow m1 ⟨b, 1, none⟩ 1 = some [.int .i64 σ.line] := o1.load1 (off := 1) rfl
    simp [-BitVec.toNat_or, -BitVec.toNat_ofInt, -BitVec.toNat_and, box_of b31, fieldAddr_of fa57_0, load_of ld29, len_slice u29, fieldAddr_of fa57_3, store_of sz4, fieldAddr_of fa57_1, load_of ld3, fieldAddr_of fa31_3, store_of sz3, fieldAddr_of fa57_2, fieldAddr_of fa31_4, load_of ld4, load_agg ld31, buildSlice_of u29 bs31 rfl, append_s u29 sz31, store_of sz29, p1]
    generalize hr2 : storeRow _ _ _ = r2
    obtain ⟨m2, rfl, on2, k2⟩ := store_own hr2 on1 (by simp) (by simp [one_int])
    have o2 := o1.keep k2 (by simp; omega)
    have p2 : loadRow m2 ⟨b, 2, none⟩ 1 = some [.int .i64 σ.col] := o2.load1 (off := 2) rfl
    simp [-BitVec.toNat_or, -BitVec.toNat_ofInt, -BitVec.toNat_and, box_of b31, fieldAddr_of fa57_0, load_of ld29, len_slice u29, fieldAddr_of fa57_3, store_of sz4, fieldAddr_of fa57_1, load_of ld3, fieldAddr_of fa31_3, store_of sz3, fieldAddr_of fa57_2, fieldAddr_of fa31_4, load_of ld4, load_agg ld31, buildSlice_of u29 bs31 rfl, append_s u29 sz31, store_of sz29, p2]
    generalize hr3 : storeRow _ _ _ = r3
    obtain ⟨m3, rfl, on3, k3⟩ := store_own hr3 on2 (by simp [over]) (by simp [one_int])
    have o3 := o2.keep k3 (by simp; omega)
    have p3 := o3.load1 (off := 3) rfl
    have p0 : loadRow m3 ⟨b, 0, none⟩ 1 = some [.slice ao σ.out.length σ.out.length] := o3.load1 (off := 0) rfl
    have kk3 : Keeps m m3 [f, m.next] := ((kn.nil.trans (k1.mono (by simp))).trans (k2.mono (by simp))).trans (k3.mono (by simp))
    have kk3' : Keeps m m3 [f, fo] := kk3.drop (by simp) (Nat.le_refl _)
    have so := h.o.keep2 kk3 (fun hlt => by have := h.ne; simp; omega)
    have ptk := on3.load (off := 0) 5 (by simp [over])
    simp [over, window] at ptk
    simp [-BitVec.toNat_or, -BitVec.toNat_ofInt, -BitVec.toNat_and, box_of b31, fieldAddr_of fa57_0, load_of ld29, len_slice u29, fieldAddr_of fa57_3, store_of sz4, fieldAddr_of fa57_1, load_of ld3, fieldAddr_of fa31_3, store_of sz3, fieldAddr_of fa57_2, fieldAddr_of fa31_4, load_of ld4, load_agg ld31, buildSlice_of u29 bs31 rfl, append_s u29 sz31, store_of sz29, p3, p0, ptk]
    generalize hr4 : sappend _ _ _ _ _ _ = r4
    obtain ⟨m4, ao4, f4, rfl, s4, k4, hf4⟩ := app_sl_new hr4 u29 ap31 so (by simp) (by simp [one_int, one_str]) (by omega) (by omega)
    have hm3 := kk3.1
    have o4 := o3.keep k4 (by simpa using h.ne)
    have p04 : loadRow m4 ⟨b, 0, none⟩ 1 = some [.slice ao σ.out.length σ.out.length] := o4.load1 (off := 0) rfl
    simp [-BitVec.toNat_or, -BitVec.toNat_ofInt, -BitVec.toNat_and, box_of b31, fieldAddr_of fa57_0, load_of ld29, len_slice u29, fieldAddr_of fa57_3, store_of sz4, fieldAddr_of fa57_1, load_of ld3, fieldAddr_of fa31_3, store_of sz3, fieldAddr_of fa57_2, fieldAddr_of fa31_4, load_of ld4, load_agg ld31, buildSlice_of u29 bs31 rfl, append_s u29 sz31, store_of sz29, p3, p0, ptk, o3.ln, on3.ln, p04]
    generalize hr5 : storeRow _ _ _ = r5
    obtain ⟨m5, rfl, o5, k5⟩ := store_own hr5 o4 (by simp [fcells, over]) (by simp [one_slice])
    simp [-BitVec.toNat_or, -BitVec.toNat_ofInt, -BitVec.toNat_and, box_of b31, fieldAddr_of fa57_0, load_of ld29, len_slice u29, fieldAddr_of fa57_3, store_of sz4, fieldAddr_of fa57_1, load_of ld3, fieldAddr_of fa31_3, store_of sz3, fieldAddr_of fa57_2, fieldAddr_of fa31_4, load_of ld4, load_agg ld31, buildSlice_of u29 bs31 rfl, append_s u29 sz31, store_of sz29, p3, p0, ptk, o3.ln, on3.ln, p04]
    have hne : f ≠ f4 := by
      rcases hf4 with rfl | hf4
      · exact h.ne
      · omega
    refine ⟨ao4, f4, ⟨?_, ?_, hne⟩, (kk3'.trans (k4.mono (by simp))).trans (k5.mono (by simp)), by omega⟩
    · simpa [fcells, St.put, hf, over, h0] using o5
    · have := s4.keep k5 (by simpa using hne.symm)
      simpa [St.put, hf, outCells, Tok.cells] using this
end Go.Proofs.YtgomgdbapgibjaaDoor.base

