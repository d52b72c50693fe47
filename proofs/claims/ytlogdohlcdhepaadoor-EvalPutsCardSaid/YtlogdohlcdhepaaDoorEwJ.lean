/-
  This text proves what Dominators' 'meet' answers, over the abstract run.
  Condition: nothing is known of the calls ahead ('S f = []').
-/
import Derived.Test.YtlogdohlcdhepaaDoorEwI
set_option maxRecDepth 100000
set_option linter.unusedSimpArgs false
set_option linter.unusedVariables false
namespace Go.Proofs.YtlogdohlcdhepaaDoor.base
open Go.Sh gen
variable {S : Sums} {m : Mem}
def meetIt (P I : List Int) : Nat → Nat → Nat → Option Nat
  | 0, a, b => if a = b then some a else none
  | d + 1, a, b => if a = b then none else if P.getD b 0 < P.getD a 0 then meetIt P I d (I.getD a 0).toNat b else meetIt P I d a (I.getD b 0).toNat
structure DAt (m : Mem) (n ib pb ix px : Nat) (I P : List Int) : Prop where
  vi : Own m ib [.slice (some ⟨ix, 0, none⟩) n n] 36 ib
  vp : Own m pb [.slice (some ⟨px, 0, none⟩) n n] 36 pb
  oi : Own m ix (ints I) 3 ix
  op : Own m px (ints P) 3 px
  li : I.length = n
  lp : P.length = n
  ne : ib ≠ pb ∧ ib ≠ ix ∧ ib ≠ px ∧ pb ≠ ix ∧ pb ≠ px ∧ ix ≠ px
theorem DAt.keep {m1 : Mem} {n ib pb ix px : Nat} {I P : List Int} {fs : List Nat} (h : DAt m n ib pb ix px I P) (k : Keeps m m1 fs) (h1 : ib ∉ fs) (h2 : pb ∉ fs) (h3 : ix ∉ fs) (h4 : px ∉ fs) : DAt m1 n ib pb ix px I P :=
  ⟨h.vi.keep k h1, h.vp.keep k h2, h.oi.keep k h3, h.op.keep k h4, h.li, h.lp, h.ne⟩
theorem DAt.seti {n ib pb ix px : Nat} {I P : List Int} (h : DAt m n ib pb ix px I P) {i : Nat} (hi : i < n) (v : Int) :
    ∃ m1, storeRow m ⟨ix, i, none⟩ [.int .i64 v] = some m1 ∧ DAt m1 n ib pb ix px (I.set i v) P ∧ Keeps m m1 [ix] := by
  obtain ⟨m1, e1, o1, k1⟩ := own_seti h.oi (i := i) (by rw [h.li]; exact hi) v
  obtain ⟨n1, n2, n3, n4, n5, n6⟩ := h.ne
  exact ⟨m1, e1, ⟨h.vi.keep k1 (by simpa using n2), h.vp.keep k1 (by simpa using n4), o1, h.op.keep k1 (by simpa using Ne.symm n6), by simpa using h.li, h.lp, h.ne⟩, k1⟩
theorem DAt.setp {n ib pb ix px : Nat} {I P : List Int} (h : DAt m n ib pb ix px I P) {i : Nat} (hi : i < n) (v : Int) :
    ∃ m1, storeRow m ⟨px, i, none⟩ [.int .i64 v] = some m1 ∧ DAt m1 n ib pb ix px I (P.set i v) ∧ Keeps m m1 [px] := by
  obtain ⟨m1, e1, o1, k1⟩ := own_seti h.op (i := i) (by rw [h.lp]; exact hi) v
  obtain ⟨n1, n2, n3, n4, n5, n6⟩ := h.ne
  exact ⟨m1, e1, ⟨h.vi.keep k1 (by simpa using n3), h.vp.keep k1 (by simpa using n5), h.oi.keep k1 (by simpa using n6), o1, h.li, by simpa using h.lp, h.ne⟩, k1⟩
def UpOk (n : Nat) (I : List Int) : Prop := ∀ x < n, 0 ≤ I.getD x 0 → I.getD x 0 < n ∧ 0 ≤ I.getD (I.getD x 0).toNat 0
set_option maxHeartbeats 4000000 in
theorem meet_run (hS : S 73 = []) {n ib pb ix px : Nat} {I P : List Int} (h : DAt m n ib pb ix px I P) (hn : n ≤ 1000000) (hI : UpOk n I) {a b c D : Nat} (ha : a < n) (hb : b < n) (ha0 : 0 ≤ I.getD a 0) (hb0 : 0 ≤ I.getD b 0) (hm : meetIt P I D a b = some c) :
    callw Tryd.prog TT S 73 [.int .i64 (a : Int), .int .i64 (b : Int), .pointer (some ⟨pb, 0, none⟩), .pointer (some ⟨ib, 0, none⟩)] m = some (.int .i64 (c : Int), m) := by
  have vi := h.vi.load1 (off := 0) rfl
  have vp := h.vp.load1 (off := 0) rfl
  refine fn_eq 7 [9, 18] k73 hS rfl ?_
  simp [-Int.natCast_add]
  refine wsem_loop 7 [9, 18] (fun d E mF => ∃ (a b : Nat), mF = m ∧ a < n ∧ b < n ∧ 0 ≤ I.getD a 0 ∧ 0 ≤ I.getD b 0 ∧ meetIt P I d a b = some c ∧
    E = [(0, .int .i64 (a : Int)), (1, .int .i64 (b : Int)), (2, .pointer (some ⟨pb, 0, none⟩)), (3, .pointer (some ⟨ib, 0, none⟩))]) D ⟨_, ⟨a, b, rfl, ha, hb, ha0, hb0, hm, rfl⟩, ⟨by rfl, by rfl, by rfl, by rfl, trivial⟩⟩ ?_
  clear ha hb ha0 hb0 hm
  rintro d E mF ih ⟨a, b, rfl, ha, hb, ha0, hb0, hm, rfl⟩
  have a1 : (a : Int) < n := by omega
  have b1 : (b : Int) < n := by omega
  have a2 : (a : Int) ≤ 9223372036854775807 := by omega
  have b2 : (b : Int) ≤ 9223372036854775807 := by omega
  have pa := h.op.load1 (off := a) (ints_at (by rw [h.lp]; exact ha))
  have pb' := h.op.load1 (off := b) (ints_at (by rw [h.lp]; exact hb))
  have ia := h.oi.load1 (off := a) (ints_at (by rw [h.li]; exact ha))
  have ib' := h.oi.load1 (off := b) (ints_at (by rw [h.li]; exact hb))
  by_cases e : a = b
  · subst e
    have : c = a := by
      cases d with
      | zero => simp only [meetIt, if_true, Option.some.injEq] at hm; exact hm.symm
      | succ d => simp only [meetIt, if_true] at hm; cases hm
    subst this
    simp [-Int.natCast_add, -List.getD_eq_getElem?_getD]
  have e1 : ¬ (a : Int) = b := by omega
  cases d with
  | zero => simp only [meetIt, if_neg e] at hm; cases hm
  | succ d =>
    rw [meetIt, if_neg e] at hm
    have ua := hI a ha ha0
    have ub := hI b hb hb0
    obtain ⟨a', ea⟩ : ∃ a' : Nat, I.getD a 0 = (a' : Int) := ⟨(I.getD a 0).toNat, by omega⟩
    obtain ⟨b', eb⟩ : ∃ b' : Nat, I.getD b 0 = (b' : Int) := ⟨(I.getD b 0).toNat, by omega⟩
    rw [ea] at ua hm ia ha0
    rw [eb] at ub hm ib' hb0
    rw [Int.toNat_natCast] at ua ub
    rw [Int.toNat_natCast, Int.toNat_natCast] at hm
    obtain ⟨x, hx⟩ : ∃ x, P.getD a 0 = x := ⟨_, rfl⟩
    obtain ⟨y, hy⟩ : ∃ x, P.getD b 0 = x := ⟨_, rfl⟩
    rw [hx] at pa hm
    rw [hy] at pb' hm
    by_cases hxy : y < x
    · rw [if_pos hxy] at hm
      simp [-Int.natCast_add, -List.getD_eq_getElem?_getD, load_of ld36, index_slice u36 sz3, load_of ld3, e1, vp, vi, a2, b2, ha, hb, pa, pb', ia, hxy]
      exact ih _ _ _ _ ⟨a', b, rfl, by omega, hb, ua.2, by rw [eb]; omega, hm, rfl⟩ (by omega) ⟨by rfl, by rfl, by rfl, by rfl, trivial⟩
    · rw [if_neg hxy] at hm
      simp [-Int.natCast_add, -List.getD_eq_getElem?_getD, load_of ld36, index_slice u36 sz3, load_of ld3, e1, vp, vi, a2, b2, ha, hb, pa, pb', ib', hxy]
      exact ih _ _ _ _ ⟨a, b', rfl, ha, by omega, by rw [ea]; omega, ub.2, hm, rfl⟩ (by omega) ⟨by rfl, by rfl, by rfl, by rfl, trivial⟩
end Go.Proofs.YtlogdohlcdhepaaDoor.base

