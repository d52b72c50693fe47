/-
  This text proves what container/heap does over the abstract run with chapter 23's numbers: what goes in comes out again, in whatever order.
  Condition: nothing is known of the calls ahead ('S f = []').
-/
import Derived.Test.YtkeapfbemlclmaaMovP
import Derived.Test.YtkeapfbemlclmaaGen
set_option maxRecDepth 100000
set_option linter.unusedSimpArgs false
set_option linter.unusedVariables false
namespace Go.Proofs.Ytkeapfbemlclmaa.base
open Go.Sh gen
variable {S : Sums} {m : Mem}
theorem mLen : mthDOk Try.prog 46 "Len" 40 42 = true := by kernel_rfl
theorem mLess : mthDOk Try.prog 46 "Less" 41 42 = true := by kernel_rfl
theorem mSwap : mthDOk Try.prog 46 "Swap" 42 42 = true := by kernel_rfl
theorem mPush : mthOk Try.prog 46 "Push" 44 = true := by kernel_rfl
theorem mPop : mthOk Try.prog 46 "Pop" 43 = true := by kernel_rfl
/-- a slice of numbers' cells -/
abbrev ic (l : List Int) : List Value := l.map (Value.int .i64)
theorem ic_at {l : List Int} {i : Nat} (h : i < l.length) : (ic l)[i]? = some (.int .i64 l[i]) := by simp [ic, h]
theorem ic_app {l : List Int} (rest : List Value) {i : Nat} (h : i < l.length) : (ic l ++ rest)[i]? = some (.int .i64 l[i]) := by rw [List.getElem?_append_left (by simpa using h)]; exact ic_at h
theorem len_run (hS : S 40 = []) {ao : Option Addr} {n c : Nat} : callw Try.prog TT S 40 [.slice ao n c] m = some (.int .i64 n, m) := by
  refine fn_eq 3 [] k40 hS rfl ?_
  simp [-Int.natCast_add, -BitVec.toNat_or, -BitVec.toNat_ofInt, -BitVec.toNat_and, len_slice u42]
theorem less_run (hS : S 41 = []) {a : Option Addr} {l : List Int} {e fam : Nat} (h : Sr m a l.length (ic l) e 1 fam) {i j : Nat} (hi : i < l.length) (hj : j < l.length) (hl : l.length ≤ 1000) :
    callw Try.prog TT S 41 [.slice a l.length l.length, .int .i64 i, .int .i64 j] m = some (.bool (decide (l[i] < l[j])), m) := by
  obtain ⟨b, rest, rfl, o⟩ := h.own (by omega)
  have l1 := o.load1 (ic_app rest hi)
  have l2 := o.load1 (ic_app rest hj)
  have e1 : (i : Int) ≤ 9223372036854775807 := by omega
  have e2 : (j : Int) ≤ 9223372036854775807 := by omega
  refine fn_eq 7 [] k41 hS rfl ?_
  simp [-Int.natCast_add, -BitVec.toNat_or, -BitVec.toNat_ofInt, -BitVec.toNat_and, index_slice u42 sz3, load_of ld3, l1, l2, e1, e2, hi, hj]
theorem over_set {l : List Int} {rest : List Value} {i : Nat} (hi : i < l.length) (x : Int) : over (ic l ++ rest) i [.int .i64 x] = ic (l.set i x) ++ rest := by
  simp only [over, ic, List.length_cons, List.length_nil, List.map_set]
  rw [List.set_eq_take_append_cons_drop, if_pos (by simpa using hi), List.take_append_of_le_length (by simp; omega), List.drop_append_of_le_length (by simp; omega)]
  simp
/-- two of them change places -/
def swp (l : List Int) (i j : Nat) : List Int := (l.set i (l.getD j 0)).set j (l.getD i 0)
theorem swp_len (l : List Int) (i j : Nat) : (swp l i j).length = l.length := by simp [swp]
theorem swp_perm {l : List Int} {i j : Nat} (hi : i < l.length) (hj : j < l.length) : (swp l i j).Perm l := by
  have h := List.set_set_perm hi hj
  simpa [swp, List.getD_eq_getElem?_getD, hi, hj] using h
theorem swap_run (hS : S 42 = []) {a : Option Addr} {l : List Int} {e fam : Nat} (h : Sr m a l.length (ic l) e 1 fam) {i j : Nat} (hi : i < l.length) (hj : j < l.length) (hl : l.length ≤ 1000) :
    ∃ v m1, callw Try.prog TT S 42 [.slice a l.length l.length, .int .i64 i, .int .i64 j] m = some (v, m1) ∧ Sr m1 a l.length (ic (swp l i j)) e 1 fam ∧ Keeps m m1 [fam] := by
  obtain ⟨b, rest, rfl, o⟩ := h.own (by omega)
  have l1 := o.load1 (ic_app rest hi)
  have l2 := o.load1 (ic_app rest hj)
  have e1 : (i : Int) ≤ 9223372036854775807 := by omega
  have e2 : (j : Int) ≤ 9223372036854775807 := by omega
  refine fn_w 3 [] k42 hS rfl ?_
  simp [-Int.natCast_add, -BitVec.toNat_or, -BitVec.toNat_ofInt, -BitVec.toNat_and, index_slice u42 sz3, load_of ld3, store_of sz3, l1, l2, e1, e2, hi, hj]
  generalize hra : storeRow _ _ _ = ra
  obtain ⟨m1, rfl, o1, k1⟩ := store_own hra o (by simp; omega) (by simp [one_int])
  simp [-Int.natCast_add, -BitVec.toNat_or, -BitVec.toNat_ofInt, -BitVec.toNat_and, index_slice u42 sz3, load_of ld3, store_of sz3, l1, l2, e1, e2, hi, hj]
  generalize hrb : storeRow _ _ _ = rb
  obtain ⟨m2, rfl, o2, k2⟩ := store_own hrb o1 (by simp [over]; omega) (by simp [one_int])
  simp [-Int.natCast_add, -BitVec.toNat_or, -BitVec.toNat_ofInt, -BitVec.toNat_and, index_slice u42 sz3, load_of ld3, store_of sz3, l1, l2, e1, e2, hi, hj]
  refine ⟨?_, k1.trans k2⟩
  have e3 : over (over (ic l ++ rest) i [.int .i64 l[j]]) j [.int .i64 l[i]] = ic (swp l i j) ++ rest := by
    rw [over_set hi, over_set (by simpa using hj)]
    simp [swp, List.getD_eq_getElem?_getD, hi, hj]
  exact ⟨by simp [swp], Or.inr ⟨b, rest, rfl, e3 ▸ o2⟩⟩
/-- the orderer in a memory: its numbers stand in the third field -/
structure OAt (m : Mem) (ob f0 : Nat) (x0 x1 x3 : Value) (a : Option Addr) (l : List Int) (fa : Nat) : Prop where
  own : Own m ob [x0, x1, .slice a l.length l.length, x3] 44 f0
  sl : Sr m a l.length (ic l) 3 1 fa
  ne : a ≠ none → fa ≠ f0
theorem OAt.swp {ob f0 fa : Nat} {x0 x1 x3 : Value} {a : Option Addr} {l l' : List Int} (h : OAt m ob f0 x0 x1 x3 a l fa) {m1 : Mem} (hl : l'.length = l.length) (ha : a ≠ none) (s : Sr m1 a l.length (ic l') 3 1 fa) (k : Keeps m m1 [fa]) : OAt m1 ob f0 x0 x1 x3 a l' fa :=
  ⟨by rw [hl]; exact h.own.keep k (by simpa using (h.ne ha).symm), by rw [hl]; exact s, h.ne⟩
/-- the numbers as an interface -/
abbrev hif (ob : Nat) : Value := .iface 46 (.pointer (some ⟨ob, 2, none⟩))
structure Nh (S : Sums) : Prop where
  len : S 40 = []
  less : S 41 = []
  swap : S 42 = []
  push : S 44 = []
  pop : S 43 = []
  up : S 21 = []
  down : S 23 = []
  hpush : S 18 = []
  hpop : S 22 = []
set_option maxHeartbeats 1000000 in
theorem up_run (hN : Nh S) {ob f0 fa : Nat} {x0 x1 x3 : Value} {a : Option Addr} {l : List Int} (h : OAt m ob f0 x0 x1 x3 a l fa) {j : Nat} (hj : j < l.length) (hl : l.length ≤ 1000) :
    ∃ v m1, callw Try.prog TT S 21 [hif ob, .int .i64 j] m = some (v, m1) ∧ (∃ l', l'.Perm l ∧ OAt m1 ob f0 x0 x1 x3 a l' fa) ∧ Keeps m m1 [fa] := by
  refine fn_w 5 [17] k21 hN.up rfl ?_
  simp [-Int.natCast_add, -BitVec.toNat_or, -BitVec.toNat_ofInt, -BitVec.toNat_and, id]
  refine wsem_loop 5 [17] (fun d E m2 => ∃ (j : Nat) (l' : List Int), j = d ∧ j < l.length ∧ l'.Perm l ∧ OAt m2 ob f0 x0 x1 x3 a l' fa ∧ Keeps m m2 [fa] ∧ E = [(0, hif ob), (1, .int .i64 j)]) _ ⟨_, ⟨j, l, rfl, hj, List.Perm.refl _, h, Keeps.refl _ _, rfl⟩, ⟨by rfl, by rfl, trivial⟩⟩ ?_
  rintro d E m2 ih ⟨j, l', rfl, hj, hp, h2, k2, rfl⟩
  have hll := hp.length_eq
  have em : (j : Int) ≤ 9223372036854775807 := by omega
  have ld := h2.own.load1 (off := 2) rfl
  have ha : a ≠ none := by
    obtain ⟨b, _, h0, _⟩ := h2.sl.own (by omega)
    rw [h0]; simp
  by_cases hj0 : j = 0
  · subst hj0
    have w0 : IntKind.i64.wrap ((IntKind.i64.wrap (-1)).tdiv 2) = 0 := by decide
    simp [-Int.natCast_add, -BitVec.toNat_or, -BitVec.toNat_ofInt, -BitVec.toNat_and, id, w0]
    exact ⟨⟨l', hp, h2⟩, k2⟩
  · obtain ⟨q, hq, wq⟩ : ∃ q : Nat, q < j ∧ IntKind.i64.wrap ((IntKind.i64.wrap ((j : Int) - 1)).tdiv 2) = (q : Int) := by
      refine ⟨(j - 1) / 2, by omega, ?_⟩
      have e1 : IntKind.i64.wrap ((j : Int) - 1) = ((j - 1 : Nat) : Int) := by rw [wrap_i64 (by omega) (by omega)]; omega
      rw [e1, Int.tdiv_eq_ediv_of_nonneg (by omega), wrap_i64 (by omega) (by omega)]; omega
    have q1 : ¬ (q : Int) = j := by omega
    have q2 : ¬ q = j := by omega
    have c1 := less_run (m := m2) hN.less h2.sl (i := j) (j := q) (by omega) (by omega) (by omega)
    obtain ⟨v3, m3, c3, s3, k3⟩ := swap_run (m := m2) hN.swap h2.sl (i := q) (j := j) (by omega) (by omega) (by omega)
    by_cases hc : l'[j] < l'[q]
    · simp [-Int.natCast_add, -BitVec.toNat_or, -BitVec.toNat_ofInt, -BitVec.toNat_and, id, wq, q1, q2, inv_ld mLess, inv_ld mSwap, ld, c1, hc, c3]
      have s4 := h2.swp (swp_len l' q j) ha s3 k3
      exact ih _ _ _ _ ⟨q, _, rfl, by omega, (swp_perm (by omega) (by omega)).trans hp, s4, k2.trans k3, rfl⟩ (by omega) ⟨by rfl, by rfl, trivial⟩
    · simp [-Int.natCast_add, -BitVec.toNat_or, -BitVec.toNat_ofInt, -BitVec.toNat_and, id, wq, q1, q2, inv_ld mLess, inv_ld mSwap, ld, c1, hc, c3]
      exact ⟨⟨l', hp, h2⟩, k2⟩
/-- a number is laid in -/
theorem push_run (hN : Nh S) {ob f0 fa : Nat} {x0 x1 x3 : Value} {a : Option Addr} {l : List Int} (h : OAt m ob f0 x0 x1 x3 a l fa) (hl : l.length ≤ 900) (x : Int) :
    ∃ v m1, callw Try.prog TT S 44 [.pointer (some ⟨ob, 2, none⟩), .iface 3 (.int .i64 x)] m = some (v, m1) ∧ (∃ a' fa', OAt m1 ob f0 x0 x1 x3 a' (l ++ [x]) fa' ∧ ((a ≠ none ∧ fa' = fa) ∨ m.next ≤ fa') ∧ a' ≠ none) ∧ Keeps m m1 (if a = none then [f0] else [f0, fa]) := by
  have ld := h.own.load1 (off := 2) rfl
  have lnn := (h.own.ln [.int .i64 x] 3 2 1).trans ld
  refine fn_w 2 [] k44 hN.push rfl ?_
  simp [-Int.natCast_add, -BitVec.toNat_or, -BitVec.toNat_ofInt, -BitVec.toNat_and, load_of ld42, asr_of ni3, buildSlice_of u42 bs3 rfl, append_s u42 sz3, store_of sz42, ld]
  generalize hra : sappend _ _ _ _ _ _ = ra
  obtain ⟨m1, a1, fa', rfl, o1, k1, hf, hne1, hfe⟩ := app_sr_new hra u42 ap3 h.sl (by omega) (by simp) (by simp [one_int]) (by omega) (by omega)
  have hne : f0 ∉ (if a = none then [] else [fa]) := by
    split
    · simp
    · rename_i ha; simpa using (h.ne ha).symm
  have o2 := h.own.keep k1 hne
  simp [-Int.natCast_add, -BitVec.toNat_or, -BitVec.toNat_ofInt, -BitVec.toNat_and, load_of ld42, asr_of ni3, buildSlice_of u42 bs3 rfl, append_s u42 sz3, store_of sz42, ld]
  generalize hrb : storeRow _ _ _ = rb
  obtain ⟨m2, rfl, o3, k2⟩ := store_own hrb o2 (by simp) (by simp [one_slice])
  simp [over] at o3
  simp [-Int.natCast_add, -BitVec.toNat_or, -BitVec.toNat_ofInt, -BitVec.toNat_and, load_of ld42, asr_of ni3, buildSlice_of u42 bs3 rfl, append_s u42 sz3, store_of sz42, ld, lnn]
  have hfn : fa' ≠ f0 := by
    rcases hf with ⟨h1, h2⟩ | h1
    · rw [h2]; exact h.ne h1
    · have := h.own.flt; omega
  have oa := o1.keep k2 (fun _ => by simpa using hfn)
  refine ⟨⟨a1, fa', ⟨by simpa using o3, by simpa [ic] using oa, fun _ => hfn⟩, hf, hne1⟩, ?_⟩
  split
  · rename_i ha
    rw [if_pos ha] at k1
    exact k1.nil.trans k2
  · rename_i ha
    rw [if_neg ha] at k1
    exact (k1.mono (by simp)).trans (k2.mono (by simp))
/-- and brought to its place -/
theorem hpush_run (hN : Nh S) {ob f0 fa : Nat} {x0 x1 x3 : Value} {a : Option Addr} {l : List Int} (h : OAt m ob f0 x0 x1 x3 a l fa) (hl : l.length ≤ 900) (x : Int) :
    ∃ v m1, callw Try.prog TT S 18 [hif ob, .iface 3 (.int .i64 x)] m = some (v, m1) ∧ (∃ a' fa' l', l'.Perm (x :: l) ∧ OAt m1 ob f0 x0 x1 x3 a' l' fa' ∧ ((a ≠ none ∧ fa' = fa) ∨ m.next ≤ fa')) ∧ Keeps m m1 (if a = none then [f0] else [f0, fa]) := by
  obtain ⟨v1, m1, c1, ⟨a', fa', h1, hf, ha'⟩, k1⟩ := push_run hN h hl x
  have ld := h1.own.load1 (off := 2) rfl
  have cl := len_run (m := m1) (S := S) hN.len (ao := a') (n := (l ++ [x]).length) (c := (l ++ [x]).length)
  obtain ⟨v2, m2, c2, ⟨l', hp, h2⟩, k2⟩ := up_run hN h1 (j := l.length) (by simp) (by simp; omega)
  have e1 : IntKind.i64.wrap (((l ++ [x]).length : Int) - 1) = l.length := by
    have e0 : (l ++ [x]).length = l.length + 1 := by simp
    rw [e0, wrap_i64 (by omega) (by omega)]; omega
  refine fn_w 2 [] k18 hN.hpush rfl ?_
  simp [-Int.natCast_add, -List.length_append, -BitVec.toNat_or, -BitVec.toNat_ofInt, -BitVec.toNat_and, id, inv_ptr mPush, inv_ld mLen, c1, ld, cl, e1, c2]
  refine ⟨⟨a', fa', l', hp.trans List.perm_append_comm, h2, hf⟩, ?_⟩
  split
  · rename_i ha
    rw [if_pos ha] at k1
    refine k1.mono2 (b := fa') (k2.mono (by simp)) ?_
    rcases hf with hf | hf
    · exact absurd ha hf.1
    · exact hf
  · rename_i ha
    rw [if_neg ha] at k1
    rcases hf with hf | hf
    · exact k1.trans (k2.mono (by simp [hf.2]))
    · exact k1.mono2 (b := fa') (k2.mono (by simp)) hf
/-- the last one is taken -/
theorem pop_run (hN : Nh S) {ob f0 fa : Nat} {x0 x1 x3 : Value} {a : Option Addr} {l : List Int} {x : Int} (h : OAt m ob f0 x0 x1 x3 a (l ++ [x]) fa) (hl : l.length ≤ 900) :
    ∃ v m1, callw Try.prog TT S 43 [.pointer (some ⟨ob, 2, none⟩)] m = some (v, m1) ∧ v = .iface 3 (.int .i64 x) ∧ OAt m1 ob f0 x0 x1 x3 a l fa ∧ Keeps m m1 [f0] := by
  have ld := h.own.load1 (off := 2) rfl
  obtain ⟨b, rest, rfl, o⟩ := h.sl.own (by simp)
  have lx := o.load1 (off := l.length) (v := .int .i64 x) (by simp [ic])
  have e1 : IntKind.i64.wrap (((l ++ [x]).length : Int) - 1) = l.length := by
    have e0 : (l ++ [x]).length = l.length + 1 := by simp
    rw [e0, wrap_i64 (by omega) (by omega)]; omega
  refine fn_w 5 [] k43 hN.pop rfl ?_
  have hlt : l.length < (l ++ [x]).length := by simp
  have hle : l.length ≤ (l ++ [x]).length := by simp
  have hlt' : (l.length : Int) < (l ++ [x]).length := by omega
  have em : (l.length : Int) ≤ 9223372036854775807 := by omega
  simp [-Int.natCast_add, -List.length_append, -BitVec.toNat_or, -BitVec.toNat_ofInt, -BitVec.toNat_and, load_of ld42, len_slice u42, index_slice u42 sz3, load_of ld3, slice_sl u42 sz3, store_of sz42, mkif_of ni3, ld, e1, lx, hlt, hlt', hle, em]
  generalize hra : storeRow _ _ _ = ra
  obtain ⟨m1, rfl, o1, k1⟩ := store_own hra h.own (by simp) (by simp [one_slice])
  simp [over] at o1
  simp [-Int.natCast_add, -List.length_append, -BitVec.toNat_or, -BitVec.toNat_ofInt, -BitVec.toNat_and, load_of ld42, len_slice u42, index_slice u42 sz3, load_of ld3, slice_sl u42 sz3, store_of sz42, mkif_of ni3, ld, e1, lx, hlt, hlt', hle, em]
  have s1 := h.sl.keep k1 (fun hn => by simpa using h.ne hn)
  have s2 : Sr m1 (some ⟨b, 0, none⟩) l.length (ic l) 3 1 fa := Sr.cut (more := [.int .i64 x]) (by simpa [ic] using s1) (by simp) (fun hn => by simp at hn)
  exact ⟨⟨o1, s2, h.ne⟩, k1⟩
end Go.Proofs.Ytkeapfbemlclmaa.base

