/-
  This text proves what a world's functions answer over the abstract run: Heap, Lit, Full, Print, Trace, Equal, Less, Cat.
  Condition: nothing is known of the calls ahead ('S f = []'); the table of powers of ten is laid.
-/
import Derived.Test.YtggbgelfgfmikaaDoorFmtB
import Derived.Test.YtggbgelfgfmikaaDoorWorA
set_option maxRecDepth 100000
set_option linter.unusedSimpArgs false
set_option linter.unusedVariables false
namespace Go.Proofs.YtggbgelfgfmikaaDoor.base
open Go.Sh gen
variable {S : Sums} {m : Mem}
section
variable {b f hb hf wb wf lf nf : Nat} {ws : List Int} {room : Int} {lo no : Option Addr} {lits : List Int} {lines : List (List UInt8)}
theorem WAt.keep {m1 : Mem} {fs : List Nat} (h : WAt m b f hb hf wb wf ws room lo no lf nf lits lines) (k : Keeps m m1 fs) (h1 : f ∉ fs) (h2 : hf ∉ fs) (h3 : wf ∉ fs) (h4 : lo ≠ none → lf ∉ fs) (h5 : no ≠ none → nf ∉ fs) : WAt m1 b f hb hf wb wf ws room lo no lf nf lits lines := by
  obtain ⟨ty, io, e1, e2, o⟩ := h.own
  exact ⟨⟨ty, io, e1, e2, o.keep k h1⟩, h.heap.keep k h2 h3, h.lits.keepz k h4, h.lines.keepz k h5, h.d1⟩
theorem WAt.keep0 {m1 : Mem} (h : WAt m b f hb hf wb wf ws room lo no lf nf lits lines) (k : Keeps m m1 []) : WAt m1 b f hb hf wb wf ws room lo no lf nf lits lines := h.keep k (by simp) (by simp) (by simp) (by simp) (by simp)
theorem heap_run (hS : S 19 = []) (h : WAt m b f hb hf wb wf ws room lo no lf nf lits lines) : callw Tryd.prog TT S 19 [.pointer (some ⟨b, 0, none⟩)] m = some (.pointer (some ⟨hb, 0, none⟩), m) := by
  obtain ⟨ty, io, e1, e2, o⟩ := h.own
  have l := o.load1 (off := 1) rfl
  refine fn_eq 3 [] k19 hS rfl ?_
  simp [-BitVec.toNat_or, -BitVec.toNat_ofInt, -BitVec.toNat_and, fieldAddr_of fa74_1, load_of ld44, l]
theorem lit_run (hS : S 17 = []) (h : WAt m b f hb hf wb wf ws room lo no lf nf lits lines) {k : Nat} (hk : k < lits.length) (hl : lits.length ≤ 1000) : callw Tryd.prog TT S 17 [.pointer (some ⟨b, 0, none⟩), .int .i64 (k : Int)] m = some (.int .u64 (lits.getD k 0), m) := by
  obtain ⟨ty, io, e1, e2, o⟩ := h.own
  have l := o.load1 (off := 2) rfl
  obtain ⟨lb, rfl, ol⟩ := h.lits.own (by omega)
  have i1 : (k : Int) < lits.length := by omega
  have i2 : (k : Int) ≤ 9223372036854775807 := by omega
  have i3 : ¬ (lits.length : Int) ≤ k := by omega
  have lk := ol.load1 (words_at hk)
  have n0 : ¬ (k : Int) < 0 := by omega
  refine fn_eq 5 [15] k17 hS rfl ?_
  simp [-List.getD_eq_getElem?_getD, -Int.natCast_add, -BitVec.toNat_or, -BitVec.toNat_ofInt, -BitVec.toNat_and, fieldAddr_of fa74_2, load_of ld56, len_slice u56, index_slice u56 sz22, load_of ld22, l, i1, i2, i3, hk, lk, n0]
theorem full_run (hS : S 14 = []) (h : WAt m b f hb hf wb wf ws room lo no lf nf lits lines) : callw Tryd.prog TT S 14 [.pointer (some ⟨b, 0, none⟩)] m = some (.bool (decide (4096 ≤ lines.length)), m) := by
  obtain ⟨ty, io, e1, e2, o⟩ := h.own
  have l := o.load1 (off := 5) rfl
  refine fn_eq 3 [] k14 hS rfl ?_
  by_cases c : 4096 ≤ lines.length
  · have c' : (4096 : Int) ≤ lines.length := by omega
    simp [-Int.natCast_add, -BitVec.toNat_or, -BitVec.toNat_ofInt, -BitVec.toNat_and, fieldAddr_of fa74_5, load_of ld28, len_slice u28, l, c, c']
  · have c' : ¬ (4096 : Int) ≤ lines.length := by omega
    simp [-Int.natCast_add, -BitVec.toNat_or, -BitVec.toNat_ofInt, -BitVec.toNat_and, fieldAddr_of fa74_5, load_of ld28, len_slice u28, l, c, c']
def i64of (v : Int) : Int := IntKind.i64.wrap v
theorem i64of_in (v : Int) : -9223372036854775808 ≤ i64of v ∧ i64of v ≤ 9223372036854775807 := by
  have e1 : (2 : Int) ^ IntKind.i64.bits = 18446744073709551616 := by decide
  have e2 : (2 : Int) ^ (IntKind.i64.bits - 1) = 9223372036854775808 := by decide
  have e3 : IntKind.i64.signed = true := rfl
  unfold i64of
  simp only [IntKind.wrap, e1, e2, e3, Bool.true_and, decide_eq_true_eq]
  split <;> omega
theorem say_int (hS : S 44 = []) (hN : Nf S) {e : TypeId} (hg : Rdo m 0 powC e 0) {p : Value} (v : Int) :
    ∃ r m1, callw Tryd.prog TT S 44 [p, .int .i64 1, .int .u64 v] m = some (r, m1) ∧ r = .tuple #[.string ⟨(fmt (i64of v)).toArray⟩, .bool true] ∧ Keeps m m1 [] := by
  obtain ⟨_, m1, hc, rfl, k⟩ := fmt0_run hN hg (i64of_in v).1 (i64of_in v).2
  unfold i64of at hc
  refine fn_w 9 [9, 14, 19] k44 hS rfl ?_
  simp [-BitVec.toNat_or, -BitVec.toNat_ofInt, -BitVec.toNat_and, conv_i u22 u2, fieldAddr_of fa74_1, load_of ld44, hc]
  exact ⟨rfl, k⟩
def tru : List UInt8 := [116, 114, 117, 101]
def fls : List UInt8 := [102, 97, 108, 115, 101]
theorem say_bool (hS : S 44 = []) (h1 : S 58 = []) (h2 : S 66 = []) {p : Value} (v : Int) :
    callw Tryd.prog TT S 44 [p, .int .i64 2, .int .u64 v] m = some (.tuple #[.string ⟨(if v = 0 then fls else tru).toArray⟩, .bool true], m) := by
  have c2 : ∀ m b, callw Tryd.prog TT S 66 [.bool b] m = some (.string ⟨(if b = true then tru else fls).toArray⟩, m) := by
    intro m b
    refine fn_eq 3 [3] k66 h2 rfl ?_
    cases b <;> simp [-BitVec.toNat_or, -BitVec.toNat_ofInt, -BitVec.toNat_and, id, tru, fls]
  have c1 : ∀ m b, callw Tryd.prog TT S 58 [.bool b] m = some (.string ⟨(if b = true then tru else fls).toArray⟩, m) := by
    intro m b
    refine fn_eq 3 [] k58 h1 rfl ?_
    simp [-BitVec.toNat_or, -BitVec.toNat_ofInt, -BitVec.toNat_and, id, c2]
  refine fn_eq 9 [9, 14, 19] k44 hS rfl ?_
  by_cases hv : v = 0
  · simp [-BitVec.toNat_or, -BitVec.toNat_ofInt, -BitVec.toNat_and, conv_i u22 u2, fieldAddr_of fa74_1, load_of ld44, c1, hv]
  · simp [-BitVec.toNat_or, -BitVec.toNat_ofInt, -BitVec.toNat_and, conv_i u22 u2, fieldAddr_of fa74_1, load_of ld44, c1, hv]
theorem print_run (hS : S 12 = []) (hF : S 14 = []) (h : WAt m b f hb hf wb wf ws room lo no lf nf lits lines) (hl : lines.length ≤ 4096) {k v : Int} {s : List UInt8} {m1 : Mem}
    (hs : callw Tryd.prog TT S 44 [.pointer (some ⟨b, 0, none⟩), .int .i64 k, .int .u64 v] m = some (.tuple #[.string ⟨s.toArray⟩, .bool true], m1)) (k1 : Keeps m m1 []) :
    ∃ r m2, callw Tryd.prog TT S 12 [.pointer (some ⟨b, 0, none⟩), .int .i64 k, .int .u64 v] m = some (r, m2) ∧ (∃ no' nf', WAt m2 b f hb hf wb wf ws room lo no' lf nf' lits (if lines.length < 4096 then lines ++ [s] else lines) ∧ (no' ≠ none → (no ≠ none ∧ nf' = nf) ∨ m.next ≤ nf')) ∧ ∃ nq, Keeps m m2 [f, nq] ∧ (nq = f ∨ (no ≠ none ∧ nq = nf)) := by
  have h1 := h.keep0 k1
  have hf1 := full_run hF h1
  refine fn_w 8 [25, 28] k12 hS rfl ?_
  by_cases c : lines.length < 4096
  · have c' : ¬ 4096 ≤ lines.length := by omega
    obtain ⟨ty, io, e1, e2, o⟩ := h1.own
    have l := o.load1 (off := 5) rfl
    rw [if_pos c]
    simp [-Int.natCast_add, -BitVec.toNat_or, -BitVec.toNat_ofInt, -BitVec.toNat_and, fieldAddr_of fa74_5, load_of ld28, buildSlice_of u28 bs9 rfl, append_s u28 sz9, store_of sz28, hs, hf1, c, c', l]
    generalize hra : sappend _ _ _ _ _ _ = ra
    obtain ⟨m2, nb, nf2, rfl, oN, k2, hnf, _⟩ := app_slz hra u28 ap9 h1.lines (by omega) (by simp) (by simp [one_str]) (by omega) (by omega)
    have d := h1.d1
    have kn : ∀ g : Nat, (no ≠ none → g ≠ nf) → g ∉ (if no = none then [] else [nf]) := by
      intro g hg
      split
      · simp
      · rename_i hn
        simpa using hg hn
    have o2 := o.keep k2 (kn f (fun hn => (d.2.2.2 hn).1))
    have H2 := h1.heap.keep k2 (kn hf (fun hn => (d.2.2.2 hn).2.1.symm)) (kn wf (fun hn => (d.2.2.2 hn).2.2.1.symm))
    have L2 := h1.lits.keepz k2 (fun hl => kn lf (fun hn => ((d.2.2.2 hn).2.2.2 hl).symm))
    simp [-Int.natCast_add, -BitVec.toNat_or, -BitVec.toNat_ofInt, -BitVec.toNat_and, fieldAddr_of fa74_5, load_of ld28, buildSlice_of u28 bs9 rfl, append_s u28 sz9, store_of sz28]
    generalize hrb : storeRow _ _ _ = rb
    obtain ⟨m3, rfl, o3, k3⟩ := store_own hrb o2 (by simp) (by simp [one_slice])
    simp [over] at o3
    simp [-Int.natCast_add, -BitVec.toNat_or, -BitVec.toNat_ofInt, -BitVec.toNat_and, fieldAddr_of fa74_5, load_of ld28, buildSlice_of u28 bs9 rfl, append_s u28 sz9, store_of sz28]
    have m1l : f < m1.next ∧ hf < m1.next ∧ wf < m1.next := ⟨o.flt, h1.heap.h.flt, h1.heap.w.flt⟩
    have m1o : lo ≠ none → lf < m1.next := fun hl => by
      rcases h1.lits.2 with ⟨h0, _⟩ | ⟨_, _, ol⟩
      · exact absurd h0 hl
      · exact ol.flt
    have dn : f ≠ nf2 ∧ nf2 ≠ hf ∧ nf2 ≠ wf ∧ (lo ≠ none → nf2 ≠ lf) := by
      rcases hnf with ⟨h, h2⟩ | h
      · rw [h2]; exact d.2.2.2 h
      · exact ⟨by omega, by omega, by omega, fun hl => by have := m1o hl; omega⟩
    have e : (lines ++ [s]).length = lines.length + 1 := by simp
    refine ⟨⟨some ⟨nb, 0, none⟩, nf2, ⟨⟨ty, io, e1, e2, by rw [e]; exact o3⟩, H2.keep k3 (by simpa using d.1.symm) (by simpa using d.2.1.symm), L2.keepz k3 (fun hl => by simpa using (d.2.2.1 hl).1.symm), ?_, d.1, d.2.1, d.2.2.1, fun _ => dn⟩, fun _ => hnf.imp id (fun h => Nat.le_trans k1.1 h)⟩, ?_⟩
    · rw [e, List.map_append]
      exact Sl.of (oN.keep k3 (by simpa using dn.1.symm)) (by simp)
    · by_cases hno : no = none
      · rw [if_pos hno] at k2
        exact ⟨f, (k1.trans k2).nil.trans (k3.mono (by simp)), Or.inl rfl⟩
      · rw [if_neg hno] at k2
        exact ⟨nf, (k1.nil.trans (k2.mono (by simp))).trans (k3.mono (by simp)), Or.inr ⟨hno, rfl⟩⟩
  · have c' : 4096 ≤ lines.length := by omega
    rw [if_neg c]
    simp [-Int.natCast_add, -BitVec.toNat_or, -BitVec.toNat_ofInt, -BitVec.toNat_and, fieldAddr_of fa74_5, load_of ld28, buildSlice_of u28 bs9 rfl, append_s u28 sz9, store_of sz28, hs, hf1, c, c']
    exact ⟨⟨_, _, h1, fun h => Or.inl ⟨h, rfl⟩⟩, f, k1.nil, Or.inl rfl⟩
theorem trace_run (hS : S 13 = []) (h : WAt m b f hb hf wb wf ws room lo no lf nf lits lines) (hl : lines.length ≤ 5000) :
    ∃ r m1, callw Tryd.prog TT S 13 [.pointer (some ⟨b, 0, none⟩)] m = some (r, m1) ∧ (∃ tb, r = .slice (some ⟨tb, 0, none⟩) lines.length lines.length ∧ ∃ tf, Own m1 tb (lines.map fun l => Value.string ⟨l.toArray⟩) 9 tf ∧ m.next ≤ tf) ∧ Keeps m m1 [] := by
  obtain ⟨ty, io, e1, e2, o⟩ := h.own
  have l := o.load1 (off := 5) rfl
  obtain ⟨o0, k0, n0⟩ := new_own (m := m) (cs := []) (e := 9) rfl
  refine fn_w 3 [] k13 hS rfl ?_
  have l' := (o.keep k0 (by simp)).load1 (off := 5) rfl
  have L0 := h.lines.keepz k0 (by simp)
  rcases Nat.eq_zero_or_pos lines.length with h0 | h0
  · have e0 : lines = [] := List.length_eq_zero_iff.1 h0
    cases no
    all_goals
      simp [-Int.natCast_add, -BitVec.toNat_or, -BitVec.toNat_ofInt, -BitVec.toNat_and, buildSlice_of u28 bs9 rfl, fieldAddr_of fa74_5, load_of ld28, append_s u28 sz9, l, l', h0]
      generalize hra : sappend _ _ _ _ _ _ = ra
      obtain ⟨m2, tb, rfl, oT, k2⟩ := app_own hra u28 ap9 o0 (by simp) (by simp) (by simp) (by omega) (by omega)
      simp [-Int.natCast_add, -BitVec.toNat_or, -BitVec.toNat_ofInt, -BitVec.toNat_and, buildSlice_of u28 bs9 rfl, fieldAddr_of fa74_5, load_of ld28, append_s u28 sz9]
      exact ⟨⟨m.next, by rw [e0]; simpa using oT, Nat.le_refl _⟩, k0.fresh k2 (by simp)⟩
  · have h0' : ¬ lines.length = 0 := by omega
    obtain ⟨nb, rfl, on⟩ := L0.own h0'
    have ld := on.load (off := 0) lines.length (by simp)
    have wn : window (lines.map fun l => Value.string ⟨l.toArray⟩) 0 lines.length = lines.map fun l => Value.string ⟨l.toArray⟩ := by simp [window, ← List.map_take]
    rw [wn] at ld
    simp [-Int.natCast_add, -BitVec.toNat_or, -BitVec.toNat_ofInt, -BitVec.toNat_and, buildSlice_of u28 bs9 rfl, fieldAddr_of fa74_5, load_of ld28, append_s u28 sz9, l, l', h0', ld]
    generalize hra : sappend _ _ _ _ _ _ = ra
    obtain ⟨m2, tb, rfl, oT, k2⟩ := app_own hra u28 ap9 o0 (by simp) (by simp) (by simp [List.all_eq_true, one_str]) (by omega) (by omega)
    simp [-Int.natCast_add, -BitVec.toNat_or, -BitVec.toNat_ofInt, -BitVec.toNat_and, buildSlice_of u28 bs9 rfl, fieldAddr_of fa74_5, load_of ld28, append_s u28 sz9]
    exact ⟨⟨m.next, by simpa using oT, Nat.le_refl _⟩, k0.fresh k2 (by simp)⟩
structure TxtAt (ws : List Int) (r : Int) (l : List UInt8) : Prop where
  h0 : 0 ≤ r
  hlen : ws.getD r.toNat 0 % 4294967296 = l.length
  hle : l.length ≤ ws.length
  hat : ∀ i (hi : i < l.length), ws.getD (atV ws r i).toNat 0 = ((l[i]).toNat : Int)
end
end Go.Proofs.YtggbgelfgfmikaaDoor.base

