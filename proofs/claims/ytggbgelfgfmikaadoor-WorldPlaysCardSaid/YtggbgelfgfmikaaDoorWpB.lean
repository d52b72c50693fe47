/-
  This text proves what the document's world answers over the abstract run, and the program's Trace and Copy.
  Condition: nothing is known of the calls ahead ('S f = []').
-/
import Derived.Test.YtggbgelfgfmikaaDoorWpA
set_option maxRecDepth 100000
set_option linter.unusedSimpArgs false
set_option linter.unusedVariables false
namespace Go.Proofs.YtggbgelfgfmikaaDoor.base
open Go.Sh gen
variable {S : Sums} {m : Mem}
structure RWat (m : Mem) (b f hb hf wb wf : Nat) (ws : List Int) (room : Int) (ty p1 p2 p3 p4 li io : Value) (tk : Int) (no : Option Addr) (nf : Nat) (lines : List (List UInt8)) : Prop where
  own : Own m b [ty, p1, p2, p3, p4, .pointer (some ⟨hb, 0, none⟩), li, io, .int .i64 tk, .slice no lines.length lines.length] 61 f
  heap : RefAt m hb hf wb wf ws room
  lines : Sl m no lines.length (lines.map fun l => Value.string ⟨l.toArray⟩) 9 1 nf
  d1 : f ≠ hf ∧ f ≠ wf ∧ (no ≠ none → f ≠ nf ∧ nf ≠ hf ∧ nf ≠ wf)
structure Rw (S : Sums) : Prop where
  hnew : S 49 = []
  alloc : S 52 = []
  word : S 62 = []
  put : S 67 = []
  len : S 53 = []
  get : S 54 = []
  set : S 61 = []
  text : S 51 = []
  str : S 34 = []
  lit : S 28 = []
  full : S 39 = []
  print : S 29 = []
  input : S 30 = []
  object : S 31 = []
  slice : S 32 = []
  cat : S 33 = []
  digits : S 15 = []
  below : S 45 = []
  room : S 50 = []
  new : S 27 = []
section
variable {b f hb hf wb wf nf : Nat} {ws : List Int} {room tk : Int} {ty p1 p2 p3 p4 li io : Value} {no : Option Addr} {lines : List (List UInt8)}
theorem RWat.keep {m1 : Mem} {fs : List Nat} (h : RWat m b f hb hf wb wf ws room ty p1 p2 p3 p4 li io tk no nf lines) (k : Keeps m m1 fs) (h1 : f ∉ fs) (h2 : hf ∉ fs) (h3 : wf ∉ fs) (h5 : no ≠ none → nf ∉ fs) : RWat m1 b f hb hf wb wf ws room ty p1 p2 p3 p4 li io tk no nf lines :=
  ⟨h.own.keep k h1, h.heap.keep k h2 h3, h.lines.keepz k h5, h.d1⟩
theorem RWat.keep0 {m1 : Mem} (h : RWat m b f hb hf wb wf ws room ty p1 p2 p3 p4 li io tk no nf lines) (k : Keeps m m1 []) : RWat m1 b f hb hf wb wf ws room ty p1 p2 p3 p4 li io tk no nf lines := h.keep k (by simp) (by simp) (by simp) (by simp)
theorem rfull_run (hN : Rw S) (h : RWat m b f hb hf wb wf ws room ty p1 p2 p3 p4 li io tk no nf lines) : callw Tryd.prog TT S 39 [.pointer (some ⟨b, 0, none⟩)] m = some (.bool (decide (4096 ≤ lines.length)), m) := by
  have l := h.own.load1 (off := 9) rfl
  refine fn_eq 3 [] k39 hN.full rfl ?_
  by_cases c : 4096 ≤ lines.length
  · have c' : (4096 : Int) ≤ lines.length := by omega
    simp [-Int.natCast_add, -BitVec.toNat_or, -BitVec.toNat_ofInt, -BitVec.toNat_and, fieldAddr_of fa61_5, load_of ld28, len_slice u28, l, c, c']
  · have c' : ¬ (4096 : Int) ≤ lines.length := by omega
    simp [-Int.natCast_add, -BitVec.toNat_or, -BitVec.toNat_ofInt, -BitVec.toNat_and, fieldAddr_of fa61_5, load_of ld28, len_slice u28, l, c, c']
theorem rlit_run (hN : Rw S) {lo : Option Addr} {lits : List Int} {lf : Nat} (h : RWat m b f hb hf wb wf ws room ty p1 p2 p3 p4 (.slice lo lits.length lits.length) io tk no nf lines) (hl : Rs m lo lits.length (words lits) 22 1 lf) (hn : lits.length ≤ 1000) {k : Int} :
    callw Tryd.prog TT S 28 [.pointer (some ⟨b, 0, none⟩), .int .i64 k] m = some (.int .u64 (litV lits k), m) := by
  have l := h.own.load1 (off := 6) rfl
  refine fn_eq 5 [15] k28 hN.lit rfl ?_
  unfold litV
  by_cases h0 : k < 0
  · have c : ¬ (0 ≤ k ∧ k < lits.length) := by omega
    simp [-Int.natCast_add, -BitVec.toNat_or, -BitVec.toNat_ofInt, -BitVec.toNat_and, fieldAddr_of fa61_2, load_of ld56, len_slice u56, index_slice u56 sz22, load_of ld22, l, h0, c]
  · by_cases h1 : k < lits.length
    · obtain ⟨i, rfl⟩ := Int.eq_ofNat_of_zero_le (by omega : 0 ≤ k)
      have hi : i < lits.length := by omega
      obtain ⟨lb, rfl, ol⟩ := hl.rdo (by omega)
      have lk := ol.load1 (words_at hi)
      have i2 : (i : Int) ≤ 9223372036854775807 := by omega
      have i3 : ¬ (lits.length : Int) ≤ i := by omega
      have c : 0 ≤ (i : Int) ∧ (i : Int) < lits.length := by omega
      have n0 : ¬ (i : Int) < 0 := by omega
      simp [-List.getD_eq_getElem?_getD, -Int.natCast_add, -BitVec.toNat_or, -BitVec.toNat_ofInt, -BitVec.toNat_and, fieldAddr_of fa61_2, load_of ld56, len_slice u56, index_slice u56 sz22, load_of ld22, l, h1, i2, i3, hi, lk, n0]
    · have i3 : (lits.length : Int) ≤ k := by omega
      have c : ¬ (0 ≤ k ∧ k < lits.length) := by omega
      simp [-Int.natCast_add, -BitVec.toNat_or, -BitVec.toNat_ofInt, -BitVec.toNat_and, fieldAddr_of fa61_2, load_of ld56, len_slice u56, index_slice u56 sz22, load_of ld22, l, h0, h1, i3, c]
theorem rstr_run (hN : Rw S) (h : RWat m b f hb hf wb wf ws room ty p1 p2 p3 p4 li io tk no nf lines) (hw : ws.length ≤ 1000000) (hd : Wd ws) (hz : ws.getD 0 0 = 0) {r : Int} (hr : 0 ≤ r) :
    ∃ v m1, callw Tryd.prog TT S 34 [.pointer (some ⟨hb, 0, none⟩), .int .u64 r] m = some (v, m1) ∧ v = .string ⟨(strF ws r).toArray⟩ ∧ Keeps m m1 [] :=
  stringR_run hN.str hN.get hN.len hN.word h.heap hr hw hd hz
theorem rprint_run (hN : Rw S) (h : RWat m b f hb hf wb wf ws room ty p1 p2 p3 p4 li io tk no nf lines) (hw : ws.length ≤ 1000000) (hd : Wd ws) (hz : ws.getD 0 0 = 0) (hl : lines.length ≤ 4096) {k v : Int} (hv : 0 ≤ v) :
    ∃ r m2, callw Tryd.prog TT S 29 [.pointer (some ⟨b, 0, none⟩), .int .i64 k, .int .u64 v] m = some (r, m2) ∧ (∃ no' nf', RWat m2 b f hb hf wb wf ws room ty p1 p2 p3 p4 li io tk no' nf' (addL lines ws k v) ∧ (no' ≠ none → (no ≠ none ∧ nf' = nf) ∨ m.next ≤ nf')) ∧ ∃ nq, Keeps m m2 [f, nq] ∧ (nq = f ∨ (no ≠ none ∧ nq = nf)) := by
  by_cases hp : sayP k
  · obtain ⟨s, hs⟩ : ∃ s, sayL ws k v = s := ⟨_, rfl⟩
    have g1 : k = 1 → ∃ mX, callw Tryd.prog TT S 15 [.int .i64 (IntKind.i64.wrap v)] m = some (.string ⟨s.toArray⟩, mX) ∧ Keeps m mX [] := by
      intro h1
      obtain ⟨_, mX, hc, rfl, kX⟩ := digs_run (m := m) hN.digits hN.below (i64of_in v).1 (i64of_in v).2
      rw [show fmt (i64of v) = s by rw [← hs]; simp [sayL, h1]] at hc
      exact ⟨mX, hc, kX⟩
    have g3 : k = 3 → ∃ mX, callw Tryd.prog TT S 34 [.pointer (some ⟨hb, 0, none⟩), .int .u64 v] m = some (.string ⟨s.toArray⟩, mX) ∧ Keeps m mX [] := by
      intro h3
      obtain ⟨_, mX, hc, rfl, kX⟩ := rstr_run hN h hw hd hz hv
      rw [show strF ws v = s by rw [← hs]; simp [sayL, h3]] at hc
      exact ⟨mX, hc, kX⟩
    have l5 := h.own.load1 (off := 5) rfl
    unfold addL
    rw [hs]
    obtain ⟨L, hL⟩ : ∃ L, (if sayP k ∧ lines.length < 4096 then lines ++ [s] else lines) = L := ⟨_, rfl⟩
    rw [hL]
    refine fn_w 8 [8, 13, 16, 17, 27] k29 hN.print rfl ?_
    apply cut1_ (fun mX : Mem => Keeps m mX [])
    case main =>
      by_cases h1 : k = 1
      · have gg := g1 h1
        intro meth
        obtain ⟨mX, hc, kX⟩ := gg
        simp [-Int.natCast_add, -w29_10, -BitVec.toNat_or, -BitVec.toNat_ofInt, -BitVec.toNat_and, conv_i u22 u2, fieldAddr_of fa61_1, load_of ld59, fieldAddr_of fa61_5, load_of ld28, buildSlice_of u28 bs9 rfl, append_s u28 sz9, store_of sz28, h1, hc]
        exact w_sub (E := [(0, .pointer (some ⟨b, 0, none⟩)), (6, .string ⟨s.toArray⟩)]) (meth mX kX) ⟨by rfl, by rfl, trivial⟩
      · by_cases h2 : k = 2
        · by_cases h0 : v = 0
          · have hsf : fls = s := by rw [← hs]; simp [sayL, h2, h0]
            have hsf2 : ([102, 97, 108, 115, 101] : List UInt8) = s := hsf
            intro meth
            simp [-Int.natCast_add, -w29_10, -BitVec.toNat_or, -BitVec.toNat_ofInt, -BitVec.toNat_and, conv_i u22 u2, fieldAddr_of fa61_1, load_of ld59, fieldAddr_of fa61_5, load_of ld28, buildSlice_of u28 bs9 rfl, append_s u28 sz9, store_of sz28, h2, h0]
            exact w_sub (E := [(0, .pointer (some ⟨b, 0, none⟩)), (6, .string ⟨s.toArray⟩)]) (meth m (keeps_refl _)) ⟨by rfl, by rw [← hsf2]; rfl, trivial⟩
          · have hsf : tru = s := by rw [← hs]; simp [sayL, h2, h0]
            have hsf2 : ([116, 114, 117, 101] : List UInt8) = s := hsf
            intro meth
            simp [-Int.natCast_add, -w29_10, -BitVec.toNat_or, -BitVec.toNat_ofInt, -BitVec.toNat_and, conv_i u22 u2, fieldAddr_of fa61_1, load_of ld59, fieldAddr_of fa61_5, load_of ld28, buildSlice_of u28 bs9 rfl, append_s u28 sz9, store_of sz28, h2, h0]
            exact w_sub (E := [(0, .pointer (some ⟨b, 0, none⟩)), (6, .string ⟨s.toArray⟩)]) (meth m (keeps_refl _)) ⟨by rfl, by rw [← hsf2]; rfl, trivial⟩
        · have h3 : k = 3 := by unfold sayP at hp; omega
          have gg := g3 h3
          intro meth
          obtain ⟨mX, hc, kX⟩ := gg
          simp [-Int.natCast_add, -w29_10, -BitVec.toNat_or, -BitVec.toNat_ofInt, -BitVec.toNat_and, conv_i u22 u2, fieldAddr_of fa61_1, load_of ld59, fieldAddr_of fa61_5, load_of ld28, buildSlice_of u28 bs9 rfl, append_s u28 sz9, store_of sz28, h3, hc, l5]
          exact w_sub (E := [(0, .pointer (some ⟨b, 0, none⟩)), (6, .string ⟨s.toArray⟩)]) (meth mX kX) ⟨by rfl, by rfl, trivial⟩
    intro mX k1
    have h1 := h.keep0 k1
    have hf1 := rfull_run hN h1
    by_cases c : lines.length < 4096
    · have c' : ¬ 4096 ≤ lines.length := by omega
      have o := h1.own
      have l := o.load1 (off := 9) rfl
      rw [if_pos ⟨hp, c⟩] at hL
      subst hL
      simp [-Int.natCast_add, -BitVec.toNat_or, -BitVec.toNat_ofInt, -BitVec.toNat_and, conv_i u22 u2, fieldAddr_of fa61_1, load_of ld59, fieldAddr_of fa61_5, load_of ld28, buildSlice_of u28 bs9 rfl, append_s u28 sz9, store_of sz28, hf1, c, c', l]
      generalize hra : sappend _ _ _ _ _ _ = ra
      obtain ⟨m2, nb, nf2, rfl, oN, k2, hnf, _⟩ := app_slz hra u28 ap9 h1.lines (by omega) (by simp) (by simp [one_str]) (by omega) (by omega)
      have d := h1.d1
      have kn : ∀ g : Nat, (no ≠ none → g ≠ nf) → g ∉ (if no = none then [] else [nf]) := by
        intro g hg
        split
        · simp
        · rename_i hn
          simpa using hg hn
      have o2 := o.keep k2 (kn f (fun hn => (d.2.2 hn).1))
      have H2 := h1.heap.keep k2 (kn hf (fun hn => (d.2.2 hn).2.1.symm)) (kn wf (fun hn => (d.2.2 hn).2.2.symm))
      simp [-Int.natCast_add, -BitVec.toNat_or, -BitVec.toNat_ofInt, -BitVec.toNat_and, conv_i u22 u2, fieldAddr_of fa61_1, load_of ld59, fieldAddr_of fa61_5, load_of ld28, buildSlice_of u28 bs9 rfl, append_s u28 sz9, store_of sz28]
      generalize hrb : storeRow _ _ _ = rb
      obtain ⟨m3, rfl, o3, k3⟩ := store_own hrb o2 (by simp) (by simp [one_slice])
      simp [over] at o3
      simp [-Int.natCast_add, -BitVec.toNat_or, -BitVec.toNat_ofInt, -BitVec.toNat_and, conv_i u22 u2, fieldAddr_of fa61_1, load_of ld59, fieldAddr_of fa61_5, load_of ld28, buildSlice_of u28 bs9 rfl, append_s u28 sz9, store_of sz28]
      have m1l : f < mX.next ∧ hf < mX.next ∧ wf < mX.next := ⟨o.flt, h1.heap.h.flt, h1.heap.w.flt⟩
      have dn : f ≠ nf2 ∧ nf2 ≠ hf ∧ nf2 ≠ wf := by
        rcases hnf with ⟨h, h2⟩ | h
        · rw [h2]; exact d.2.2 h
        · exact ⟨by omega, by omega, by omega⟩
      have e : (lines ++ [s]).length = lines.length + 1 := by simp
      refine ⟨⟨some ⟨nb, 0, none⟩, nf2, ⟨by rw [e]; exact o3, H2.keep k3 (by simpa using d.1.symm) (by simpa using d.2.1.symm), ?_, d.1, d.2.1, fun _ => dn⟩, fun _ => hnf.imp id (fun h => Nat.le_trans k1.1 h)⟩, ?_⟩
      · rw [e, List.map_append]
        exact Sl.of (oN.keep k3 (by simpa using dn.1.symm)) (by simp)
      · by_cases hno : no = none
        · rw [if_pos hno] at k2
          exact ⟨f, (k1.trans k2).nil.trans (k3.mono (by simp)), Or.inl rfl⟩
        · rw [if_neg hno] at k2
          exact ⟨nf, (k1.nil.trans (k2.mono (by simp))).trans (k3.mono (by simp)), Or.inr ⟨hno, rfl⟩⟩
    · have c' : 4096 ≤ lines.length := by omega
      rw [if_neg (fun h => c h.2)] at hL
      subst hL
      simp [-Int.natCast_add, -BitVec.toNat_or, -BitVec.toNat_ofInt, -BitVec.toNat_and, conv_i u22 u2, fieldAddr_of fa61_1, load_of ld59, fieldAddr_of fa61_5, load_of ld28, buildSlice_of u28 bs9 rfl, append_s u28 sz9, store_of sz28, hf1, c, c', hp]
      exact ⟨⟨_, _, h1, fun h => Or.inl ⟨h, rfl⟩⟩, f, k1.nil, Or.inl rfl⟩
  · have h1 : ¬ k = 1 := fun h => hp (Or.inl h)
    have h2 : ¬ k = 2 := fun h => hp (Or.inr (Or.inl h))
    have h3 : ¬ k = 3 := fun h => hp (Or.inr (Or.inr h))
    unfold addL
    rw [if_neg (fun h => hp h.1)]
    refine fn_w 8 [8, 13, 16, 17, 27] k29 hN.print rfl ?_
    simp [-Int.natCast_add, -BitVec.toNat_or, -BitVec.toNat_ofInt, -BitVec.toNat_and, conv_i u22 u2, fieldAddr_of fa61_1, load_of ld59, fieldAddr_of fa61_5, load_of ld28, buildSlice_of u28 bs9 rfl, append_s u28 sz9, store_of sz28, h1, h2, h3]
    exact ⟨⟨_, _, h, fun h => Or.inl ⟨h, rfl⟩⟩, f, (keeps_refl _).nil, Or.inl rfl⟩
theorem rinput_run (hN : Rw S) {jo : Option Addr} {ins : List Int} {jf t : Nat} (h : RWat m b f hb hf wb wf ws room ty p1 p2 p3 p4 li (.slice jo ins.length ins.length) t no nf lines) (hi : Rs m jo ins.length (int64s ins) 2 1 jf) (hn : ins.length ≤ 1000) (ht : t ≤ ins.length) (hjf : jf ≠ f) :
    ∃ v m1, callw Tryd.prog TT S 30 [.pointer (some ⟨b, 0, none⟩)] m = some (v, m1) ∧ v = .int .u64 (inV ins t) ∧ RWat m1 b f hb hf wb wf ws room ty p1 p2 p3 p4 li (.slice jo ins.length ins.length) (inT ins t) no nf lines ∧ Keeps m m1 [f] := by
  have o := h.own
  have l3 := o.load1 (off := 7) rfl
  have l4 := o.load1 (off := 8) rfl
  have d := h.d1
  refine fn_w 3 [12] k30 hN.input rfl ?_
  unfold inV inT
  by_cases c : t < ins.length
  · have c' : ¬ (ins.length : Int) ≤ t := by omega
    have wt : IntKind.i64.wrap ((t : Int) + 1) = (t : Int) + 1 := wrap_i64 (by omega) (by omega)
    have wt2 : IntKind.i64.wrap (t : Int) = (t : Int) := wrap_i64 (by omega) (by omega)
    obtain ⟨m5, e5, o5, k5⟩ := store_own (r := _) rfl o (off := 8) (vs := [.int .i64 ((t : Int) + 1)]) (by simp) (by simp [one_int])
    simp [over] at o5
    obtain ⟨jb, rfl, oj⟩ := hi.rdo (by omega)
    have q3 := o5.load1 (off := 7) rfl
    have q4 := o5.load1 (off := 8) rfl
    have lj := (oj.keep k5 (by simpa using hjf)).load1 (int64s_at c)
    have i1 : (t : Int) < ins.length := by omega
    have i2 : (t : Int) ≤ 9223372036854775807 := by omega
    generalize ins.getD t 0 = x at *
    have c2 : ¬ ins.length ≤ t := by omega
    simp [-Int.natCast_add, -BitVec.toNat_or, -BitVec.toNat_ofInt, -BitVec.toNat_and, fieldAddr_of fa61_4, load_of ld3, fieldAddr_of fa61_3, load_of ld29, len_slice u29, store_of sz3, index_slice u29 sz2, load_of ld2, conv_i u2 u22, l3, l4, c, c', c2, wt, wt2, e5, q3, q4, i1, i2, lj]
    refine ⟨⟨by simpa using o5, h.heap.keep k5 (by simpa using d.1.symm) (by simpa using d.2.1.symm), h.lines.keepz k5 (fun hn => by simpa using (d.2.2 hn).1.symm), d⟩, k5⟩
  · have c' : (ins.length : Int) ≤ t := by omega
    have c2 : ins.length ≤ t := by omega
    simp [-Int.natCast_add, -BitVec.toNat_or, -BitVec.toNat_ofInt, -BitVec.toNat_and, fieldAddr_of fa61_4, load_of ld3, fieldAddr_of fa61_3, load_of ld29, len_slice u29, store_of sz3, index_slice u29 sz2, load_of ld2, conv_i u2 u22, l3, l4, c, c', c2]
    exact ⟨h, keeps_refl _ |>.nil⟩
theorem robject_run (hN : Rw S) {tb tf : Nat} {tcs : List Value} (h : RWat m b f hb hf wb wf ws room (.slice (some ⟨tb, 0, none⟩) 7 7) p1 p2 p3 p4 li io tk no nf lines) (hT : TyT m tb tf tcs) (hr : 0 < room ∧ room ≤ 65536) (hw : ws.length ≤ 65536) {t : Int} :
    ∃ v m1, callw Tryd.prog TT S 31 [.pointer (some ⟨b, 0, none⟩), .int .i64 t] m = some (v, m1) ∧ v = .tuple #[.int .u64 (allocV ws room t (fieldsN t)), .bool (allocB ws room t (fieldsN t))] ∧ (∃ wb', RWat m1 b f hb hf wb' wf (allocW ws room t (fieldsN t)) room (.slice (some ⟨tb, 0, none⟩) 7 7) p1 p2 p3 p4 li io tk no nf lines) ∧ Keeps m m1 [hf, wf] := by
  have o := h.own
  have l0 := o.load1 (off := 0) rfl
  have l1 := o.load1 (off := 5) rfl
  have d := h.d1
  obtain ⟨_, m3, c3, rfl, ⟨wb3, H3⟩, k3⟩ := allocR_any hN.alloc h.heap hr hw (t := t) (n := fieldsN t)
  have fin : ∃ wb', RWat m3 b f hb hf wb' wf (allocW ws room t (fieldsN t)) room (.slice (some ⟨tb, 0, none⟩) 7 7) p1 p2 p3 p4 li io tk no nf lines := ⟨wb3, ⟨o.keep k3 (by simp; exact ⟨d.1, d.2.1⟩), H3, h.lines.keepz k3 (fun hn => by simpa using ⟨(d.2.2 hn).2.1, (d.2.2 hn).2.2⟩), d⟩⟩
  refine fn_w 7 [18] k31 hN.object rfl ?_
  by_cases c : 0 ≤ t ∧ t < 7
  · obtain ⟨i, rfl⟩ := Int.eq_ofNat_of_zero_le c.1
    have hi : i < 7 := by omega
    obtain ⟨v, hv⟩ := hT.at_ i hi
    have lt := hT.o.load1 hv
    have i2 : (i : Int) ≤ 9223372036854775807 := by omega
    have i1 : (i : Int) < 7 := by omega
    generalize fieldsN i = q at *
    simp [-Int.natCast_add, -BitVec.toNat_or, -BitVec.toNat_ofInt, -BitVec.toNat_and, fieldAddr_of fa61_0, fieldAddr_of fa31_0, load_of ld26, len_slice u26, index_slice u26 sz78, fieldAddr_of fa78_3, load_of ld75, len_slice u75, fieldAddr_of fa61_1, load_of ld59, l0, l1, i1, hi, i2, lt, c3]
    exact ⟨fin, k3⟩
  · have e0 : fieldsN t = 0 := by unfold fieldsN; rw [if_neg (by omega)]
    rw [e0] at c3 fin ⊢
    simp at c3 fin
    by_cases c1 : 0 ≤ t
    · have c2 : ¬ t < 7 := by omega
      simp [-Int.natCast_add, -BitVec.toNat_or, -BitVec.toNat_ofInt, -BitVec.toNat_and, fieldAddr_of fa61_0, fieldAddr_of fa31_0, load_of ld26, len_slice u26, index_slice u26 sz78, fieldAddr_of fa78_3, load_of ld75, len_slice u75, fieldAddr_of fa61_1, load_of ld59, l0, l1, c1, c2, c3]
      exact ⟨fin, k3⟩
    · simp [-Int.natCast_add, -BitVec.toNat_or, -BitVec.toNat_ofInt, -BitVec.toNat_and, fieldAddr_of fa61_0, fieldAddr_of fa31_0, load_of ld26, len_slice u26, index_slice u26 sz78, fieldAddr_of fa78_3, load_of ld75, len_slice u75, fieldAddr_of fa61_1, load_of ld59, l0, l1, c1, c3]
      exact ⟨fin, k3⟩
theorem rslice_run (hN : Rw S) (h : RWat m b f hb hf wb wf ws room ty p1 p2 p3 p4 li io tk no nf lines) (hr : 0 < room ∧ room ≤ 65536) (hw : ws.length ≤ 65536) {n : Int} (hn : -9223372036854775808 ≤ n ∧ n ≤ 9223372036854775807) :
    ∃ v m1, callw Tryd.prog TT S 32 [.pointer (some ⟨b, 0, none⟩), .int .i64 6, .int .i64 n] m = some (v, m1) ∧ v = .tuple #[.int .u64 (allocV ws room 6 n), .bool (allocB ws room 6 n)] ∧ (∃ wb', RWat m1 b f hb hf wb' wf (allocW ws room 6 n) room ty p1 p2 p3 p4 li io tk no nf lines) ∧ Keeps m m1 [hf, wf] := by
  have o := h.own
  have l1 := o.load1 (off := 5) rfl
  have d := h.d1
  refine fn_w 8 [13] k32 hN.slice rfl ?_
  by_cases c : n < 0 ∨ 1048576 < n
  · have hno : noRoom ws room 6 n := by unfold noRoom; omega
    have e1 : allocV ws room 6 n = 0 := by simp only [allocV, if_pos hno]
    have e2 : allocB ws room 6 n = false := by simp only [allocB, if_pos hno]
    have e3 : allocW ws room 6 n = ws := by simp only [allocW, if_pos hno]
    rw [e1, e2, e3]
    rcases c with c | c
    · simp [-Int.natCast_add, -BitVec.toNat_or, -BitVec.toNat_ofInt, -BitVec.toNat_and, fieldAddr_of fa61_1, load_of ld59, c]
      exact ⟨⟨wb, h⟩, (keeps_refl _).nil⟩
    · have c2 : ¬ n < 0 := by omega
      simp [-Int.natCast_add, -BitVec.toNat_or, -BitVec.toNat_ofInt, -BitVec.toNat_and, fieldAddr_of fa61_1, load_of ld59, c, c2]
      exact ⟨⟨wb, h⟩, (keeps_refl _).nil⟩
  · obtain ⟨_, m3, c3, rfl, ⟨wb3, H3⟩, k3⟩ := allocR_any hN.alloc h.heap hr hw (t := 6) (n := n)
    have c1 : ¬ n < 0 := by omega
    have c2 : ¬ 1048576 < n := by omega
    have wn : IntKind.i64.wrap n = n := wrap_i64 hn.1 hn.2
    simp [-Int.natCast_add, -BitVec.toNat_or, -BitVec.toNat_ofInt, -BitVec.toNat_and, fieldAddr_of fa61_1, load_of ld59, c1, c2, l1, wn, c3]
    exact ⟨⟨wb3, ⟨o.keep k3 (by simp; exact ⟨d.1, d.2.1⟩), H3, h.lines.keepz k3 (fun hn => by simpa using ⟨(d.2.2 hn).2.1, (d.2.2 hn).2.2⟩), d⟩⟩, k3⟩
theorem strF_zero {ws : List Int} (hz : ws.getD 0 0 = 0) : strF ws 0 = [] := by
  have e : ws.getD (0 : Int).toNat 0 = 0 := hz
  unfold strF
  rw [e]
  simp
theorem rcat_run (hN : Rw S) (h : RWat m b f hb hf wb wf ws room ty p1 p2 p3 p4 li io tk no nf lines) (hr : 0 < room ∧ room ≤ 65536) (hw : ws.length ≤ 65536) (hd : Wd ws) (hz : ws.getD 0 0 = 0) (hp : 0 < ws.length) {r q : Int} (h1 : 0 ≤ r) (h2 : 0 ≤ q) :
    ∃ v m1, callw Tryd.prog TT S 33 [.pointer (some ⟨b, 0, none⟩), .int .u64 r, .int .u64 q] m = some (v, m1) ∧ v = .tuple #[.int .u64 (catV ws room r q), .bool (catB ws room r q)] ∧ (∃ wb', RWat m1 b f hb hf wb' wf (catW ws room r q) room ty p1 p2 p3 p4 li io tk no nf lines) ∧ Keeps m m1 [hf, wf] := by
  by_cases h0 : r = 0 ∧ q = 0
  · obtain ⟨rfl, rfl⟩ := h0
    have e := strF_zero hz
    have hno : ¬ noText ws room [] := by unfold noText; simp
    refine fn_w 9 [14, 30] k33 hN.cat rfl ?_
    have e1 : catV ws room 0 0 = 0 := by simp [catV, catS, e, textV, hno]
    have e2 : catB ws room 0 0 = true := by simp [catB, catS, e, textB, hno]
    have e3 : catW ws room 0 0 = ws := by simp [catW, catS, e, textW, hno, txt]
    rw [e1, e2, e3]
    simp [-Int.natCast_add, -BitVec.toNat_or, -BitVec.toNat_ofInt, -BitVec.toNat_and, fieldAddr_of fa61_1, load_of ld59, bin_str u9 .add (Or.inl rfl), len_string u9]
    exact ⟨⟨wb, h⟩, (keeps_refl _).nil⟩
  have o := h.own
  have d := h.d1
  obtain ⟨_, m1, c1, rfl, k1⟩ := rstr_run hN h (by omega) hd hz h1
  obtain ⟨_, m2, c2, rfl, k2⟩ := rstr_run hN (h.keep0 k1) (by omega) hd hz h2
  have H2 := (h.keep0 k1).keep0 k2
  have l1 := o.load1 (off := 5) rfl
  have l2 := (o.keep k1 (by simp)).load1 (off := 5) rfl
  have l3 := H2.own.load1 (off := 5) rfl
  have len0 : ∀ x, (strF ws x).length ≤ 65536 := by
    intro x
    simp only [strF, List.length_map, List.length_range]
    omega
  have g1 := len0 r
  have g2 := len0 q
  have hrq : ∀ (X : Prop), (r = 0 → q = 0 → X) := fun X a b => absurd ⟨a, b⟩ h0
  refine fn_w 9 [14, 30] k33 hN.cat rfl ?_
  unfold catV catB catW catS
  generalize strF ws r = x at *
  generalize strF ws q = y at *
  have i2 : ((x.length + y.length : Nat) : Int) ≤ 9223372036854775807 := by omega
  by_cases c : 2000 < (x ++ y).length
  · have i1 : (2000 : Int) < ((x.length + y.length : Nat) : Int) := by rw [List.length_append] at c; omega
    rw [if_pos c, if_pos c, if_pos c]
    by_cases hr0 : r = 0
    · have hq0 : ¬ q = 0 := fun h => h0 ⟨hr0, h⟩
      subst hr0
      simp [-Int.natCast_add, -BitVec.toNat_or, -BitVec.toNat_ofInt, -BitVec.toNat_and, fieldAddr_of fa61_1, load_of ld59, bin_str u9 .add (Or.inl rfl), len_string u9, l1, l2, l3, c1, c2, i1, i2, hq0]
      exact ⟨⟨wb, H2⟩, (k1.trans k2).nil⟩
    · simp [-Int.natCast_add, -BitVec.toNat_or, -BitVec.toNat_ofInt, -BitVec.toNat_and, fieldAddr_of fa61_1, load_of ld59, bin_str u9 .add (Or.inl rfl), len_string u9, l1, l2, l3, c1, c2, i1, i2, hr0]
      exact ⟨⟨wb, H2⟩, (k1.trans k2).nil⟩
  · have i1 : ¬ (2000 : Int) < ((x.length + y.length : Nat) : Int) := by rw [List.length_append] at c; omega
    obtain ⟨_, m3, c3, rfl, ⟨wb3, H3⟩, k3⟩ := textR_any (l := x ++ y) hN.text hN.alloc hN.put hN.set hN.len hN.word H2.heap hr hw hd hz hp
    rw [if_neg c, if_neg c, if_neg c]
    obtain ⟨vv, hvv⟩ : ∃ vv, textV ws room (x ++ y) = vv := ⟨_, rfl⟩
    obtain ⟨bb, hbb⟩ : ∃ bb, textB ws room (x ++ y) = bb := ⟨_, rfl⟩
    rw [hvv, hbb] at c3 ⊢
    by_cases hr0 : r = 0
    · have hq0 : ¬ q = 0 := fun h => h0 ⟨hr0, h⟩
      subst hr0
      simp [-Int.natCast_add, -BitVec.toNat_or, -BitVec.toNat_ofInt, -BitVec.toNat_and, fieldAddr_of fa61_1, load_of ld59, bin_str u9 .add (Or.inl rfl), len_string u9, l1, l2, l3, c1, c2, c3, i1, i2, hq0]
      exact ⟨⟨wb3, ⟨H2.own.keep k3 (by simp; exact ⟨d.1, d.2.1⟩), H3, H2.lines.keepz k3 (fun hn => by simpa using ⟨(d.2.2 hn).2.1, (d.2.2 hn).2.2⟩), d⟩⟩, (k1.trans k2).nil.trans k3⟩
    · simp [-Int.natCast_add, -BitVec.toNat_or, -BitVec.toNat_ofInt, -BitVec.toNat_and, fieldAddr_of fa61_1, load_of ld59, bin_str u9 .add (Or.inl rfl), len_string u9, l1, l2, l3, c1, c2, c3, i1, i2, hr0]
      exact ⟨⟨wb3, ⟨H2.own.keep k3 (by simp; exact ⟨d.1, d.2.1⟩), H3, H2.lines.keepz k3 (fun hn => by simpa using ⟨(d.2.2 hn).2.1, (d.2.2 hn).2.2⟩), d⟩⟩, (k1.trans k2).nil.trans k3⟩
end
end Go.Proofs.YtggbgelfgfmikaaDoor.base

