/-
  This text proves what the program's world answers over the abstract run, of whatever is asked: Heap, Taken, Full, Lit, Print, Input, Object, Slice, Cat, Equal, Less.
  Condition: nothing is known of the calls ahead ('S f = []'); the table of powers of ten is laid.
-/
import Derived.Test.YtggbgelfgfmikaaDoorWorD
import Derived.Test.YtggbgelfgfmikaaDoorHeapR
set_option maxRecDepth 100000
set_option linter.unusedSimpArgs false
set_option linter.unusedVariables false
namespace Go.Proofs.YtggbgelfgfmikaaDoor.base
open Go.Sh gen
variable {S : Sums} {m : Mem}
structure PWat (m : Mem) (b f hb hf wb wf : Nat) (ws : List Int) (room : Int) (ty li io : Value) (tk : Int) (no : Option Addr) (nf : Nat) (lines : List (List UInt8)) : Prop where
  own : Own m b [ty, .pointer (some ⟨hb, 0, none⟩), li, io, .int .i64 tk, .slice no lines.length lines.length] 74 f
  heap : HeapAt m hb hf wb wf ws room
  lines : Sl m no lines.length (lines.map fun l => Value.string ⟨l.toArray⟩) 9 1 nf
  d1 : f ≠ hf ∧ f ≠ wf ∧ (no ≠ none → f ≠ nf ∧ nf ≠ hf ∧ nf ≠ wf)
structure Pw (S : Sums) : Prop where
  h : Nh S
  f : Nf S
  heap : S 19 = []
  taken : S 25 = []
  full : S 14 = []
  lit : S 17 = []
  say : S 44 = []
  print : S 12 = []
  input : S 22 = []
  object : S 23 = []
  slice : S 24 = []
  cat : S 16 = []
  equal : S 18 = []
  less : S 21 = []
  trace : S 13 = []
  copy : S 35 = []
  hcopy : S 55 = []
  words : S 37 = []
  fb1 : S 58 = []
  fb2 : S 66 = []
section
variable {b f hb hf wb wf nf : Nat} {ws : List Int} {room tk : Int} {ty li io : Value} {no : Option Addr} {lines : List (List UInt8)}
theorem PWat.keep {m1 : Mem} {fs : List Nat} (h : PWat m b f hb hf wb wf ws room ty li io tk no nf lines) (k : Keeps m m1 fs) (h1 : f ∉ fs) (h2 : hf ∉ fs) (h3 : wf ∉ fs) (h5 : no ≠ none → nf ∉ fs) : PWat m1 b f hb hf wb wf ws room ty li io tk no nf lines :=
  ⟨h.own.keep k h1, h.heap.keep k h2 h3, h.lines.keepz k h5, h.d1⟩
theorem PWat.keep0 {m1 : Mem} (h : PWat m b f hb hf wb wf ws room ty li io tk no nf lines) (k : Keeps m m1 []) : PWat m1 b f hb hf wb wf ws room ty li io tk no nf lines := h.keep k (by simp) (by simp) (by simp) (by simp)
theorem pheap_run (hN : Pw S) (h : PWat m b f hb hf wb wf ws room ty li io tk no nf lines) : callw Tryd.prog TT S 19 [.pointer (some ⟨b, 0, none⟩)] m = some (.pointer (some ⟨hb, 0, none⟩), m) := by
  have l := h.own.load1 (off := 1) rfl
  refine fn_eq 3 [] k19 hN.heap rfl ?_
  simp [-BitVec.toNat_or, -BitVec.toNat_ofInt, -BitVec.toNat_and, fieldAddr_of fa74_1, load_of ld44, l]
theorem ptaken_run (hN : Pw S) (h : PWat m b f hb hf wb wf ws room ty li io tk no nf lines) : callw Tryd.prog TT S 25 [.pointer (some ⟨b, 0, none⟩)] m = some (.int .i64 tk, m) := by
  have l := h.own.load1 (off := 4) rfl
  refine fn_eq 3 [] k25 hN.taken rfl ?_
  simp [-BitVec.toNat_or, -BitVec.toNat_ofInt, -BitVec.toNat_and, fieldAddr_of fa74_4, load_of ld3, l]
theorem pfull_run (hN : Pw S) (h : PWat m b f hb hf wb wf ws room ty li io tk no nf lines) : callw Tryd.prog TT S 14 [.pointer (some ⟨b, 0, none⟩)] m = some (.bool (decide (4096 ≤ lines.length)), m) := by
  have l := h.own.load1 (off := 5) rfl
  refine fn_eq 3 [] k14 hN.full rfl ?_
  by_cases c : 4096 ≤ lines.length
  · have c' : (4096 : Int) ≤ lines.length := by omega
    simp [-Int.natCast_add, -BitVec.toNat_or, -BitVec.toNat_ofInt, -BitVec.toNat_and, fieldAddr_of fa74_5, load_of ld28, len_slice u28, l, c, c']
  · have c' : ¬ (4096 : Int) ≤ lines.length := by omega
    simp [-Int.natCast_add, -BitVec.toNat_or, -BitVec.toNat_ofInt, -BitVec.toNat_and, fieldAddr_of fa74_5, load_of ld28, len_slice u28, l, c, c']
def litV (lits : List Int) (k : Int) : Int := if 0 ≤ k ∧ k < lits.length then lits.getD k.toNat 0 else 0
theorem plit_run (hN : Pw S) {lo : Option Addr} {lits : List Int} {lf : Nat} (h : PWat m b f hb hf wb wf ws room ty (.slice lo lits.length lits.length) io tk no nf lines) (hl : Rs m lo lits.length (words lits) 22 1 lf) (hn : lits.length ≤ 1000) {k : Int} :
    callw Tryd.prog TT S 17 [.pointer (some ⟨b, 0, none⟩), .int .i64 k] m = some (.int .u64 (litV lits k), m) := by
  have l := h.own.load1 (off := 2) rfl
  refine fn_eq 5 [15] k17 hN.lit rfl ?_
  unfold litV
  by_cases h0 : k < 0
  · have c : ¬ (0 ≤ k ∧ k < lits.length) := by omega
    simp [-Int.natCast_add, -BitVec.toNat_or, -BitVec.toNat_ofInt, -BitVec.toNat_and, fieldAddr_of fa74_2, load_of ld56, len_slice u56, index_slice u56 sz22, load_of ld22, l, h0, c]
  · by_cases h1 : k < lits.length
    · obtain ⟨i, rfl⟩ := Int.eq_ofNat_of_zero_le (by omega : 0 ≤ k)
      have hi : i < lits.length := by omega
      obtain ⟨lb, rfl, ol⟩ := hl.rdo (by omega)
      have lk := ol.load1 (words_at hi)
      have i2 : (i : Int) ≤ 9223372036854775807 := by omega
      have i3 : ¬ (lits.length : Int) ≤ i := by omega
      have c : 0 ≤ (i : Int) ∧ (i : Int) < lits.length := by omega
      have n0 : ¬ (i : Int) < 0 := by omega
      simp [-List.getD_eq_getElem?_getD, -Int.natCast_add, -BitVec.toNat_or, -BitVec.toNat_ofInt, -BitVec.toNat_and, fieldAddr_of fa74_2, load_of ld56, len_slice u56, index_slice u56 sz22, load_of ld22, l, h1, i2, i3, hi, lk, n0]
    · have i3 : (lits.length : Int) ≤ k := by omega
      have c : ¬ (0 ≤ k ∧ k < lits.length) := by omega
      simp [-Int.natCast_add, -BitVec.toNat_or, -BitVec.toNat_ofInt, -BitVec.toNat_and, fieldAddr_of fa74_2, load_of ld56, len_slice u56, index_slice u56 sz22, load_of ld22, l, h0, h1, i3, c]
def sayL (ws : List Int) (k v : Int) : List UInt8 := if k = 1 then fmt (i64of v) else if k = 2 then (if v = 0 then fls else tru) else if k = 3 then strF ws v else []
def sayP (k : Int) : Prop := k = 1 ∨ k = 2 ∨ k = 3
instance (k : Int) : Decidable (sayP k) := by unfold sayP; infer_instance
theorem pstr_run (hN : Pw S) (h : PWat m b f hb hf wb wf ws room ty li io tk no nf lines) (hw : ws.length ≤ 1000000) (hd : Wd ws) {r : Int} (hr : 0 ≤ r) :
    ∃ v m1, callw Tryd.prog TT S 46 [.pointer (some ⟨hb, 0, none⟩), .int .u64 r] m = some (v, m1) ∧ v = .string ⟨(strF ws r).toArray⟩ ∧ Keeps m m1 [] :=
  stringG_run hN.h.str hN.h.get hN.h.at_ hN.h.len hN.h.head hN.h.word h.heap hr hw hd
theorem psay_run (hN : Pw S) {e : TypeId} (hg : Rdo m 0 powC e 0) (h : PWat m b f hb hf wb wf ws room ty li io tk no nf lines) (hw : ws.length ≤ 1000000) (hd : Wd ws) {k v : Int} (hv : 0 ≤ v) :
    ∃ r m1, callw Tryd.prog TT S 44 [.pointer (some ⟨b, 0, none⟩), .int .i64 k, .int .u64 v] m = some (r, m1) ∧ r = .tuple #[.string ⟨(sayL ws k v).toArray⟩, .bool (decide (sayP k))] ∧ Keeps m m1 [] := by
  by_cases h1 : k = 1
  · subst h1
    exact say_int hN.say hN.f hg v
  by_cases h2 : k = 2
  · subst h2
    exact ⟨_, _, say_bool hN.say hN.fb1 hN.fb2 v, rfl, keeps_refl _⟩
  by_cases h3 : k = 3
  · subst h3
    obtain ⟨_, m1, c1, rfl, k1⟩ := pstr_run hN h hw hd hv
    have l := h.own.load1 (off := 1) rfl
    refine fn_w 9 [9, 14, 19] k44 hN.say rfl ?_
    simp [-BitVec.toNat_or, -BitVec.toNat_ofInt, -BitVec.toNat_and, conv_i u22 u2, fieldAddr_of fa74_1, load_of ld44, l, c1]
    exact ⟨⟨rfl, by decide⟩, k1⟩
  · have hs : ¬ sayP k := by unfold sayP; omega
    refine fn_w 9 [9, 14, 19] k44 hN.say rfl ?_
    simp [-BitVec.toNat_or, -BitVec.toNat_ofInt, -BitVec.toNat_and, conv_i u22 u2, fieldAddr_of fa74_1, load_of ld44, h1, h2, h3]
    refine ⟨⟨?_, hs⟩, keeps_refl _⟩
    simp [sayL, h1, h2, h3]
def addL (lines : List (List UInt8)) (ws : List Int) (k v : Int) : List (List UInt8) := if sayP k ∧ lines.length < 4096 then lines ++ [sayL ws k v] else lines
set_option maxHeartbeats 4000000 in
theorem pprint_run (hN : Pw S) {e : TypeId} (hg : Rdo m 0 powC e 0) (h : PWat m b f hb hf wb wf ws room ty li io tk no nf lines) (hw : ws.length ≤ 1000000) (hd : Wd ws) (hl : lines.length ≤ 4096) {k v : Int} (hv : 0 ≤ v) :
    ∃ r m2, callw Tryd.prog TT S 12 [.pointer (some ⟨b, 0, none⟩), .int .i64 k, .int .u64 v] m = some (r, m2) ∧ (∃ no' nf', PWat m2 b f hb hf wb wf ws room ty li io tk no' nf' (addL lines ws k v) ∧ (no' ≠ none → (no ≠ none ∧ nf' = nf) ∨ m.next ≤ nf')) ∧ ∃ nq, Keeps m m2 [f, nq] ∧ (nq = f ∨ (no ≠ none ∧ nq = nf)) := by
  obtain ⟨_, m1, hs, rfl, k1⟩ := psay_run hN hg h hw hd (k := k) hv
  have h1 := h.keep0 k1
  have hf1 := pfull_run hN h1
  refine fn_w 8 [25, 28] k12 hN.print rfl ?_
  unfold addL
  generalize sayL ws k v = s at *
  by_cases hp : sayP k
  · by_cases c : lines.length < 4096
    · have c' : ¬ 4096 ≤ lines.length := by omega
      have o := h1.own
      have l := o.load1 (off := 5) rfl
      rw [if_pos ⟨hp, c⟩]
      simp [-Int.natCast_add, -BitVec.toNat_or, -BitVec.toNat_ofInt, -BitVec.toNat_and, fieldAddr_of fa74_5, load_of ld28, buildSlice_of u28 bs9 rfl, append_s u28 sz9, store_of sz28, hs, hf1, c, c', l, hp]
      generalize hra : sappend _ _ _ _ _ _ = ra
      obtain ⟨m2, nb, nf2, rfl, oN, k2, hnf, _⟩ := app_slz hra u28 ap9 h1.lines (by omega) (by simp) (by simp [one_str]) (by omega) (by omega)
      have d := h1.d1
      have kn : ∀ g : Nat, (no ≠ none → g ≠ nf) → g ∉ (if no = none then [] else [nf]) := by
        intro g hg
        split
        · simp
        · rename_i hn
          simpa using hg hn
      have o2 := o.keep k2 (kn f (fun hn => (d.2.2 hn).1))
      have H2 := h1.heap.keep k2 (kn hf (fun hn => (d.2.2 hn).2.1.symm)) (kn wf (fun hn => (d.2.2 hn).2.2.symm))
      simp [-Int.natCast_add, -BitVec.toNat_or, -BitVec.toNat_ofInt, -BitVec.toNat_and, fieldAddr_of fa74_5, load_of ld28, buildSlice_of u28 bs9 rfl, append_s u28 sz9, store_of sz28]
      generalize hrb : storeRow _ _ _ = rb
      obtain ⟨m3, rfl, o3, k3⟩ := store_own hrb o2 (by simp) (by simp [one_slice])
      simp [over] at o3
      simp [-Int.natCast_add, -BitVec.toNat_or, -BitVec.toNat_ofInt, -BitVec.toNat_and, fieldAddr_of fa74_5, load_of ld28, buildSlice_of u28 bs9 rfl, append_s u28 sz9, store_of sz28]
      have m1l : f < m1.next ∧ hf < m1.next ∧ wf < m1.next := ⟨o.flt, h1.heap.h.flt, h1.heap.w.flt⟩
      have dn : f ≠ nf2 ∧ nf2 ≠ hf ∧ nf2 ≠ wf := by
        rcases hnf with ⟨h, h2⟩ | h
        · rw [h2]; exact d.2.2 h
        · exact ⟨by omega, by omega, by omega⟩
      have e : (lines ++ [s]).length = lines.length + 1 := by simp
      refine ⟨⟨some ⟨nb, 0, none⟩, nf2, ⟨by rw [e]; exact o3, H2.keep k3 (by simpa using d.1.symm) (by simpa using d.2.1.symm), ?_, d.1, d.2.1, fun _ => dn⟩, fun _ => hnf.imp id (fun h => Nat.le_trans k1.1 h)⟩, ?_⟩
      · rw [e, List.map_append]
        exact Sl.of (oN.keep k3 (by simpa using dn.1.symm)) (by simp)
      · by_cases hno : no = none
        · rw [if_pos hno] at k2
          exact ⟨f, (k1.trans k2).nil.trans (k3.mono (by simp)), Or.inl rfl⟩
        · rw [if_neg hno] at k2
          exact ⟨nf, (k1.nil.trans (k2.mono (by simp))).trans (k3.mono (by simp)), Or.inr ⟨hno, rfl⟩⟩
    · have c' : 4096 ≤ lines.length := by omega
      rw [if_neg (fun h => c h.2)]
      simp [-Int.natCast_add, -BitVec.toNat_or, -BitVec.toNat_ofInt, -BitVec.toNat_and, fieldAddr_of fa74_5, load_of ld28, buildSlice_of u28 bs9 rfl, append_s u28 sz9, store_of sz28, hs, hf1, c, c', hp]
      exact ⟨⟨_, _, h1, fun h => Or.inl ⟨h, rfl⟩⟩, f, k1.nil, Or.inl rfl⟩
  · rw [if_neg (fun h => hp h.1)]
    simp [-Int.natCast_add, -BitVec.toNat_or, -BitVec.toNat_ofInt, -BitVec.toNat_and, fieldAddr_of fa74_5, load_of ld28, buildSlice_of u28 bs9 rfl, append_s u28 sz9, store_of sz28, hs, hf1, hp]
    exact ⟨⟨_, _, h1, fun h => Or.inl ⟨h, rfl⟩⟩, f, k1.nil, Or.inl rfl⟩
def int64s (l : List Int) : List Value := l.map (Value.int .i64)
theorem int64s_at {l : List Int} {i : Nat} (h : i < l.length) : (int64s l)[i]? = some (.int .i64 (l.getD i 0)) := by
  simp [int64s, List.getD_eq_getElem?_getD, List.getElem?_eq_getElem h]
def inV (ins : List Int) (t : Nat) : Int := if t < ins.length then IntKind.u64.wrap (ins.getD t 0) else 0
def inT (ins : List Int) (t : Nat) : Nat := if t < ins.length then t + 1 else t
theorem pinput_run (hN : Pw S) {jo : Option Addr} {ins : List Int} {jf t : Nat} (h : PWat m b f hb hf wb wf ws room ty li (.slice jo ins.length ins.length) t no nf lines) (hi : Rs m jo ins.length (int64s ins) 2 1 jf) (hn : ins.length ≤ 1000) (ht : t ≤ ins.length) (hjf : jf ≠ f) :
    ∃ v m1, callw Tryd.prog TT S 22 [.pointer (some ⟨b, 0, none⟩)] m = some (v, m1) ∧ v = .int .u64 (inV ins t) ∧ PWat m1 b f hb hf wb wf ws room ty li (.slice jo ins.length ins.length) (inT ins t) no nf lines ∧ Keeps m m1 [f] := by
  have o := h.own
  have l3 := o.load1 (off := 3) rfl
  have l4 := o.load1 (off := 4) rfl
  have d := h.d1
  refine fn_w 3 [12] k22 hN.input rfl ?_
  unfold inV inT
  by_cases c : t < ins.length
  · have c' : ¬ (t : Int) = ins.length := by omega
    have wt : IntKind.i64.wrap ((t : Int) + 1) = (t : Int) + 1 := wrap_i64 (by omega) (by omega)
    have wt2 : IntKind.i64.wrap (t : Int) = (t : Int) := wrap_i64 (by omega) (by omega)
    obtain ⟨m5, e5, o5, k5⟩ := store_own (r := _) rfl o (off := 4) (vs := [.int .i64 ((t : Int) + 1)]) (by simp) (by simp [one_int])
    simp [over] at o5
    obtain ⟨jb, rfl, oj⟩ := hi.rdo (by omega)
    have q3 := o5.load1 (off := 3) rfl
    have q4 := o5.load1 (off := 4) rfl
    have lj := (oj.keep k5 (by simpa using hjf)).load1 (int64s_at c)
    have i1 : (t : Int) < ins.length := by omega
    have i2 : (t : Int) ≤ 9223372036854775807 := by omega
    generalize ins.getD t 0 = x at *
    have c2 : ¬ t = ins.length := by omega
    simp [-Int.natCast_add, -BitVec.toNat_or, -BitVec.toNat_ofInt, -BitVec.toNat_and, fieldAddr_of fa74_4, load_of ld3, fieldAddr_of fa74_3, load_of ld29, len_slice u29, store_of sz3, index_slice u29 sz2, load_of ld2, conv_i u2 u22, l3, l4, c, c', c2, wt, wt2, e5, q3, q4, i1, i2, lj]
    refine ⟨⟨by simpa using o5, h.heap.keep k5 (by simpa using d.1.symm) (by simpa using d.2.1.symm), h.lines.keepz k5 (fun hn => by simpa using (d.2.2 hn).1.symm), d⟩, k5⟩
  · have c' : (t : Int) = ins.length := by omega
    have c2 : t = ins.length := by omega
    simp [-Int.natCast_add, -BitVec.toNat_or, -BitVec.toNat_ofInt, -BitVec.toNat_and, fieldAddr_of fa74_4, load_of ld3, fieldAddr_of fa74_3, load_of ld29, len_slice u29, store_of sz3, index_slice u29 sz2, load_of ld2, conv_i u2 u22, l3, l4, c, c', c2]
    exact ⟨by rw [← c']; exact h, keeps_refl _ |>.nil⟩
def fieldsN (t : Int) : Nat := if t = 5 then 2 else 0
structure TyT (m : Mem) (tb tf : Nat) (tcs : List Value) : Prop where
  o : Rdo m tb tcs 78 tf
  len : tcs.length = 35
  at_ : ∀ i : Nat, i < 7 → ∃ v, tcs[i * 5 + 3]? = some (.slice v (fieldsN i) (fieldsN i))
theorem pobject_run (hN : Pw S) {tb tf : Nat} {tcs : List Value} (h : PWat m b f hb hf wb wf ws room (.slice (some ⟨tb, 0, none⟩) 7 7) li io tk no nf lines) (hT : TyT m tb tf tcs) (hr : 0 < room ∧ room ≤ 65536) (hw : ws.length ≤ 65536) (hfw : hf ≠ wf) {t : Int} :
    ∃ v m1, callw Tryd.prog TT S 23 [.pointer (some ⟨b, 0, none⟩), .int .i64 t] m = some (v, m1) ∧ v = .tuple #[.int .u64 (allocV ws room t (fieldsN t)), .bool (allocB ws room t (fieldsN t))] ∧ (∃ wb', PWat m1 b f hb hf wb' wf (allocW ws room t (fieldsN t)) room (.slice (some ⟨tb, 0, none⟩) 7 7) li io tk no nf lines) ∧ Keeps m m1 [hf, wf] := by
  have o := h.own
  have l0 := o.load1 (off := 0) rfl
  have l1 := o.load1 (off := 1) rfl
  have d := h.d1
  obtain ⟨_, m3, c3, rfl, ⟨wb3, H3⟩, k3⟩ := alloc_any hN.h.alloc h.heap hr hw (t := t) (n := fieldsN t)
  have fin : ∃ wb', PWat m3 b f hb hf wb' wf (allocW ws room t (fieldsN t)) room (.slice (some ⟨tb, 0, none⟩) 7 7) li io tk no nf lines := ⟨wb3, ⟨o.keep k3 (by simp; exact ⟨d.1, d.2.1⟩), H3, h.lines.keepz k3 (fun hn => by simpa using ⟨(d.2.2 hn).2.1, (d.2.2 hn).2.2⟩), d⟩⟩
  refine fn_w 7 [17] k23 hN.object rfl ?_
  by_cases c : 0 ≤ t ∧ t < 7
  · obtain ⟨i, rfl⟩ := Int.eq_ofNat_of_zero_le c.1
    have hi : i < 7 := by omega
    obtain ⟨v, hv⟩ := hT.at_ i hi
    have lt := hT.o.load1 hv
    have i2 : (i : Int) ≤ 9223372036854775807 := by omega
    have i1 : (i : Int) < 7 := by omega
    generalize fieldsN i = q at *
    simp [-Int.natCast_add, -BitVec.toNat_or, -BitVec.toNat_ofInt, -BitVec.toNat_and, fieldAddr_of fa74_0, load_of ld26, len_slice u26, index_slice u26 sz78, fieldAddr_of fa78_3, load_of ld75, len_slice u75, fieldAddr_of fa74_1, load_of ld44, l0, l1, i1, hi, i2, lt, c3]
    exact ⟨fin, k3⟩
  · have e0 : fieldsN t = 0 := by unfold fieldsN; rw [if_neg (by omega)]
    rw [e0] at c3 fin ⊢
    simp at c3 fin
    by_cases c1 : 0 ≤ t
    · have c2 : ¬ t < 7 := by omega
      simp [-Int.natCast_add, -BitVec.toNat_or, -BitVec.toNat_ofInt, -BitVec.toNat_and, fieldAddr_of fa74_0, load_of ld26, len_slice u26, index_slice u26 sz78, fieldAddr_of fa78_3, load_of ld75, len_slice u75, fieldAddr_of fa74_1, load_of ld44, l0, l1, c1, c2, c3]
      exact ⟨fin, k3⟩
    · simp [-Int.natCast_add, -BitVec.toNat_or, -BitVec.toNat_ofInt, -BitVec.toNat_and, fieldAddr_of fa74_0, load_of ld26, len_slice u26, index_slice u26 sz78, fieldAddr_of fa78_3, load_of ld75, len_slice u75, fieldAddr_of fa74_1, load_of ld44, l0, l1, c1, c3]
      exact ⟨fin, k3⟩
theorem pslice_run (hN : Pw S) (h : PWat m b f hb hf wb wf ws room ty li io tk no nf lines) (hr : 0 < room ∧ room ≤ 65536) (hw : ws.length ≤ 65536) {n : Int} (hn : -9223372036854775808 ≤ n ∧ n ≤ 9223372036854775807) :
    ∃ v m1, callw Tryd.prog TT S 24 [.pointer (some ⟨b, 0, none⟩), .int .i64 6, .int .i64 n] m = some (v, m1) ∧ v = .tuple #[.int .u64 (allocV ws room 6 n), .bool (allocB ws room 6 n)] ∧ (∃ wb', PWat m1 b f hb hf wb' wf (allocW ws room 6 n) room ty li io tk no nf lines) ∧ Keeps m m1 [hf, wf] := by
  have o := h.own
  have l1 := o.load1 (off := 1) rfl
  have d := h.d1
  refine fn_w 8 [13] k24 hN.slice rfl ?_
  by_cases c : n < 0 ∨ 65536 < n
  · have hno : noRoom ws room 6 n := by unfold noRoom; omega
    have e1 : allocV ws room 6 n = 0 := by simp only [allocV, if_pos hno]
    have e2 : allocB ws room 6 n = false := by simp only [allocB, if_pos hno]
    have e3 : allocW ws room 6 n = ws := by simp only [allocW, if_pos hno]
    rw [e1, e2, e3]
    rcases c with c | c
    · simp [-Int.natCast_add, -BitVec.toNat_or, -BitVec.toNat_ofInt, -BitVec.toNat_and, fieldAddr_of fa74_1, load_of ld44, c]
      exact ⟨⟨wb, h⟩, (keeps_refl _).nil⟩
    · have c2 : ¬ n < 0 := by omega
      simp [-Int.natCast_add, -BitVec.toNat_or, -BitVec.toNat_ofInt, -BitVec.toNat_and, fieldAddr_of fa74_1, load_of ld44, c, c2]
      exact ⟨⟨wb, h⟩, (keeps_refl _).nil⟩
  · obtain ⟨_, m3, c3, rfl, ⟨wb3, H3⟩, k3⟩ := alloc_any hN.h.alloc h.heap hr hw (t := 6) (n := n)
    have c1 : ¬ n < 0 := by omega
    have c2 : ¬ 65536 < n := by omega
    have wn : IntKind.i64.wrap n = n := wrap_i64 hn.1 hn.2
    simp [-Int.natCast_add, -BitVec.toNat_or, -BitVec.toNat_ofInt, -BitVec.toNat_and, fieldAddr_of fa74_1, load_of ld44, c1, c2, l1, wn, c3]
    exact ⟨⟨wb3, ⟨o.keep k3 (by simp; exact ⟨d.1, d.2.1⟩), H3, h.lines.keepz k3 (fun hn => by simpa using ⟨(d.2.2 hn).2.1, (d.2.2 hn).2.2⟩), d⟩⟩, k3⟩
def catS (ws : List Int) (a b : Int) : List UInt8 := strF ws a ++ strF ws b
def catV (ws : List Int) (room a b : Int) : Int := if 2000 < (catS ws a b).length then 0 else textV ws room (catS ws a b)
def catB (ws : List Int) (room a b : Int) : Bool := if 2000 < (catS ws a b).length then false else textB ws room (catS ws a b)
def catW (ws : List Int) (room a b : Int) : List Int := if 2000 < (catS ws a b).length then ws else textW ws room (catS ws a b)
theorem pcat_run (hN : Pw S) (h : PWat m b f hb hf wb wf ws room ty li io tk no nf lines) (hr : 0 < room ∧ room ≤ 65536) (hw : ws.length ≤ 65536) (hd : Wd ws) {r q : Int} (h1 : 0 ≤ r) (h2 : 0 ≤ q) :
    ∃ v m1, callw Tryd.prog TT S 16 [.pointer (some ⟨b, 0, none⟩), .int .u64 r, .int .u64 q] m = some (v, m1) ∧ v = .tuple #[.int .u64 (catV ws room r q), .bool (catB ws room r q)] ∧ (∃ wb', PWat m1 b f hb hf wb' wf (catW ws room r q) room ty li io tk no nf lines) ∧ Keeps m m1 [hf, wf] := by
  have o := h.own
  have d := h.d1
  obtain ⟨_, m1, c1, rfl, k1⟩ := pstr_run hN h (by omega) hd h1
  obtain ⟨_, m2, c2, rfl, k2⟩ := pstr_run hN (h.keep0 k1) (by omega) hd h2
  have H2 := (h.keep0 k1).keep0 k2
  have l1 := o.load1 (off := 1) rfl
  have l2 := (o.keep k1 (by simp)).load1 (off := 1) rfl
  have l3 := H2.own.load1 (off := 1) rfl
  have len0 : ∀ x, (strF ws x).length ≤ 65536 := by
    intro x
    simp only [strF, List.length_map, List.length_range]
    omega
  have g1 := len0 r
  have g2 := len0 q
  refine fn_w 9 [24] k16 hN.cat rfl ?_
  unfold catV catB catW catS
  generalize strF ws r = x at *
  generalize strF ws q = y at *
  have i2 : ((x.length + y.length : Nat) : Int) ≤ 9223372036854775807 := by omega
  by_cases c : 2000 < (x ++ y).length
  · have i1 : (2000 : Int) < ((x.length + y.length : Nat) : Int) := by rw [List.length_append] at c; omega
    rw [if_pos c, if_pos c, if_pos c]
    simp [-Int.natCast_add, -BitVec.toNat_or, -BitVec.toNat_ofInt, -BitVec.toNat_and, fieldAddr_of fa74_1, load_of ld44, bin_str u9 .add (Or.inl rfl), len_string u9, l1, l2, l3, c1, c2, i1, i2]
    exact ⟨⟨wb, H2⟩, (k1.trans k2).nil⟩
  · have i1 : ¬ (2000 : Int) < ((x.length + y.length : Nat) : Int) := by rw [List.length_append] at c; omega
    obtain ⟨_, m3, c3, rfl, ⟨wb3, H3⟩, k3⟩ := text_any (l := x ++ y) hN.h.text hN.h.alloc hN.h.put hN.h.set hN.h.at_ hN.h.len hN.h.head hN.h.word H2.heap hr hw hd
    rw [if_neg c, if_neg c, if_neg c]
    obtain ⟨vv, hvv⟩ : ∃ vv, textV ws room (x ++ y) = vv := ⟨_, rfl⟩
    obtain ⟨bb, hbb⟩ : ∃ bb, textB ws room (x ++ y) = bb := ⟨_, rfl⟩
    rw [hvv, hbb] at c3 ⊢
    simp [-Int.natCast_add, -BitVec.toNat_or, -BitVec.toNat_ofInt, -BitVec.toNat_and, fieldAddr_of fa74_1, load_of ld44, bin_str u9 .add (Or.inl rfl), len_string u9, l1, l2, l3, c1, c2, c3, i1, i2]
    exact ⟨⟨wb3, ⟨H2.own.keep k3 (by simp; exact ⟨d.1, d.2.1⟩), H3, H2.lines.keepz k3 (fun hn => by simpa using ⟨(d.2.2 hn).2.1, (d.2.2 hn).2.2⟩), d⟩⟩, (k1.trans k2).nil.trans k3⟩
theorem pequal_run (hN : Pw S) (h : PWat m b f hb hf wb wf ws room ty li io tk no nf lines) (hw : ws.length ≤ 65536) (hd : Wd ws) {r q : Int} (h1 : 0 ≤ r) (h2 : 0 ≤ q) :
    ∃ v m1, callw Tryd.prog TT S 18 [.pointer (some ⟨b, 0, none⟩), .int .u64 r, .int .u64 q] m = some (v, m1) ∧ v = .bool (decide (strF ws r = strF ws q)) ∧ Keeps m m1 [] := by
  have o := h.own
  obtain ⟨_, m1, c1, rfl, k1⟩ := pstr_run hN h (by omega) hd h1
  obtain ⟨_, m2, c2, rfl, k2⟩ := pstr_run hN (h.keep0 k1) (by omega) hd h2
  have l1 := o.load1 (off := 1) rfl
  have l2 := (o.keep k1 (by simp)).load1 (off := 1) rfl
  refine fn_w 7 [] k18 hN.equal rfl ?_
  simp [-BitVec.toNat_or, -BitVec.toNat_ofInt, -BitVec.toNat_and, fieldAddr_of fa74_1, load_of ld44, l1, l2, c1, c2]
  exact k1.trans k2
theorem pless_run (hN : Pw S) (h : PWat m b f hb hf wb wf ws room ty li io tk no nf lines) (hw : ws.length ≤ 65536) (hd : Wd ws) {r q : Int} (h1 : 0 ≤ r) (h2 : 0 ≤ q) :
    ∃ v m1, callw Tryd.prog TT S 21 [.pointer (some ⟨b, 0, none⟩), .int .u64 r, .int .u64 q] m = some (v, m1) ∧ v = .bool (Op.bytesLess (strF ws r) (strF ws q)) ∧ Keeps m m1 [] := by
  have o := h.own
  obtain ⟨_, m1, c1, rfl, k1⟩ := pstr_run hN h (by omega) hd h1
  obtain ⟨_, m2, c2, rfl, k2⟩ := pstr_run hN (h.keep0 k1) (by omega) hd h2
  have l1 := o.load1 (off := 1) rfl
  have l2 := (o.keep k1 (by simp)).load1 (off := 1) rfl
  refine fn_w 7 [] k21 hN.less rfl ?_
  simp [-BitVec.toNat_or, -BitVec.toNat_ofInt, -BitVec.toNat_and, fieldAddr_of fa74_1, load_of ld44, bin_str u9 .lss (Or.inr (Or.inl rfl)), l1, l2, c1, c2]
  exact k1.trans k2
end
end Go.Proofs.YtggbgelfgfmikaaDoor.base

