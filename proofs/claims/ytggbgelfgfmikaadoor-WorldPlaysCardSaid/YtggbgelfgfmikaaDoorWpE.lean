/-
  This text proves what the hand's Inputs, the program's Trace and Copy, the law's words and strs answer over the abstract run.
  Condition: nothing is known of the calls ahead ('S f = []').
-/
import Derived.Test.YtggbgelfgfmikaaDoorWpD
set_option maxRecDepth 100000
set_option linter.unusedSimpArgs false
set_option linter.unusedVariables false
namespace Go.Proofs.YtggbgelfgfmikaaDoor.base
open Go.Sh gen
variable {S : Sums} {m : Mem}
theorem weq_run (hS : S 36 = []) {ao bo : Option Addr} {b : List Int} {af bf ae be : Nat} (ha : Rs m ao b.length (words b) ae 1 af) (hb : Rs m bo b.length (words b) be 1 bf) (hbl : b.length ≤ 4611686018427387904) :
    callw Tryd.prog TT S 36 [.slice ao b.length b.length, .slice bo b.length b.length] m = some (.bool true, m) := by
  suffices h : ∃ v m1, callw Tryd.prog TT S 36 [.slice ao b.length b.length, .slice bo b.length b.length] m = some (v, m1) ∧ v = .bool true ∧ m1 = m by
    obtain ⟨_, _, h, rfl, rfl⟩ := h
    exact h
  refine fn_w 6 [10, 14, 25] k36 hS rfl ?_
  simp [-Int.natCast_add, -BitVec.toNat_or, -BitVec.toNat_ofInt, -BitVec.toNat_and, len_slice u56, index_slice u56 sz22, load_of ld22]
  refine wsem_loop 6 [10, 14, 25] (fun d E m2 => ∃ i : Nat, b.length - i = d ∧ i ≤ b.length ∧ m2 = m ∧ E = [(0, .slice ao b.length b.length), (1, .slice bo b.length b.length), (5, .int .i64 i)]) _ ⟨_, ⟨0, rfl, by omega, rfl, rfl⟩, ⟨by rfl, by rfl, by rfl, trivial⟩⟩ ?_
  rintro d E m2 ih ⟨i, hd, hi, rfl, rfl⟩
  by_cases hlt : i < b.length
  · have em : (i : Int) ≤ 9223372036854775807 := by omega
    have hlt' : (i : Int) < b.length := by omega
    have wi : IntKind.i64.wrap ((i : Int) + 1) = ((i + 1 : Nat) : Int) := by rw [wrap_i64 (by omega) (by omega)]; omega
    obtain ⟨ab, rfl, oa⟩ := ha.rdo (by omega)
    obtain ⟨bb, rfl, ob⟩ := hb.rdo (by omega)
    have la : loadRow m2 ⟨ab, i, none⟩ 1 = some [.int .u64 b[i]] := oa.load1 (by simp [words, hlt])
    have lb : loadRow m2 ⟨bb, i, none⟩ 1 = some [.int .u64 b[i]] := ob.load1 (by simp [words, hlt])
    generalize b[i] = y at *
    simp [-Int.natCast_add, -BitVec.toNat_or, -BitVec.toNat_ofInt, -BitVec.toNat_and, len_slice u56, index_slice u56 sz22, load_of ld22, hlt, hlt', em, la, lb, wi]
    exact ih _ _ _ _ ⟨i + 1, rfl, by omega, rfl, rfl⟩ (by omega) ⟨by rfl, by rfl, by rfl, trivial⟩
  · have hlt' : ¬ (i : Int) < b.length := by omega
    simp [-Int.natCast_add, -BitVec.toNat_or, -BitVec.toNat_ofInt, -BitVec.toNat_and, len_slice u56, index_slice u56 sz22, load_of ld22, hlt', hlt]
theorem seq_run (hS : S 38 = []) {ao bo : Option Addr} {b : List (List UInt8)} {af bf ae be : Nat} (ha : Rs m ao b.length (strC b) ae 1 af) (hb : Rs m bo b.length (strC b) be 1 bf) (hbl : b.length ≤ 4611686018427387904) :
    callw Tryd.prog TT S 38 [.slice ao b.length b.length, .slice bo b.length b.length] m = some (.bool true, m) := by
  suffices h : ∃ v m1, callw Tryd.prog TT S 38 [.slice ao b.length b.length, .slice bo b.length b.length] m = some (v, m1) ∧ v = .bool true ∧ m1 = m by
    obtain ⟨_, _, h, rfl, rfl⟩ := h
    exact h
  refine fn_w 6 [10, 14, 25] k38 hS rfl ?_
  simp [-Int.natCast_add, -BitVec.toNat_or, -BitVec.toNat_ofInt, -BitVec.toNat_and, len_slice u28, index_slice u28 sz9, load_of ld9]
  refine wsem_loop 6 [10, 14, 25] (fun d E m2 => ∃ i : Nat, b.length - i = d ∧ i ≤ b.length ∧ m2 = m ∧ E = [(0, .slice ao b.length b.length), (1, .slice bo b.length b.length), (5, .int .i64 i)]) _ ⟨_, ⟨0, rfl, by omega, rfl, rfl⟩, ⟨by rfl, by rfl, by rfl, trivial⟩⟩ ?_
  rintro d E m2 ih ⟨i, hd, hi, rfl, rfl⟩
  by_cases hlt : i < b.length
  · have em : (i : Int) ≤ 9223372036854775807 := by omega
    have hlt' : (i : Int) < b.length := by omega
    have wi : IntKind.i64.wrap ((i : Int) + 1) = ((i + 1 : Nat) : Int) := by rw [wrap_i64 (by omega) (by omega)]; omega
    obtain ⟨ab, rfl, oa⟩ := ha.rdo (by omega)
    obtain ⟨bb, rfl, ob⟩ := hb.rdo (by omega)
    have la : loadRow m2 ⟨ab, i, none⟩ 1 = some [.string ⟨(b[i]).toArray⟩] := oa.load1 (by simp [strC, hlt])
    have lb : loadRow m2 ⟨bb, i, none⟩ 1 = some [.string ⟨(b[i]).toArray⟩] := ob.load1 (by simp [strC, hlt])
    generalize b[i] = y at *
    simp [-Int.natCast_add, -BitVec.toNat_or, -BitVec.toNat_ofInt, -BitVec.toNat_and, len_slice u28, index_slice u28 sz9, load_of ld9, hlt, hlt', em, la, lb, wi]
    exact ih _ _ _ _ ⟨i + 1, rfl, by omega, rfl, rfl⟩ (by omega) ⟨by rfl, by rfl, by rfl, trivial⟩
  · have hlt' : ¬ (i : Int) < b.length := by omega
    simp [-Int.natCast_add, -BitVec.toNat_or, -BitVec.toNat_ofInt, -BitVec.toNat_and, len_slice u28, index_slice u28 sz9, load_of ld9, hlt', hlt]
def InP (m m1 : Mem) (ls : List Int) (v : Value) : Prop := ∃ oa fo, v = .slice oa (ls.take 40).length (ls.take 40).length ∧ Sl m1 oa (ls.take 40).length (int64s (ls.take 40)) 2 1 fo ∧ (oa ≠ none → m.next ≤ fo)
theorem inputs_run (hS : S 26 = []) {lo : Option Addr} {ls : List Int} {lf le : Nat} (hl : Rs m lo ls.length (int64s ls) le 1 lf) :
    ∃ v m1, callw Tryd.prog TT S 26 [.slice lo ls.length ls.length] m = some (v, m1) ∧ InP m m1 ls v ∧ Keeps m m1 [] := by
  refine fn_w 5 [12] k26 hS rfl ?_
  simp [-Int.natCast_add, -BitVec.toNat_or, -BitVec.toNat_ofInt, -BitVec.toNat_and, len_slice u29, index_slice u29 sz2, load_of ld2, buildSlice_of u29 bs2 rfl, append_s u29 sz2]
  refine wsem_loop 5 [12] (fun d E m2 => ∃ (i : Nat) (oa : Option Addr) (fo : Nat), 40 - i = d ∧ i ≤ 40 ∧ i ≤ ls.length ∧ Sl m2 oa i (int64s (ls.take i)) 2 1 fo ∧ (oa ≠ none → m.next ≤ fo) ∧ Keeps m m2 [] ∧ E = [(0, .slice lo ls.length ls.length), (3, .slice oa i i), (4, .int .i64 i)]) _ ⟨_, ⟨0, none, 0, rfl, by omega, by omega, Sl.nil _ _ _ _, by simp, Keeps.refl _ _, rfl⟩, ⟨by rfl, by rfl, by rfl, trivial⟩⟩ ?_
  rintro d E m2 ih ⟨i, oa, fo, hd, hi, hil, s2, hfo, k2, rfl⟩
  have i2 : (i : Int) ≤ 9223372036854775807 := by omega
  by_cases h1 : i < ls.length
  · have i1 : (i : Int) < ls.length := by omega
    by_cases h2 : i < 40
    · have i3 : (i : Int) < 40 := by omega
      have wi : IntKind.i64.wrap ((i : Int) + 1) = ((i + 1 : Nat) : Int) := by rw [wrap_i64 (by omega) (by omega)]; omega
      obtain ⟨lb, rfl, ol⟩ := hl.rdo (by omega)
      have ld := (ol.keep k2 (by simp)).load1 (int64s_at h1)
      have et : ls.take (i + 1) = ls.take i ++ [ls.getD i 0] := by rw [List.take_succ_eq_append_getElem h1, List.getD_eq_getElem?_getD, List.getElem?_eq_getElem h1]; rfl
      generalize ls.getD i 0 = x at *
      simp [-Int.natCast_add, -BitVec.toNat_or, -BitVec.toNat_ofInt, -BitVec.toNat_and, len_slice u29, index_slice u29 sz2, load_of ld2, buildSlice_of u29 bs2 rfl, append_s u29 sz2, h1, i1, i2, i3, ld]
      generalize hra : sappend _ _ _ _ _ _ = ra
      obtain ⟨m3, nb, nf2, rfl, oN, k3, hnf, _⟩ := app_slz hra u29 ap2 s2 (by omega) (by simp) (by simp [one_int]) (by omega) (by omega)
      have K3 : Keeps m m3 [] := keeps_app k2 k3 (by
        intro g hg
        split
        · simp
        · rename_i hn
          have := hfo hn
          simp; omega)
      simp [-Int.natCast_add, -BitVec.toNat_or, -BitVec.toNat_ofInt, -BitVec.toNat_and, len_slice u29, index_slice u29 sz2, load_of ld2, buildSlice_of u29 bs2 rfl, append_s u29 sz2, wi]
      refine ih _ _ _ _ ⟨i + 1, some ⟨nb, 0, none⟩, nf2, rfl, by omega, by omega, ?_, fun _ => ?_, K3, rfl⟩ (by omega) ⟨by rfl, by rfl, by rfl, trivial⟩
      · rw [et]
        exact Sl.of (by simpa [int64s] using oN) (by simp [int64s]; omega)
      · rcases hnf with ⟨h, h2⟩ | h
        · rw [h2]; exact hfo h
        · have := k2.1; omega
    · have i3 : ¬ (i : Int) < 40 := by omega
      have e40 : i = 40 := by omega
      simp [-Int.natCast_add, -BitVec.toNat_or, -BitVec.toNat_ofInt, -BitVec.toNat_and, len_slice u29, index_slice u29 sz2, load_of ld2, buildSlice_of u29 bs2 rfl, append_s u29 sz2, h1, i1, i2, i3]
      subst e40
      have el : (ls.take 40).length = 40 := by rw [List.length_take]; omega
      exact ⟨⟨oa, fo, by rw [el], by rw [el]; exact s2, hfo⟩, k2⟩
  · have i1 : ¬ (i : Int) < ls.length := by omega
    simp [-Int.natCast_add, -BitVec.toNat_or, -BitVec.toNat_ofInt, -BitVec.toNat_and, len_slice u29, index_slice u29 sz2, load_of ld2, buildSlice_of u29 bs2 rfl, append_s u29 sz2, h1, i1, i2]
    have ei : i = ls.length := by omega
    have et : ls.take 40 = ls := List.take_of_length_le (by omega)
    rw [ei, List.take_length] at s2
    exact ⟨⟨oa, fo, by rw [et, ei], by rw [et]; exact s2, hfo⟩, k2⟩
theorem ptrace_run (hN : Pw S) {b f hb hf wb wf nf : Nat} {ws : List Int} {room tk : Int} {ty li io : Value} {no : Option Addr} {lines : List (List UInt8)} (h : PWat m b f hb hf wb wf ws room ty li io tk no nf lines) (hl : lines.length ≤ 5000) :
    ∃ r m1, callw Tryd.prog TT S 13 [.pointer (some ⟨b, 0, none⟩)] m = some (r, m1) ∧ (∃ tb, r = .slice (some ⟨tb, 0, none⟩) lines.length lines.length ∧ ∃ tf, Own m1 tb (strC lines) 9 tf ∧ m.next ≤ tf) ∧ Keeps m m1 [] := by
  have o := h.own
  have l := o.load1 (off := 5) rfl
  obtain ⟨o0, k0, n0⟩ := new_own (m := m) (cs := []) (e := 9) rfl
  refine fn_w 3 [] k13 hN.trace rfl ?_
  have l' := (o.keep k0 (by simp)).load1 (off := 5) rfl
  have L0 := h.lines.keepz k0 (by simp)
  unfold strC
  rcases Nat.eq_zero_or_pos lines.length with h0 | h0
  · have e0 : lines = [] := List.length_eq_zero_iff.1 h0
    cases no
    all_goals
      simp [-Int.natCast_add, -BitVec.toNat_or, -BitVec.toNat_ofInt, -BitVec.toNat_and, buildSlice_of u28 bs9 rfl, fieldAddr_of fa74_5, load_of ld28, append_s u28 sz9, l, l', h0]
      generalize hra : sappend _ _ _ _ _ _ = ra
      obtain ⟨m2, tb, rfl, oT, k2⟩ := app_own hra u28 ap9 o0 (by simp) (by simp) (by simp) (by omega) (by omega)
      simp [-Int.natCast_add, -BitVec.toNat_or, -BitVec.toNat_ofInt, -BitVec.toNat_and, buildSlice_of u28 bs9 rfl, fieldAddr_of fa74_5, load_of ld28, append_s u28 sz9]
      exact ⟨⟨m.next, by rw [e0]; simpa using oT, Nat.le_refl _⟩, k0.fresh k2 (by simp)⟩
  · have h0' : ¬ lines.length = 0 := by omega
    obtain ⟨nb, rfl, on⟩ := L0.own h0'
    have ld := on.load (off := 0) lines.length (by simp)
    have wn : window (lines.map fun l => Value.string ⟨l.toArray⟩) 0 lines.length = lines.map fun l => Value.string ⟨l.toArray⟩ := by simp [window, ← List.map_take]
    rw [wn] at ld
    simp [-Int.natCast_add, -BitVec.toNat_or, -BitVec.toNat_ofInt, -BitVec.toNat_and, buildSlice_of u28 bs9 rfl, fieldAddr_of fa74_5, load_of ld28, append_s u28 sz9, l, l', h0', ld]
    generalize hra : sappend _ _ _ _ _ _ = ra
    obtain ⟨m2, tb, rfl, oT, k2⟩ := app_own hra u28 ap9 o0 (by simp) (by simp) (by simp [List.all_eq_true, one_str]) (by omega) (by omega)
    simp [-Int.natCast_add, -BitVec.toNat_or, -BitVec.toNat_ofInt, -BitVec.toNat_and, buildSlice_of u28 bs9 rfl, fieldAddr_of fa74_5, load_of ld28, append_s u28 sz9]
    exact ⟨⟨m.next, by simpa using oT, Nat.le_refl _⟩, k0.fresh k2 (by simp)⟩
set_option maxHeartbeats 4000000 in
theorem pcopy_run (hN : Pw S) {b f hb hf wb wf nf : Nat} {ws : List Int} {room tk : Int} {ty li io : Value} {no : Option Addr} {lines : List (List UInt8)} (h : PWat m b f hb hf wb wf ws room ty li io tk no nf lines) (hne : ws ≠ []) (hw : ws.length ≤ 1000000) (hl : lines.length ≤ 5000) (hty : one ty = true) (hli : one li = true) (hio : one io = true) :
    ∃ r m1, callw Tryd.prog TT S 35 [.pointer (some ⟨b, 0, none⟩)] m = some (r, m1) ∧ (∃ cb cf chb chf cwb cwf cno cnf, r = .pointer (some ⟨cb, 0, none⟩) ∧ PWat m1 cb cf chb chf cwb cwf ws room ty li io tk cno cnf lines ∧ m.next ≤ cf ∧ m.next ≤ chf ∧ m.next ≤ cwf ∧ (cno ≠ none → m.next ≤ cnf)) ∧ Keeps m m1 [] := by
  have o := h.own
  have ld := o.load (off := 0) 6 (by simp)
  simp [window] at ld
  have hpt : ∀ p, one (.pointer p) = true := fun _ => rfl
  obtain ⟨oc, kc, nc⟩ := new_own (m := m) (cs := [.slice none 0 0, .pointer none, .slice none 0 0, .slice none 0 0, .int .i64 0, .slice none 0 0]) (e := 74) rfl
  obtain ⟨m1, e1, o1, k1⟩ := store_own (r := _) rfl oc (off := 0) (vs := [ty, .pointer (some ⟨hb, 0, none⟩), li, io, .int .i64 tk, .slice no lines.length lines.length]) (by simp) (by simp [one_int, one_slice, hty, hli, hio, hpt])
  simp [over] at o1
  have K1 := kc.fresh k1 (by simp)
  have h1 := h.keep0 K1
  have l1 := h1.own.load1 (off := 1) rfl
  obtain ⟨_, m2, c2, hb2, hf2, wb2, wf2, rfl, H2, n1, n2, k2⟩ := copy_run hN.hcopy hN.words h1.heap hne hw
  have o2 := o1.keep k2 (by simp)
  have l2 := (h1.keep0 k2).own.load1 (off := 1) rfl
  obtain ⟨m3, e3, o3, k3⟩ := store_own (r := _) rfl o2 (off := 1) (vs := [.pointer (some ⟨hb2, 0, none⟩)]) (by simp) (by simp [one])
  simp [over] at o3
  have fl := o1.flt
  have K3 : Keeps m m3 [] := ((K1.trans k2).fresh k3 (by simp))
  have H3 := H2.keep k3 (by simp; omega) (by simp; omega)
  obtain ⟨_, m4, c4, ⟨tb, rfl, tf, oT, htf⟩, k4⟩ := ptrace_run hN (h.keep0 K3) hl
  have o4 := o3.keep k4 (by simp)
  have H4 := H3.keep k4 (by simp) (by simp)
  obtain ⟨m5, e5, o5, k5⟩ := store_own (r := _) rfl o4 (off := 5) (vs := [.slice (some ⟨tb, 0, none⟩) lines.length lines.length]) (by simp) (by simp [one_slice])
  simp [over] at o5
  have fl3 := o3.flt
  refine fn_w 4 [] k35 hN.copy rfl ?_
  simp [-Int.natCast_add, -BitVec.toNat_or, -BitVec.toNat_ofInt, -BitVec.toNat_and, load_agg ld74, alloc_of zo74, store_of sz74, fieldAddr_of fa74_1, load_of ld44, store_of sz44, fieldAddr_of fa74_5, store_of sz28, ld, e1, l1, c2, l2, e3, c4, e5]
  have k1n : m.next ≤ m1.next := K1.1
  have k3n : m.next ≤ m3.next := K3.1
  have f2 := H2.h.flt
  have f3 := H2.w.flt
  have m23 := k3.1
  exact ⟨⟨m.next, hb2, hf2, wb2, wf2, some ⟨tb, 0, none⟩, tf, ⟨o5, H4.keep k5 (by simp; omega) (by simp; omega), Sl.of (oT.keep k5 (by simp; omega)) (by simp [strC]), by omega, by omega, fun _ => by omega⟩, Nat.le_refl _, by omega, by omega, fun _ => by omega⟩, (K3.trans k4).fresh k5 (by simp)⟩
end Go.Proofs.YtggbgelfgfmikaaDoor.base

