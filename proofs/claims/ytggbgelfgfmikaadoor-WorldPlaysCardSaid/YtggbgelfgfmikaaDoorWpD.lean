/-
  This text proves what the document's NewWorld answers over the abstract run, of any texts, inputs and room; the hand's Inputs, the program's Trace and Copy, the law's words and strs.
  Condition: nothing is known of the calls ahead ('S f = []').
-/
import Derived.Test.YtggbgelfgfmikaaDoorWpC
set_option maxRecDepth 100000
set_option linter.unusedSimpArgs false
set_option linter.unusedVariables false
namespace Go.Proofs.YtggbgelfgfmikaaDoor.base
open Go.Sh gen
variable {S : Sums} {m : Mem}
theorem room_run (hN : Rw S) {n : Int} (h : 1 ≤ n ∧ n ≤ 65536) : callw Tryd.prog TT S 50 [.int .i64 n] m = some (.int .i64 n, m) := by
  have h1 : ¬ n < 1 := by omega
  have h2 : ¬ 65536 < n := by omega
  refine fn_eq 3 [] k50 hN.room rfl ?_
  simp [-BitVec.toNat_or, -BitVec.toNat_ofInt, -BitVec.toNat_and, id, h1, h2]
  try omega
def RNew (m m1 : Mem) (room : Int) (ts : List (List UInt8)) (ins : List Int) (tb : Nat) (to jo0 : Option Addr) (v : Value) : Prop :=
  ¬ allT room ts ∧ v = .pointer none ∨ allT room ts ∧ ∃ yb hb wb wb' lo lf, v = .pointer (some ⟨yb, 0, none⟩) ∧ RWat m1 yb yb hb hb wb' wb (stT room ts).1 room (.slice (some ⟨tb, 0, none⟩) 7 7) (.slice none 0 0) (.int .i64 0) (.slice to ts.length ts.length) (.slice none 0 0) (.slice lo ts.length ts.length) (.slice jo0 ins.length ins.length) 0 none 0 [] ∧ Rs m1 lo ts.length (words (stT room ts).2) 22 1 lf ∧ m.next ≤ yb ∧ m.next ≤ hb ∧ m.next ≤ wb ∧ (lo ≠ none → m.next ≤ lf ∧ lf ≠ yb ∧ lf ≠ hb ∧ lf ≠ wb)
set_option maxHeartbeats 4000000 in
theorem rnew_run (hN : Rw S) {tb to_f : Nat} {to jo0 : Option Addr} {ts : List (List UInt8)} {ins : List Int} {room : Int} (hX : Rs m to ts.length (strC ts) 9 1 to_f) (hr : 1 ≤ room ∧ room ≤ 65536) (hts : ts.length ≤ 30) :
    ∃ v m1, callw Tryd.prog TT S 27 [.agg #[.slice (some ⟨tb, 0, none⟩) 7 7, .slice none 0 0, .int .i64 0, .slice to ts.length ts.length, .slice none 0 0], .int .i64 room, .slice jo0 ins.length ins.length] m = some (v, m1) ∧ RNew m m1 room ts ins tb to jo0 v ∧ Keeps m m1 [] := by
  obtain ⟨o0, k0, n0⟩ := new_own (m := m) (cs := [.slice (some ⟨tb, 0, none⟩) 7 7, .slice none 0 0, .int .i64 0, .slice to ts.length ts.length, .slice none 0 0]) (e := 31) rfl
  obtain ⟨pb, hpb⟩ : ∃ pb, m.next = pb := ⟨_, rfl⟩
  rw [hpb] at o0 n0
  obtain ⟨m0, hm0⟩ : ∃ m0, m.new [.slice (some ⟨tb, 0, none⟩) 7 7, .slice none 0 0, .int .i64 0, .slice to ts.length ts.length, .slice none 0 0] 31 = m0 := ⟨_, rfl⟩
  rw [hm0] at o0 k0 n0
  have ld0 := o0.load (off := 0) 5 (by simp)
  have crm := fun m' => room_run (m := m') hN hr
  obtain ⟨_, m1, hc, hb, wb, rfl, hA, hhb, hwb, k1⟩ := newR_run (m := m0) hN.hnew room
  have o1 := o0.keep k1 (by simp)
  have ld1' := o1.load (off := 0) 5 (by simp)
  obtain ⟨ow, kw, nw⟩ := new_own (m := m1) (cs := [.slice (some ⟨tb, 0, none⟩) 7 7, .slice none 0 0, .int .i64 0, .slice to ts.length ts.length, .slice none 0 0, .pointer (some ⟨hb, 0, none⟩), .slice none 0 0, .slice jo0 ins.length ins.length, .int .i64 0, .slice none 0 0]) (e := 61) rfl
  obtain ⟨yb, hyb⟩ : ∃ yb, m1.next = yb := ⟨_, rfl⟩
  refine fn_w 11 [22, 39] k27 hN.new rfl ?_
  simp [-Int.natCast_add, -BitVec.toNat_or, -BitVec.toNat_ofInt, -BitVec.toNat_and, box_of b31, load_agg ld31, build_of bo61, box_of b61, fieldAddr_of fa31_3, load_of ld28, len_slice u28, fieldAddr_of fa61_1, load_of ld59, index_slice u28 sz9, load_of ld9, fieldAddr_of fa61_2, load_of ld56, buildSlice_of u56 bs22 rfl, append_s u56 sz22, store_of sz56, hpb, hm0, hc, crm, ld0, ld1', hyb]
  obtain ⟨m3, hm3⟩ : ∃ m3, m1.new [.slice (some ⟨tb, 0, none⟩) 7 7, .slice none 0 0, .int .i64 0, .slice to ts.length ts.length, .slice none 0 0, .pointer (some ⟨hb, 0, none⟩), .slice none 0 0, .slice jo0 ins.length ins.length, .int .i64 0, .slice none 0 0] 61 = m3 := ⟨_, rfl⟩
  rw [hm3] at ow kw nw ⊢
  rw [hyb] at ow nw
  have hm1 : m0.next ≤ m1.next := k1.1
  have kk3 : Keeps m m3 [] := (k0.trans k1).trans kw
  have oP3 := o1.keep kw (by simp)
  have hA3 := hA.keep kw (by simp) (by simp)
  have hjn : hb < m1.next ∧ wb < m1.next := ⟨hA.h.flt, hA.w.flt⟩
  have hne := hA.ne
  refine wsem_loop 11 [22, 39] (fun d E mD => ∃ (j : Nat) (wb' : Nat) (lo : Option Addr) (lf : Nat), ts.length - j = d ∧ j ≤ ts.length ∧ Own mD yb [.slice (some ⟨tb, 0, none⟩) 7 7, .slice none 0 0, .int .i64 0, .slice to ts.length ts.length, .slice none 0 0, .pointer (some ⟨hb, 0, none⟩), .slice lo j j, .slice jo0 ins.length ins.length, .int .i64 0, .slice none 0 0] 61 yb ∧ RefAt mD hb hb wb' wb (stT room (ts.take j)).1 room ∧ Sl mD lo j (words (stT room (ts.take j)).2) 22 1 lf ∧ (∀ (q : Nat) (hq : q < ts.length), q < j → textB (stT room (ts.take q)).1 room ts[q] = true) ∧ (lo ≠ none → m3.next ≤ lf) ∧ Keeps m3 mD [yb, hb, wb] ∧
    E = [(3, .pointer (some ⟨pb, 0, none⟩)), (7, .pointer (some ⟨yb, 0, none⟩)), (8, .int .i64 j)]) _ ⟨_, ⟨0, wb, none, 0, rfl, by omega, ow, hA3, Sl.nil _ _ _ _, fun q _ hq => by omega, fun h => absurd rfl h, Keeps.refl _ _, rfl⟩, ⟨by rfl, by rfl, by rfl, trivial⟩⟩ ?_
  rintro d E mD ih ⟨j, wb', lo, lf, hd2, hj, oD, hD, sL, hall, hlf, kD, rfl⟩
  have oPD := oP3.keep kD (by simp; omega)
  have lp3 := oPD.load1 (off := 3) rfl
  by_cases hlt : j < ts.length
  · have j1 : (j : Int) < ts.length := by omega
    have jm : (j : Int) ≤ 9223372036854775807 := by omega
    have wj : IntKind.i64.wrap ((j : Int) + 1) = ((j + 1 : Nat) : Int) := by rw [wrap_i64 (by omega) (by omega)]; omega
    obtain ⟨tob, rfl, hXb⟩ := hX.rdo (by omega)
    have hXD := (hXb.keep kk3 (by simp)).keep kD (by have := hXb.flt; simp; omega)
    have ldx : loadRow mD ⟨tob, j, none⟩ 1 = some [.string ⟨(ts[j]).toArray⟩] := by
      rw [hXD.load (off := j) 1 (by simp [strC]; omega)]
      simp only [window, strC, ← List.map_drop, ← List.map_take]
      rw [List.drop_eq_getElem_cons hlt]
      rfl
    have hG := stT_good hr (ts.take j)
    have hGl := hG.le
    obtain ⟨_, m5, hct, rfl, ⟨wb5, h5⟩, k5⟩ := textR_any (l := ts[j]) hN.text hN.alloc hN.put hN.set hN.len hN.word hD (by omega) (by omega) hG.wd hG.zero hG.pos
    have o5 := oD.keep k5 (by simp; omega)
    have lh := oD.load1 (off := 5) rfl
    have lh5 := o5.load1 (off := 5) rfl
    have lp5 := (oPD.keep k5 (by simp; omega)).load1 (off := 3) rfl
    have lx5 : loadRow m5 ⟨tob, j, none⟩ 1 = some [.string ⟨(ts[j]).toArray⟩] := by
      rw [(hXD.keep k5 (by have := hXb.flt; simp; omega)).load (off := j) 1 (by simp [strC]; omega)]
      simp only [window, strC, ← List.map_drop, ← List.map_take]
      rw [List.drop_eq_getElem_cons hlt]
      rfl
    have lx2 := o5.load1 (off := 6) rfl
    have er : (stT room (ts.take (j + 1))).2 = (stT room (ts.take j)).2 ++ [textV (stT room (ts.take j)).1 room ts[j]] := by
      rw [List.take_succ_eq_append_getElem hlt, stT_snoc]
    have ef : (stT room (ts.take (j + 1))).1 = textW (stT room (ts.take j)).1 room ts[j] := by
      rw [List.take_succ_eq_append_getElem hlt, stT_snoc]
    have el : (stT room (ts.take (j + 1))).2.length = j + 1 := by rw [stT_len, List.length_take]; omega
    by_cases hB : textB (stT room (ts.take j)).1 room ts[j] = true
    case' neg =>
      have hB' : textB (stT room (ts.take j)).1 room ts[j] = false := by simpa using hB
      rw [hB'] at hct
      simp [-Int.natCast_add, -BitVec.toNat_or, -BitVec.toNat_ofInt, -BitVec.toNat_and, box_of b31, load_agg ld31, build_of bo61, box_of b61, fieldAddr_of fa31_3, load_of ld28, len_slice u28, fieldAddr_of fa61_1, load_of ld59, index_slice u28 sz9, load_of ld9, fieldAddr_of fa61_2, load_of ld56, buildSlice_of u56 bs22 rfl, append_s u56 sz22, store_of sz56, j1, jm, hlt, lp3, ldx, lh, hct, lh5, lp5, lx5]
      exact ⟨Or.inl ⟨fun h => hB (h j hlt), rfl⟩, kk3.fresh (kD.trans (k5.mono (by simp))) (by simp; omega)⟩
    rw [hB] at hct
    obtain ⟨rf, hrf⟩ : ∃ rf : Int, textV (stT room (ts.take j)).1 room ts[j] = rf := ⟨_, rfl⟩
    rw [hrf] at hct er
    simp [-Int.natCast_add, -BitVec.toNat_or, -BitVec.toNat_ofInt, -BitVec.toNat_and, box_of b31, load_agg ld31, build_of bo61, box_of b61, fieldAddr_of fa31_3, load_of ld28, len_slice u28, fieldAddr_of fa61_1, load_of ld59, index_slice u28 sz9, load_of ld9, fieldAddr_of fa61_2, load_of ld56, buildSlice_of u56 bs22 rfl, append_s u56 sz22, store_of sz56, j1, jm, hlt, lp3, ldx, lh, hct, lh5, lp5, lx5, lx2]
    generalize hra : sappend _ _ _ _ _ _ = ra
    obtain ⟨m6, lb2, lf2, rfl, oL6, k6, hlf2, _⟩ := app_slz hra u56 ap22 (sL.keepz k5 (fun h => by have := hlf h; simp; omega)) (by omega) (by simp) (by simp [one_int]) (by omega) (by omega)
    have c5 := k5.1
    have d1 := kD.1
    have knew : ∀ f : Nat, f < m3.next → f ∉ (if lo = none then [] else [lf]) := by
      intro f hf
      split
      · simp
      · rename_i hn
        have := hlf hn
        simp; omega
    have x3 : yb < m3.next ∧ hb < m3.next ∧ wb < m3.next := by omega
    have o6 := o5.keep k6 (knew yb x3.1)
    have h6 := h5.keep k6 (knew hb x3.2.1) (knew wb x3.2.2)
    simp [-Int.natCast_add, -BitVec.toNat_or, -BitVec.toNat_ofInt, -BitVec.toNat_and, box_of b31, load_agg ld31, build_of bo61, box_of b61, fieldAddr_of fa31_3, load_of ld28, len_slice u28, fieldAddr_of fa61_1, load_of ld59, index_slice u28 sz9, load_of ld9, fieldAddr_of fa61_2, load_of ld56, buildSlice_of u56 bs22 rfl, append_s u56 sz22, store_of sz56]
    generalize hrc : storeRow _ _ _ = rc
    obtain ⟨m7, rfl, o7, k7⟩ := store_own hrc o6 (by simp) (by simp [one_slice])
    simp [over] at o7
    have lf2' : m3.next ≤ lf2 := by
      rcases hlf2 with ⟨h, h2⟩ | h
      · rw [h2]; exact hlf h
      · omega
    simp [-Int.natCast_add, -BitVec.toNat_or, -BitVec.toNat_ofInt, -BitVec.toNat_and, box_of b31, load_agg ld31, build_of bo61, box_of b61, fieldAddr_of fa31_3, load_of ld28, len_slice u28, fieldAddr_of fa61_1, load_of ld59, index_slice u28 sz9, load_of ld9, fieldAddr_of fa61_2, load_of ld56, buildSlice_of u56 bs22 rfl, append_s u56 sz22, store_of sz56, wj]
    have K7 : Keeps m3 m7 [yb, hb, wb] := (keeps_app (kD.trans (k5.mono (by simp))) k6 knew).trans (k7.mono (by simp))
    refine ih _ _ _ _ ⟨j + 1, wb5, some ⟨lb2, 0, none⟩, lf2, rfl, by omega, o7, by rw [ef]; exact h6.keep k7 (by simp; omega) (by simp; omega), by rw [er]; exact Sl.of (by simpa [words] using oL6.keep k7 (by simp; omega)) (by rw [words_len', ← er, el]; omega), (fun q hq hqj => by
        by_cases h : q < j
        · exact hall q hq h
        · have hqi : q = j := by omega
          subst hqi
          exact hB), fun _ => lf2', K7, rfl⟩ (by omega) ⟨by rfl, by rfl, by simp [lget], trivial⟩
  · have j1 : ¬ (j : Int) < ts.length := by omega
    have ej : j = ts.length := by omega
    simp [-Int.natCast_add, -BitVec.toNat_or, -BitVec.toNat_ofInt, -BitVec.toNat_and, box_of b31, load_agg ld31, build_of bo61, box_of b61, fieldAddr_of fa31_3, load_of ld28, len_slice u28, fieldAddr_of fa61_1, load_of ld59, index_slice u28 sz9, load_of ld9, fieldAddr_of fa61_2, load_of ld56, buildSlice_of u56 bs22 rfl, append_s u56 sz22, store_of sz56, j1, lp3, hlt]
    subst ej
    rw [List.take_length] at hD sL
    have hAll : allT room ts := fun q hq => hall q hq hq
    have hLf : lo ≠ none → m.next ≤ lf ∧ lf ≠ yb ∧ lf ≠ hb ∧ lf ≠ wb := fun h => by have := hlf h; have := kk3.1; omega
    refine ⟨Or.inr ⟨hAll, yb, hb, wb, wb', lo, lf, rfl, ⟨oD, hD, Sl.nil _ _ _ _, by omega, by omega, fun h => absurd rfl h⟩, sL.rs, by omega, by omega, by omega, hLf⟩, ?_⟩
    exact kk3.fresh kD (by simp; omega)
end Go.Proofs.YtggbgelfgfmikaaDoor.base

