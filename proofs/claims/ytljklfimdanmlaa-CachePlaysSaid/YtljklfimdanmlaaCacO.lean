/-
  This text proves what the document's cache does, over the abstract run: Invalidate.
  Condition: nothing is known of the calls ahead ('S f = []').
-/
import Derived.Test.YtljklfimdanmlaaCacN
set_option maxRecDepth 100000
set_option linter.unusedSimpArgs false
set_option linter.unusedVariables false
namespace Go.Proofs.Ytljklfimdanmlaa.base
open Go.Sh gen
variable {S : Sums} {m : Mem} {R : Nat → Prop} {rb room r0 lf : Nat} {la : Option Addr} {L : List Rx}
/-- does it hang on a function? -/
def hitr (f : Int) (x : Rx) : Bool := decide (x.f = f) || isIn f x.needs
theorem isIn_take {f : Int} {l : List Int} {j : Nat} (h : j < l.length) : isIn f (l.take (j + 1)) = (isIn f (l.take j) || decide (l[j] = f)) := by
  rw [List.take_succ_eq_append_getElem h]; simp only [isIn, List.any_append, List.any_cons, List.any_nil, Bool.or_false]
theorem RA.reQ {R' : Nat → Prop} (h : RA R m rb room L r0 la lf) (h0 : R' r0) (hl : la ≠ none → R' lf) (hn : ∀ x ∈ L, x.needs ≠ [] → R' x.nf) : RA R' m rb room L r0 la lf :=
  ⟨h.own, h.sl, h.ne, h.nd, h.nn, h0, hl, hn, h.len, h.sz⟩
set_option maxHeartbeats 4000000 in
theorem rinv_run (hN : Nr S) (h : RA R m rb room L r0 la lf) (hR : ∀ f, R f → f < m.next) (f : Int) :
    ∃ v m1, callw Try.prog TT S 21 [.pointer (some ⟨rb, 0, none⟩), .int .i64 f] m = some (v, m1) ∧ KysR m m1 v (kyr (L.filter (hitr f))) ∧ RAt (Qn R m m1) m1 rb room (L.filter fun x => !hitr f x) ∧ KQ R m m1 := by
  have l9 := h.len
  have r0n := h.own.flt
  refine fn_w 9 [15, 37, 56] k21 hN.inv rfl ?_
  simp [-Int.natCast_add, -BitVec.toNat_or, -BitVec.toNat_ofInt, -BitVec.toNat_and, fieldAddr_of fa56_1, load_of ld54, len_slice u54, index_slice u54 sz41, fieldAddr_of fa41_0, fieldAddr_of fa39_0, load_of ld3, fieldAddr_of fa41_1, load_of ld29, len_slice u29, index_slice u29 sz3, load_agg ld41, buildSlice_of u32 bs50 rfl, append_s u32 sz50]
  refine wsem_loop 9 [15, 37, 56] (fun d E mF => ∃ (P rest g : List Rx) (i : Nat) (la' : Option Addr) (lf' : Nat) (ka : Option Addr) (kf : Nat), rest.length = d ∧ L = P ++ rest ∧ g = P.filter (hitr f) ∧ i = (P.filter fun x => !hitr f x).length ∧ RA (fun q => R q ∨ q = lf') mF rb room ((P.filter fun x => !hitr f x) ++ rest) r0 la' lf' ∧ (la' ≠ none → R lf' ∨ m.next ≤ lf') ∧ Keeps m mF [r0] ∧
    Sl mF ka g.length (mvc (kyr g)) 50 2 kf ∧ (ka ≠ none → m.next ≤ kf ∧ (la' ≠ none → kf ≠ lf')) ∧
    E = [(0, .pointer (some ⟨rb, 0, none⟩)), (1, .int .i64 f), (5, .slice ka g.length g.length), (6, .int .i64 (i : Int))]) _ ⟨_, ⟨[], L, [], 0, la, lf, none, 0, rfl, rfl, by simp, by simp, by simpa using h.tight h.q0 h.qn, fun ha => Or.inl (h.ql ha), .refl _ _, Sl.nil _ _ _ _, by simp, rfl⟩, ⟨by rfl, by rfl, by rfl, by rfl, trivial⟩⟩ ?_
  rintro d E mF ih ⟨P, rest, g, i, la', lf', ka, kf, hd, hL, hg, hi, hC, hlf, kF, sF, hkf, rfl⟩
  have ld := hC.own.load1 (off := 1) rfl
  obtain ⟨C, hCe⟩ : ∃ C, (P.filter fun x => !hitr f x) ++ rest = C := ⟨_, rfl⟩
  have lC : C.length = i + rest.length := by rw [← hCe, List.length_append, hi]
  rw [hCe] at hC ld
  have l9C := hC.len
  have gl : g.length + rest.length ≤ 9 := by
    have := congrArg List.length hL
    rw [List.length_append] at this
    have : g.length ≤ P.length := by rw [hg]; exact List.length_filter_le _ _
    omega
  have im : (i : Int) ≤ 9223372036854775807 := by omega
  have xL : ∀ z ∈ C, z ∈ L := fun z hz => by
    rw [← hCe] at hz
    rw [hL]
    rcases List.mem_append.1 hz with hz | hz
    · exact List.mem_append_left _ (List.filter_sublist.subset hz)
    · exact List.mem_append_right _ hz
  cases hrest : rest with
  | nil =>
    subst hrest
    have e1 : ¬ i < C.length := by simp at lC; omega
    have e2 : ¬ (i : Int) < C.length := by omega
    rw [List.append_nil] at hL hCe
    simp [-Int.natCast_add, -BitVec.toNat_or, -BitVec.toNat_ofInt, -BitVec.toNat_and, fieldAddr_of fa56_1, load_of ld54, len_slice u54, index_slice u54 sz41, fieldAddr_of fa41_0, fieldAddr_of fa39_0, load_of ld3, fieldAddr_of fa41_1, load_of ld29, len_slice u29, index_slice u29 sz3, load_agg ld41, buildSlice_of u32 bs50 rfl, append_s u32 sz50, ld, e1, e2]
    rw [hL, ← hg, hCe]
    exact ⟨⟨ka, kf, by rw [kyr_len], by rw [kyr_len]; exact sF, fun hka => (hkf hka).1⟩, ⟨_, _, _, hC.reQ (Or.inl h.q0) (fun ha => (hlf ha).imp id (fun h => ⟨h, hC.sl.sr.flt ha⟩)) (fun z hz hzz => Or.inl (h.qn z (xL z hz) hzz))⟩, [r0], kF, by simp; exact Or.inl h.q0⟩
  | cons x r =>
    have hiC : i < C.length := by rw [lC, hrest]; simp
    have hiC' : (i : Int) < C.length := by omega
    have hCi : C[i] = x := by
      have : C[i]? = some x := by rw [← hCe, List.getElem?_append_right (by omega), ← hi, hrest]; simp
      rw [List.getElem?_eq_getElem hiC] at this
      exact Option.some.inj this
    obtain ⟨b, hb, ob⟩ := hC.sl.own (by omega)
    have g0 := ob.load1 (off := i * 7) (v := .int .i64 x.f) ((rrows_at hiC (j := 0) (by omega)).trans (by rw [hCi]; rfl))
    have g5 := ob.load1 (off := i * 7 + 5) (v := .slice x.na x.needs.length x.needs.length) ((rrows_at hiC (j := 5) (by omega)).trans (by rw [hCi]; rfl))
    have xC : x ∈ C := by rw [← hCi]; exact List.getElem_mem hiC
    have nx := hC.nd x xC
    have hz := (hC.sz x xC).2
    simp [-Int.natCast_add, -w21_9, -BitVec.toNat_or, -BitVec.toNat_ofInt, -BitVec.toNat_and, fieldAddr_of fa56_1, load_of ld54, len_slice u54, index_slice u54 sz41, fieldAddr_of fa41_0, fieldAddr_of fa39_0, load_of ld3, fieldAddr_of fa41_1, load_of ld29, len_slice u29, index_slice u29 sz3, load_agg ld41, buildSlice_of u32 bs50 rfl, append_s u32 sz50, ld, hb, hiC, hiC', im, g0]
    refine wsem_loop 9 [15, 37, 56] (fun d E mG => ∃ (j : Nat), x.needs.length - j = d ∧ j ≤ x.needs.length ∧ mG = mF ∧
      E = [(0, .pointer (some ⟨rb, 0, none⟩)), (1, .int .i64 f), (5, .slice ka g.length g.length), (6, .int .i64 (i : Int)), (7, .bool (decide (x.f = f) || isIn f (x.needs.take j))), (8, .int .i64 (j : Int))]) _ ⟨_, ⟨0, rfl, by omega, rfl, rfl⟩, ⟨by rfl, by rfl, by rfl, by rfl, by simp [lget, isIn], by rfl, trivial⟩⟩ ?_
    rintro d2 E2 mG ih2 ⟨j, hd2, hj, hmG, rfl⟩
    rw [hmG]
    have jm : (j : Int) ≤ 9223372036854775807 := by omega
    by_cases hjl : j < x.needs.length
    · have hjl' : (j : Int) < x.needs.length := by omega
      have wj : IntKind.i64.wrap ((j : Int) + 1) = ((j + 1 : Nat) : Int) := by rw [wrap_i64 (by omega) (by omega)]; omega
      obtain ⟨nb, hnb, on⟩ := nx.rdo (by omega)
      have gn := on.load1 (off := j) (v := .int .i64 x.needs[j]) (by simp [hjl])
      have et := isIn_take (f := f) hjl
      obtain ⟨q, hq⟩ : ∃ q, x.needs[j] = q := ⟨_, rfl⟩
      rw [hq] at gn et
      obtain ⟨B, hB⟩ : ∃ B, (decide (x.f = f) || isIn f (x.needs.take j)) = B := ⟨_, rfl⟩
      rw [hB]
      have eB : (decide (x.f = f) || isIn f (x.needs.take (j + 1))) = (B || decide (q = f)) := by rw [et, ← Bool.or_assoc, hB]
      cases B with
      | true =>
        simp [-Int.natCast_add, -w21_9, -BitVec.toNat_or, -BitVec.toNat_ofInt, -BitVec.toNat_and, fieldAddr_of fa56_1, load_of ld54, len_slice u54, index_slice u54 sz41, fieldAddr_of fa41_0, fieldAddr_of fa39_0, load_of ld3, fieldAddr_of fa41_1, load_of ld29, len_slice u29, index_slice u29 sz3, load_agg ld41, buildSlice_of u32 bs50 rfl, append_s u32 sz50, ld, hb, hiC, hiC', im, g5, hjl, hjl', wj]
        exact ih2 _ [(0, .pointer (some ⟨rb, 0, none⟩)), (1, .int .i64 f), (5, .slice ka g.length g.length), (6, .int .i64 (i : Int)), (7, .bool true), (8, .int .i64 ((j + 1 : Nat) : Int))] _ _ ⟨j + 1, rfl, by omega, rfl, by rw [eB]; rfl⟩ (by omega) ⟨by rfl, by rfl, by rfl, by rfl, by rfl, by rfl, trivial⟩
      | false =>
        simp [-Int.natCast_add, -w21_9, -BitVec.toNat_or, -BitVec.toNat_ofInt, -BitVec.toNat_and, fieldAddr_of fa56_1, load_of ld54, len_slice u54, index_slice u54 sz41, fieldAddr_of fa41_0, fieldAddr_of fa39_0, load_of ld3, fieldAddr_of fa41_1, load_of ld29, len_slice u29, index_slice u29 sz3, load_agg ld41, buildSlice_of u32 bs50 rfl, append_s u32 sz50, ld, hb, hiC, hiC', im, g5, hjl, hjl', wj, hnb, gn, jm]
        exact ih2 _ [(0, .pointer (some ⟨rb, 0, none⟩)), (1, .int .i64 f), (5, .slice ka g.length g.length), (6, .int .i64 (i : Int)), (7, .bool (decide (q = f))), (8, .int .i64 ((j + 1 : Nat) : Int))] _ _ ⟨j + 1, rfl, by omega, rfl, by rw [eB]; simp⟩ (by omega) ⟨by rfl, by rfl, by rfl, by rfl, by rfl, by rfl, trivial⟩
    · have hjl' : ¬ (j : Int) < x.needs.length := by omega
      have ej : j = x.needs.length := by omega
      clear ih2
      rw [ej, List.take_length]
      rw [← ej]
      have eh : (decide (x.f = f) || isIn f x.needs) = hitr f x := rfl
      rw [eh]
      have gx := ob.load (off := i * 7) 7 (by rw [rrows_len]; omega)
      rw [rrows_win hiC, hCi] at gx
      have wi : IntKind.i64.wrap ((i : Int) + 1) = ((i + 1 : Nat) : Int) := by rw [wrap_i64 (by omega) (by omega)]; omega
      have hrl : rest.length = r.length + 1 := by rw [hrest]; rfl
      cases hh : hitr f x with
      | true =>
        obtain ⟨m2, c2, k2⟩ := rkey_run (m := mF) hN x
        simp [-Int.natCast_add, -BitVec.toNat_or, -BitVec.toNat_ofInt, -BitVec.toNat_and, fieldAddr_of fa56_1, load_of ld54, len_slice u54, index_slice u54 sz41, fieldAddr_of fa41_0, fieldAddr_of fa39_0, load_of ld3, fieldAddr_of fa41_1, load_of ld29, len_slice u29, index_slice u29 sz3, load_agg ld41, buildSlice_of u32 bs50 rfl, append_s u32 sz50, ld, hb, hiC, hiC', im, g5, hjl, hjl', gx, c2]
        generalize hra : sappend _ _ _ _ _ _ = ra
        obtain ⟨m3, nb, nf, rfl, o3, k3, hf3, _, _⟩ := app_slz hra u32 ap50 (sF.keep k2 (by simp)) (by omega) (by simp) (by simp [one_int]) (by omega) (by omega)
        have k2n := k2.1
        have kFn := kF.1
        have kb : ∀ q ∈ (if ka = none then [] else [kf]), m.next ≤ q ∧ (la' ≠ none → q ≠ lf') := by
          intro q hq
          split at hq
          · simp at hq
          · rename_i hn
            simp at hq; rw [hq]; exact hkf hn
        have la'n : la' ≠ none := by rw [hb]; simp
        have hC3 := (hC.keep0 k2).keep k3 (fun q hq => by
          have := kb q hq
          rintro (h | h)
          · have := hR _ h; omega
          · exact this.2 la'n h)
        obtain ⟨v4, m4, c4, ⟨la4, lf4, hC4, hlf4⟩, k4⟩ := rdrop_run hN hC3 hiC
        have er : C.eraseIdx i = ((P ++ [x]).filter fun x => !hitr f x) ++ r := by
          rw [← hCe, hrest, hi, List.eraseIdx_append_of_length_le (Nat.le_refl _), Nat.sub_self]
          simp [List.filter_append, hh]
        rw [er] at hC4
        have rL : ∀ z ∈ ((P ++ [x]).filter fun x => !hitr f x) ++ r, z ∈ L := fun z hz => xL z ((List.eraseIdx_sublist C i).subset (er ▸ hz))
        have k3n := k3.1
        have o3n := o3.flt
        simp [-Int.natCast_add, -BitVec.toNat_or, -BitVec.toNat_ofInt, -BitVec.toNat_and, fieldAddr_of fa56_1, load_of ld54, len_slice u54, index_slice u54 sz41, fieldAddr_of fa41_0, fieldAddr_of fa39_0, load_of ld3, fieldAddr_of fa41_1, load_of ld29, len_slice u29, index_slice u29 sz3, load_agg ld41, buildSlice_of u32 bs50 rfl, append_s u32 sz50, c4]
        refine ih _ [(0, .pointer (some ⟨rb, 0, none⟩)), (1, .int .i64 f), (5, .slice (some ⟨nb, 0, none⟩) (g.length + 1) (g.length + 1)), (6, .int .i64 (i : Int))] _ _ ⟨P ++ [x], r, g ++ [x], i, la4, lf4, some ⟨nb, 0, none⟩, nf, rfl, by rw [hL, hrest]; simp, by rw [List.filter_append, ← hg]; simp [hh], by rw [List.filter_append, List.length_append, ← hi]; simp [hh], hC4.tight (R := R) h.q0 (fun z hz hzz => h.qn z (rL z hz) hzz), fun _ => Or.inr (by omega), ?_, ?_, fun _ => ⟨?_, fun _ => by omega⟩, by simp⟩ (by omega) ⟨by rfl, by rfl, by rfl, by rfl, trivial⟩
        · exact (kmix (kF.trans k2.nil) k3 (fun q hq => Or.inl (kb q hq).1)).trans k4
        · have s5 : Sl m3 (some ⟨nb, 0, none⟩) (g ++ [x]).length (mvc (kyr (g ++ [x]))) 50 2 nf := Sl.of (by rw [show kyr (g ++ [x]) = kyr g ++ [(x.f, x.pc)] by simp [kyr]]; simpa [mvc] using o3) (by rw [mvc_len]; simp [kyr])
          refine s5.keep k4 ?_
          simp
          rcases hf3 with ⟨h, h'⟩ | h
          · have := (hkf h).1; omega
          · omega
        · rcases hf3 with ⟨h, h'⟩ | h
          · rw [h']; exact (hkf h).1
          · omega
      | false =>
        simp [-Int.natCast_add, -BitVec.toNat_or, -BitVec.toNat_ofInt, -BitVec.toNat_and, fieldAddr_of fa56_1, load_of ld54, len_slice u54, index_slice u54 sz41, fieldAddr_of fa41_0, fieldAddr_of fa39_0, load_of ld3, fieldAddr_of fa41_1, load_of ld29, len_slice u29, index_slice u29 sz3, load_agg ld41, buildSlice_of u32 bs50 rfl, append_s u32 sz50, ld, hb, hiC, hiC', im, g5, hjl, hjl', gx, wi]
        have e1 : ((P ++ [x]).filter fun x => !hitr f x) ++ r = C := by rw [List.filter_append, ← hCe, hrest]; simp [hh]
        exact ih _ _ _ _ ⟨P ++ [x], r, g, i + 1, la', lf', ka, kf, rfl, by rw [hL, hrest]; simp, by rw [List.filter_append, ← hg]; simp [hh], by rw [List.filter_append, List.length_append, ← hi]; simp [hh], by rw [e1]; exact hC, hlf, kF, sF, hkf, rfl⟩ (by omega) ⟨by rfl, by rfl, by rfl, by rfl, trivial⟩
end Go.Proofs.Ytljklfimdanmlaa.base

