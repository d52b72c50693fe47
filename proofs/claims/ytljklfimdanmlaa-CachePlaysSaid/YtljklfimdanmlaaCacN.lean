/-
  This text proves what the document's cache does, over the abstract run: Put.
  Condition: nothing is known of the calls ahead ('S f = []').
-/
import Derived.Test.YtljklfimdanmlaaCacM
set_option maxRecDepth 100000
set_option linter.unusedSimpArgs false
set_option linter.unusedVariables false
namespace Go.Proofs.Ytljklfimdanmlaa.base
open Go.Sh gen
variable {S : Sums} {m : Mem} {R : Nat → Prop} {rb room r0 lf : Nat} {la : Option Addr} {L : List Rx}
/-- who goes for n bytes, and who stays -/
def rshed (room n : Nat) : List Rx → List Rx × List Rx
  | [] => ([], [])
  | x :: r => if room < rsizes (x :: r) + n ∨ 8 ≤ (x :: r).length then (x :: (rshed room n r).1, (rshed room n r).2) else ([], x :: r)
theorem rsizes_le {k : List Rx} (h : ∀ x ∈ k, x.sz ≤ 1048576) : rsizes k ≤ k.length * 1048576 := by
  induction k with
  | nil => simp [rsizes]
  | cons x r ih =>
    have h1 := h x (by simp)
    have h2 := ih (fun y hy => h y (by simp [hy]))
    simp only [rsizes, List.map_cons, List.sum_cons, List.length_cons] at h2 ⊢
    omega
theorem rshed_small (room n : Nat) : ∀ A : List Rx, (rshed room n A).2.length ≤ 7
  | [] => by simp [rshed]
  | x :: r => by
    unfold rshed
    split
    · exact rshed_small room n r
    · rename_i h; simp only [not_or] at h; show (x :: r).length ≤ 7; omega
/-- with as few families as there are -/
theorem RA.tight {R' : Nat → Prop} (h : RA R' m rb room L r0 la lf) (h0 : R r0) (hn : ∀ x ∈ L, x.needs ≠ [] → R x.nf) : RA (fun f => R f ∨ f = lf) m rb room L r0 la lf :=
  ⟨h.own, h.sl, h.ne, h.nd, h.nn, Or.inl h0, fun _ => Or.inr rfl, fun x hx hz => Or.inl (hn x hx hz), h.len, h.sz⟩
/-- what 'Put' answers and leaves -/
def PutX (R : Nat → Prop) (m m1 : Mem) (rb room : Nat) (L : List Rx) (x : Rx) (v : Value) : Prop :=
  (room < x.sz ∧ RAt R m1 rb room L ∧ v = .tuple #[.slice none 0 0, .int .i64 2]) ∨
  ∃ o, x.sz ≤ room ∧ RAt (fun q => Qn R m m1 q ∨ (x.needs ≠ [] ∧ q = x.nf)) m1 rb room ((rshed room x.sz (wor x.f x.pc L)).2 ++ [x]) ∧ KysR m m1 o (kyr (rshed room x.sz (wor x.f x.pc L)).1) ∧ v = .tuple #[o, .int .i64 0]
set_option maxHeartbeats 4000000 in
theorem rput_run (hN : Nr S) (h : RA R m rb room L r0 la lf) (hR : ∀ f, R f → f < m.next) (hroom : room ≤ 1048576) (hk : KD L) {x : Rx} (hn : Rs m x.na x.needs.length (ic x.needs) 3 1 x.nf) (hq : x.needs ≠ [] → ¬ R x.nf) (h1 : x.sz ≤ 1048576) (h2 : x.needs.length ≤ 1000) :
    ∃ v m1, callw Try.prog TT S 22 [.pointer (some ⟨rb, 0, none⟩), .agg x.row.toArray] m = some (v, m1) ∧ PutX R m m1 rb room L x v ∧ KQ R m m1 := by
  have l9 := h.len
  obtain ⟨oE, kE, nE⟩ := new_own (m := m) (cs := x.row) (e := 41) rfl
  have e0 := oE.load1 (off := 0) (v := .int .i64 x.f) rfl
  have e1 := oE.load1 (off := 1) (v := .int .i64 x.pc) rfl
  have e2 := oE.load1 (off := 2) (v := .slice x.ca x.sz x.sz) rfl
  refine fn_w 7 [15, 43] k22 hN.put rfl ?_
  simp [-Int.natCast_add, -w22_1, -BitVec.toNat_or, -BitVec.toNat_ofInt, -BitVec.toNat_and, box_of b41, fieldAddr_of fa41_0, fieldAddr_of fa39_2, load_of ld35, len_slice u35, fieldAddr_of fa56_0, load_of ld3, fieldAddr_of fa39_0, fieldAddr_of fa39_1, fieldAddr_of fa56_1, load_of ld54, len_slice u54, index_slice u54 sz41, load_agg ld41, buildSlice_of u32 bs50 rfl, append_s u32 sz50, buildSlice_of u54 bs41 rfl, append_s u54 sz41, store_of sz54]
  generalize m.new _ _ = m1 at *
  have hE := h.keep0 kE
  have lr := hE.own.load1 (off := 0) rfl
  have r0n := h.own.flt
  by_cases hbig : room < x.sz
  · have hbig' : (room : Int) < x.sz := by omega
    simp [-Int.natCast_add, -BitVec.toNat_or, -BitVec.toNat_ofInt, -BitVec.toNat_and, box_of b41, fieldAddr_of fa41_0, fieldAddr_of fa39_2, load_of ld35, len_slice u35, fieldAddr_of fa56_0, load_of ld3, fieldAddr_of fa39_0, fieldAddr_of fa39_1, fieldAddr_of fa56_1, load_of ld54, len_slice u54, index_slice u54 sz41, load_agg ld41, buildSlice_of u32 bs50 rfl, append_s u32 sz50, buildSlice_of u54 bs41 rfl, append_s u54 sz41, store_of sz54, e0, e1, e2, lr, hbig, hbig']
    exact ⟨Or.inl ⟨hbig, ⟨_, _, _, hE⟩, rfl⟩, [], kE, by simp⟩
  · have hbig' : ¬ (room : Int) < x.sz := by omega
    obtain ⟨v2, m2, c2, rfl, ⟨la2, lf2, h2'⟩, k2⟩ := rDrop_run hN hE hk x.f x.pc
    simp [-Int.natCast_add, -BitVec.toNat_or, -BitVec.toNat_ofInt, -BitVec.toNat_and, box_of b41, fieldAddr_of fa41_0, fieldAddr_of fa39_2, load_of ld35, len_slice u35, fieldAddr_of fa56_0, load_of ld3, fieldAddr_of fa39_0, fieldAddr_of fa39_1, fieldAddr_of fa56_1, load_of ld54, len_slice u54, index_slice u54 sz41, load_agg ld41, buildSlice_of u32 bs50 rfl, append_s u32 sz50, buildSlice_of u54 bs41 rfl, append_s u54 sz41, store_of sz54, e0, e1, e2, lr, hbig, hbig', c2]
    have hn2 : m1.next ≤ m2.next := k2.1
    have wsub : ∀ y ∈ wor x.f x.pc L, y ∈ L := fun y hy => (List.filter_sublist).subset hy
    have T2 := h2'.tight (R := R) h.q0 (fun y hy hz => h.qn y (wsub y hy) hz)
    have lf2' : la2 ≠ none → lf2 < m2.next := fun ha => T2.sl.sr.flt ha
    refine wsem_loop 7 [15, 43] (fun d E mF => ∃ (g k : List Rx) (la' : Option Addr) (lf' : Nat) (ka : Option Addr) (kf : Nat), k.length = d ∧ rshed room x.sz (wor x.f x.pc L) = (g ++ (rshed room x.sz k).1, (rshed room x.sz k).2) ∧ g.length + k.length ≤ 9 ∧ (∀ y ∈ k, y ∈ L) ∧ RA (fun f => R f ∨ f = lf') mF rb room k r0 la' lf' ∧ (la' ≠ none → R lf' ∨ m1.next ≤ lf') ∧ Keeps m mF [r0] ∧ Own mF m.next x.row 41 m.next ∧ m1.next ≤ mF.next ∧
      Sl mF ka g.length (mvc (kyr g)) 50 2 kf ∧ (ka ≠ none → m1.next ≤ kf ∧ (la' ≠ none → kf ≠ lf')) ∧
      E = [(0, .pointer (some ⟨rb, 0, none⟩)), (3, .pointer (some ⟨m.next, 0, none⟩)), (6, .slice ka g.length g.length)]) _ ⟨_, ⟨[], wor x.f x.pc L, la2, lf2, none, 0, rfl, by simp, by have := (List.filter_sublist (p := fun y => !mtr x.f x.pc y) (l := L)).length_le; simp [wor]; omega, wsub, T2, fun ha => ?_, kE.nil.trans k2, oE.keep k2 (by simp; omega), hn2, Sl.nil _ _ _ _, by simp, rfl⟩, ⟨by rfl, by rfl, by rfl, trivial⟩⟩ ?_
    · have := h2'.ql ha
      exact this.imp id (fun h => h.1)
    rintro d E mF ih ⟨g, k, la', lf', ka, kf, hd, hsh, hgk, hkL, hC, hlf, kF, oF, hnF, sF, hkf, rfl⟩
    have hsz := rsizes_le (fun y hy => (hC.sz y hy).1)
    have d0 := hC.own.load1 (off := 0) rfl
    have d1 := hC.own.load1 (off := 1) rfl
    have d2 := oF.load1 (off := 2) (v := .slice x.ca x.sz x.sz) rfl
    have cz := rsize_run hN hC (by omega)
    have ws : IntKind.i64.wrap ((rsizes k : Int) + (x.sz : Int)) = (rsizes k : Int) + (x.sz : Int) := wrap_i64 (by omega) (by omega)
    have fin : ¬ (room < rsizes k + x.sz ∨ 8 ≤ k.length) → rshed room x.sz (wor x.f x.pc L) = (g, k) := by
      intro hx
      rw [hsh]
      cases k with
      | nil => simp [rshed]
      | cons y r =>
        unfold rshed
        rw [if_neg hx]; simp
    have ne : (room < rsizes k + x.sz ∨ 8 ≤ k.length) → ∃ y r, k = y :: r := fun h => by
      cases k with
      | nil => simp [rsizes] at h; omega
      | cons y r => exact ⟨y, r, rfl⟩
    by_cases hov : room < rsizes k + x.sz ∨ 8 ≤ k.length
    · obtain ⟨y, r, hkyr⟩ := ne hov
      have hk0 : 0 < k.length := by rw [hkyr]; simp
      have hk0' : 0 < (k.length : Int) := by omega
      obtain ⟨b, hb, ob⟩ := hC.sl.own (by omega)
      have g1 := ob.load (off := 0) 7 (by rw [rrows_len]; omega)
      have gw : window (rrows k) 0 7 = y.row := by
        have := rrows_win (L := k) (i := 0) hk0
        rw [Nat.zero_mul] at this
        rw [this]; simp [hkyr]
      rw [gw] at g1
      obtain ⟨m3, c3, k3⟩ := rkey_run (m := mF) hN y
      apply cut_
      case main =>
        by_cases hc1 : room < rsizes k + x.sz
        · have hc1' : (room : Int) < (rsizes k : Int) + (x.sz : Int) := by omega
          intro meth
          simp [-Int.natCast_add, -w22_6, -BitVec.toNat_or, -BitVec.toNat_ofInt, -BitVec.toNat_and, box_of b41, fieldAddr_of fa41_0, fieldAddr_of fa39_2, load_of ld35, len_slice u35, fieldAddr_of fa56_0, load_of ld3, fieldAddr_of fa39_0, fieldAddr_of fa39_1, fieldAddr_of fa56_1, load_of ld54, len_slice u54, index_slice u54 sz41, load_agg ld41, buildSlice_of u32 bs50 rfl, append_s u32 sz50, buildSlice_of u54 bs41 rfl, append_s u54 sz41, store_of sz54, cz, ws, d0, d1, d2, hc1']
          exact w_sub (E := [(0, .pointer (some ⟨rb, 0, none⟩)), (3, .pointer (some ⟨m.next, 0, none⟩)), (6, .slice ka g.length g.length)]) meth ⟨by rfl, by rfl, by rfl, trivial⟩
        · have hc1' : ¬ (room : Int) < (rsizes k : Int) + (x.sz : Int) := by omega
          have hc2 : 8 ≤ k.length := by omega
          have hc2' : 8 ≤ (k.length : Int) := by omega
          intro meth
          simp [-Int.natCast_add, -w22_6, -BitVec.toNat_or, -BitVec.toNat_ofInt, -BitVec.toNat_and, box_of b41, fieldAddr_of fa41_0, fieldAddr_of fa39_2, load_of ld35, len_slice u35, fieldAddr_of fa56_0, load_of ld3, fieldAddr_of fa39_0, fieldAddr_of fa39_1, fieldAddr_of fa56_1, load_of ld54, len_slice u54, index_slice u54 sz41, load_agg ld41, buildSlice_of u32 bs50 rfl, append_s u32 sz50, buildSlice_of u54 bs41 rfl, append_s u54 sz41, store_of sz54, cz, ws, d0, d1, d2, hc1', hc2, hc2']
          exact w_sub (E := [(0, .pointer (some ⟨rb, 0, none⟩)), (3, .pointer (some ⟨m.next, 0, none⟩)), (6, .slice ka g.length g.length)]) meth ⟨by rfl, by rfl, by rfl, trivial⟩
      simp [-Int.natCast_add, -w22_7, -BitVec.toNat_or, -BitVec.toNat_ofInt, -BitVec.toNat_and, box_of b41, fieldAddr_of fa41_0, fieldAddr_of fa39_2, load_of ld35, len_slice u35, fieldAddr_of fa56_0, load_of ld3, fieldAddr_of fa39_0, fieldAddr_of fa39_1, fieldAddr_of fa56_1, load_of ld54, len_slice u54, index_slice u54 sz41, load_agg ld41, buildSlice_of u32 bs50 rfl, append_s u32 sz50, buildSlice_of u54 bs41 rfl, append_s u54 sz41, store_of sz54, d1, hb, hk0, hk0', g1, c3]
      generalize hra : sappend _ _ _ _ _ _ = ra
      obtain ⟨m4, nb, nf4, rfl, o4, k4, hf4, _, _⟩ := app_slz hra u32 ap50 (sF.keep k3 (by simp)) (by omega) (by simp) (by simp [one_int]) (by omega) (by omega)
      have k3n := k3.1
      have k4n := k4.1
      have kb : ∀ q ∈ (if ka = none then [] else [kf]), m1.next ≤ q ∧ (la' ≠ none → q ≠ lf') := by
        intro q hq
        split at hq
        · simp at hq
        · rename_i hn
          simp at hq; rw [hq]; exact hkf hn
      have la'n : la' ≠ none := by rw [hb]; simp
      have hC4 := (hC.keep0 k3).keep k4 (fun q hq => by
        have := kb q hq
        rintro (h | h)
        · have := hR _ h; omega
        · exact this.2 la'n h)
      obtain ⟨v5, m5, c5, ⟨la5, lf5, hC5, hlf5⟩, k5⟩ := rdrop_run hN hC4 hk0
      have er : k.eraseIdx 0 = r := by rw [hkyr]; rfl
      rw [er] at hC5
      have c5 : callw Try.prog TT S 36 [.pointer (some ⟨rb, 0, none⟩), .int .i64 0] m4 = some (v5, m5) := c5
      have k5n := k5.1
      have rL : ∀ z ∈ r, z ∈ L := fun z hz => hkL z (by rw [hkyr]; exact List.mem_cons_of_mem _ hz)
      have T5 := hC5.tight (R := R) h.q0 (fun z hz hzz => h.qn z (rL z hz) hzz)
      have o4n := o4.flt
      simp [-Int.natCast_add, -BitVec.toNat_or, -BitVec.toNat_ofInt, -BitVec.toNat_and, box_of b41, fieldAddr_of fa41_0, fieldAddr_of fa39_2, load_of ld35, len_slice u35, fieldAddr_of fa56_0, load_of ld3, fieldAddr_of fa39_0, fieldAddr_of fa39_1, fieldAddr_of fa56_1, load_of ld54, len_slice u54, index_slice u54 sz41, load_agg ld41, buildSlice_of u32 bs50 rfl, append_s u32 sz50, buildSlice_of u54 bs41 rfl, append_s u54 sz41, store_of sz54, c5]
      have kFr : k.length = r.length + 1 := by rw [hkyr]; rfl
      refine ih _ [(0, .pointer (some ⟨rb, 0, none⟩)), (3, .pointer (some ⟨m.next, 0, none⟩)), (6, .slice (some ⟨nb, 0, none⟩) (g.length + 1) (g.length + 1))] _ _ ⟨g ++ [y], r, la5, lf5, some ⟨nb, 0, none⟩, nf4, rfl, ?_, by simp; omega, rL, T5, fun _ => Or.inr (by omega), ?_, ?_, by omega, ?_, fun _ => ⟨?_, fun _ => by omega⟩, by simp⟩ (by omega) ⟨by rfl, by rfl, by rfl, trivial⟩
      · rw [hsh, hkyr, rshed, if_pos (by rw [← hkyr]; exact hov)]; simp
      · exact (kmix (kF.trans k3.nil) k4 (fun q hq => Or.inl (by have := (kb q hq).1; omega))).trans k5
      · exact ((oF.keep k3 (by simp)).keep k4 (fun hm => by have := (kb _ hm).1; omega)).keep k5 (by simp; omega)
      · have s5 : Sl m4 (some ⟨nb, 0, none⟩) (g ++ [y]).length (mvc (kyr (g ++ [y]))) 50 2 nf4 := Sl.of (by rw [show kyr (g ++ [y]) = kyr g ++ [(y.f, y.pc)] by simp [kyr]]; simpa [mvc] using o4) (by rw [mvc_len]; simp [kyr])
        refine s5.keep k5 ?_
        simp
        rcases hf4 with ⟨h, h'⟩ | h
        · have := (hkf h).1; omega
        · omega
      · rcases hf4 with ⟨h, h'⟩ | h
        · rw [h']; exact (hkf h).1
        · omega
    · have hc1' : ¬ (room : Int) < (rsizes k : Int) + (x.sz : Int) := by omega
      have hc2 : ¬ 8 ≤ k.length := by omega
      have hc2' : ¬ 8 ≤ (k.length : Int) := by omega
      have hsh := fin hov
      clear ih
      have eF := oF.load (off := 0) 7 (by rw [row_len]; omega)
      have ew : window x.row 0 7 = x.row := rfl
      rw [ew] at eF
      have d1n := (hC.own.keep (keeps_new mF x.row 41 []) (by simp)).load1 (off := 1) rfl
      simp [-Int.natCast_add, -w22_9, -BitVec.toNat_or, -BitVec.toNat_ofInt, -BitVec.toNat_and, box_of b41, fieldAddr_of fa41_0, fieldAddr_of fa39_2, load_of ld35, len_slice u35, fieldAddr_of fa56_0, load_of ld3, fieldAddr_of fa39_0, fieldAddr_of fa39_1, fieldAddr_of fa56_1, load_of ld54, len_slice u54, index_slice u54 sz41, load_agg ld41, buildSlice_of u32 bs50 rfl, append_s u32 sz50, buildSlice_of u54 bs41 rfl, append_s u54 sz41, store_of sz54, cz, ws, d0, d1, d2, hc1', hc2, hc2', eF, d1n, row_len, row_fold, row_load]
      generalize hrb : sappend _ _ _ _ _ _ = rb'
      obtain ⟨m5, b5, lf5, rfl, o5, k5, hf5, _, hfe5⟩ := app_slz hrb u54 ap41 hC.sl (by omega) (by rw [row_len]) (row_one x) (by omega) (by omega)
      clear hrb
      have k5n := k5.1
      have own5 := hC.own.keep k5 (by
        split
        · simp
        · rename_i ha; simp; exact (hC.ne ha).symm)
      have l5 := own5.load1 (off := 1) rfl
      simp [-Int.natCast_add, -w22_9, -BitVec.toNat_or, -BitVec.toNat_ofInt, -BitVec.toNat_and, box_of b41, fieldAddr_of fa41_0, fieldAddr_of fa39_2, load_of ld35, len_slice u35, fieldAddr_of fa56_0, load_of ld3, fieldAddr_of fa39_0, fieldAddr_of fa39_1, fieldAddr_of fa56_1, load_of ld54, len_slice u54, index_slice u54 sz41, load_agg ld41, buildSlice_of u32 bs50 rfl, append_s u32 sz50, buildSlice_of u54 bs41 rfl, append_s u54 sz41, store_of sz54, cz, ws, d0, d1, d2, hc1', hc2, hc2', eF, d1n, row_len, row_fold, row_load]
      generalize hrc : storeRow _ _ _ = rc
      obtain ⟨m6, rfl, o6, k6⟩ := store_own hrc own5 (by simp) (by simp [one_slice])
      simp [over] at o6
      have k6n := k6.1
      simp [-Int.natCast_add, -BitVec.toNat_or, -BitVec.toNat_ofInt, -BitVec.toNat_and, box_of b41, fieldAddr_of fa41_0, fieldAddr_of fa39_2, load_of ld35, len_slice u35, fieldAddr_of fa56_0, load_of ld3, fieldAddr_of fa39_0, fieldAddr_of fa39_1, fieldAddr_of fa56_1, load_of ld54, len_slice u54, index_slice u54 sz41, load_agg ld41, buildSlice_of u32 bs50 rfl, append_s u32 sz50, buildSlice_of u54 bs41 rfl, append_s u54 sz41, store_of sz54, cz, ws, d0, d1, d2, hc1', hc2, hc2', eF, d1n, row_len, row_fold, row_eq, row_load]
      have k46 : Keeps mF m6 ((if la' = none then [] else [lf']) ++ [r0]) := (k5.mono (fun q hq => List.mem_append_left _ hq)).trans (k6.mono (fun q hq => List.mem_append_right _ hq))
      have ef : ∀ q ∈ (if la' = none then [] else [lf']) ++ [r0], q = r0 ∨ (q = lf' ∧ la' ≠ none) := by
        intro q hq
        rcases List.mem_append.1 hq with hq | hq
        · split at hq
          · simp at hq
          · rename_i ha; simp at hq; exact Or.inr ⟨hq, ha⟩
        · simp at hq; exact Or.inl hq
      have lf5n := o5.flt
      have kFn := kF.1
      have xlt : x.needs ≠ [] → x.nf < m.next := fun hz => by
        obtain ⟨_, _, r⟩ := hn.rdo (by simpa using hz)
        exact r.flt
      have hne5 : lf5 ≠ r0 := by
        rcases hf5 with ⟨ha, e⟩ | e
        · rw [e]; exact hC.ne ha
        · omega
      have hk7 : k.length ≤ 7 := by omega
      have xne : x.needs ≠ [] → x.nf ≠ r0 ∧ (la' ≠ none → x.nf ≠ lf') := fun hz => ⟨fun e => hq hz (e ▸ h.q0), fun ha e => by
        rcases hlf ha with h | h
        · exact hq hz (e ▸ h)
        · have := xlt hz; omega⟩
      have H6 := hC.set (R' := fun q => Qn R m m6 q ∨ (x.needs ≠ [] ∧ q = x.nf) ∨ q = lf') (L1 := k ++ [x]) k46 (fun q hq => by
          rcases ef q hq with h | h
          · exact Or.inl h
          · exact Or.inr (Or.inl h.1)) (by simpa using o6) (by rw [rrows_app]; exact o5.keep k6 (by simpa using hne5)) (fun f hf => hf.elim (fun h => Or.inl (Or.inl h)) (fun h => Or.inr (Or.inr h))) hne5 (hf5.imp (·.2) id) (by
          rcases hf5 with ⟨ha, e⟩ | e
          · exact Or.inr (Or.inr e)
          · exact Or.inl (Or.inr ⟨by omega, by omega⟩)) (by simp; omega) (fun z hz => by
          rcases List.mem_append.1 hz with hz | hz
          · exact Or.inl hz
          · rw [List.mem_singleton.1 hz]
            refine Or.inr ⟨(hn.keep0 kF (fun z => ?_)).keep0 k46 (fun z hm => ?_), fun hzz => ⟨(xne hzz).1, ?_, Or.inr (Or.inl ⟨hzz, rfl⟩)⟩, h1, h2⟩
            · have := xne (by simpa using z)
              simpa using this.1
            · have := xne (by simpa using z)
              rcases ef _ hm with h | h
              · exact this.1 h
              · exact this.2 h.2 h.1
            · have := xlt hzz
              rcases hf5 with ⟨ha, e⟩ | e
              · rw [e]; exact (xne hzz).2 ha
              · omega)
      have xin : ∀ y ∈ k ++ [x], y.needs ≠ [] → R y.nf ∨ (x.needs ≠ [] ∧ y.nf = x.nf) := fun y hy hz => by
        rcases List.mem_append.1 hy with hy | hy
        · exact Or.inl (h.qn y (hkL y hy) hz)
        · rw [List.mem_singleton.1 hy] at hz ⊢; exact Or.inr ⟨hz, rfl⟩
      have T6 := H6.tight (R := fun q => R q ∨ (x.needs ≠ [] ∧ q = x.nf)) (Or.inl h.q0) xin
      have lf5R : R lf5 ∨ (m.next ≤ lf5 ∧ lf5 < m6.next) := by
        rcases hf5 with ⟨ha, e⟩ | e
        · rcases hlf ha with h | h
          · exact Or.inl (e ▸ h)
          · exact Or.inr ⟨by omega, by omega⟩
        · exact Or.inr ⟨by omega, by omega⟩
      refine ⟨Or.inr ⟨.slice ka g.length g.length, by omega, ?_, ?_, rfl⟩, (r0 :: (if la' = none then [] else [lf']) ++ [r0]), ?_, fun q hq => ?_⟩
      · rw [hsh]
        refine ⟨_, _, _, T6.mono (fun q hq => ?_)⟩
        rcases hq with (h | h) | h
        · exact Or.inl (Or.inl h)
        · exact Or.inr h
        · rw [h]; exact Or.inl lf5R
      · rw [hsh]
        refine ⟨ka, kf, by rw [kyr_len], ?_, fun hka => by have := (hkf hka).1; omega⟩
        rw [show (kyr (g, k).1).length = g.length by simp [kyr]]
        refine (sF.keepz k46 (fun hka hm => ?_))
        rcases ef _ hm with h | h
        · have := (hkf hka).1; omega
        · exact (hkf hka).2 h.2 h.1
      · exact (kF.mono (by simp)).trans (k46.mono (fun q hq => List.mem_cons_of_mem _ hq))
      · rcases List.mem_cons.1 hq with h' | h'
        · exact Or.inl (h' ▸ h.q0)
        · rcases ef q h' with h' | h'
          · exact Or.inl (h' ▸ h.q0)
          · rcases hlf h'.2 with h'' | h''
            · exact Or.inl (h'.1 ▸ h'')
            · exact Or.inr (by omega)
end Go.Proofs.Ytljklfimdanmlaa.base

