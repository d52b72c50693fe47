/-
  This text walks the loop of the law 'WorldPlays': any calls on both worlds are answered alike.
  Condition: nothing is known of the calls ahead ('S f = []'); the table of powers of ten is laid.
-/
import Derived.Test.YtggbgelfgfmikaaDoorWpF
set_option maxRecDepth 100000
set_option linter.unusedSimpArgs false
set_option linter.unusedVariables false
namespace Go.Proofs.YtggbgelfgfmikaaDoor.base
open Go.Sh gen
variable {S : Sums} {m : Mem}
abbrev Sx := Int × Int × Int × Int
abbrev sxl (x : Sx) : List Value := [.int .i64 x.1, .int .i64 x.2.1, .int .i64 x.2.2.1, .int .u64 x.2.2.2]
abbrev sxv (l : List Sx) : List Value := l.flatMap sxl
theorem sxv_len (l : List Sx) : (sxv l).length = l.length * 4 := by
  induction l with
  | nil => rfl
  | cons a l ih => simp only [sxv, List.flatMap_cons, List.length_append, List.length_cons] at ih ⊢; simp only [List.length_nil]; omega
theorem sxv_win {l : List Sx} {i : Nat} (h : i < l.length) : window (sxv l) (i * 4) 4 = sxl l[i] := by
  induction l generalizing i with
  | nil => simp at h
  | cons a l ih =>
    cases i with
    | zero => simp [window, sxv]
    | succ i =>
      have := ih (i := i) (by simpa using h)
      simp only [window, sxv, List.flatMap_cons] at this ⊢
      rw [show (i + 1) * 4 = i * 4 + 4 by omega]
      simpa using this
def sxOk (x : Sx) : Prop := (-9223372036854775808 ≤ x.2.1 ∧ x.2.1 ≤ 9223372036854775807) ∧ (-9223372036854775808 ≤ x.2.2.1 ∧ x.2.2.1 ≤ 9223372036854775807) ∧ (0 ≤ x.2.2.2 ∧ x.2.2.2 ≤ 18446744073709551615)
theorem Ro.keepq {m m1 : Mem} {K : Kx} {q : Nat} (h : Ro m K) (k : Keeps m m1 [q]) (hq : q ∉ K.G) : Ro m1 K := by
  have no : ∀ g ∈ K.G, g ∉ [q] := fun g h1 h2 => by
    simp only [List.mem_singleton] at h2
    rw [h2] at h1
    exact hq h1
  obtain ⟨e, hp⟩ := h.pw
  exact ⟨h.ty.keep k (no _ (by simp [Kx.G])), h.ty2.keep k (no _ (by simp [Kx.G])), h.li.keep k (no _ (by simp [Kx.G])), h.li2.keep k (no _ (by simp [Kx.G])), h.io.keep k (no _ (by simp [Kx.G])), h.io2.keep k (no _ (by simp [Kx.G])), e, hp.keep k (no _ (by simp [Kx.G]))⟩
theorem St.keepq {m m1 : Mem} {K : Kx} {V : Vx} (hK : Kok K) (h : St m K V) {q : Nat} (k : Keeps m m1 [q]) (hq : q ∉ K.F) (hq2 : q < K.N0) (hq3 : q ∉ K.G) : St m1 K V := by
  have nf : ∀ g ∈ K.F, g ∉ [q] := fun g h1 h2 => by
    simp only [List.mem_singleton] at h2
    rw [h2] at h1
    exact hq h1
  have n1 : V.no ≠ none → V.nf ∉ [q] := fun hn => by have := h.n1 hn; simp only [List.mem_singleton]; omega
  have n2 : V.no2 ≠ none → V.nf2 ∉ [q] := fun hn => by have := h.n2 hn; simp only [List.mem_singleton]; omega
  exact ⟨h.p.keep k (nf _ (by simp [Kx.F])) (nf _ (by simp [Kx.F])) (nf _ (by simp [Kx.F])) n1, h.r.keep k (nf _ (by simp [Kx.F])) (nf _ (by simp [Kx.F])) (nf _ (by simp [Kx.F])) n2, h.o.keepq k hq3, h.g, h.t, h.l, h.n1, h.n2, h.n3, by have := k.1; have := h.m0; omega⟩
theorem St.copy (hP : Pw S) (hR : Rw S) {K : Kx} {V : Vx} (hK : Kok K) (h : St m K V) (hWd : S 36 = []) (hSt : S 38 = []) :
    ∃ cb chb nb tb m1 m2 m3 r4 m4 r5 m5 r6 m6, callw Tryd.prog TT S 35 [.pointer (some ⟨K.x, 0, none⟩)] m = some (.pointer (some ⟨cb, 0, none⟩), m1) ∧
      callw Tryd.prog TT S 19 [.pointer (some ⟨cb, 0, none⟩)] m1 = some (.pointer (some ⟨chb, 0, none⟩), m1) ∧
      callw Tryd.prog TT S 37 [.pointer (some ⟨chb, 0, none⟩)] m1 = some (.slice (some ⟨nb, 0, none⟩) V.ws.length V.ws.length, m2) ∧
      callw Tryd.prog TT S 36 [.slice (some ⟨nb, 0, none⟩) V.ws.length V.ws.length, .slice (some ⟨V.vb, 0, none⟩) V.ws.length V.ws.length] m2 = some (.bool true, m2) ∧
      callw Tryd.prog TT S 13 [.pointer (some ⟨cb, 0, none⟩)] m2 = some (.slice (some ⟨tb, 0, none⟩) V.lines.length V.lines.length, m3) ∧
      callw Tryd.prog TT S 38 [.slice (some ⟨tb, 0, none⟩) V.lines.length V.lines.length, .slice V.no2 V.lines.length V.lines.length] m3 = some (.bool true, m3) ∧
      callw Tryd.prog TT S 25 [.pointer (some ⟨cb, 0, none⟩)] m3 = some (.int .i64 V.tk, m3) ∧
      callw Tryd.prog TT S 12 [.pointer (some ⟨cb, 0, none⟩), .int .i64 1, .int .u64 5] m3 = some (r4, m4) ∧
      callw Tryd.prog TT S 23 [.pointer (some ⟨cb, 0, none⟩), .int .i64 5] m4 = some (r5, m5) ∧
      callw Tryd.prog TT S 22 [.pointer (some ⟨cb, 0, none⟩)] m5 = some (r6, m6) ∧
      St m1 K V ∧ St m2 K V ∧ St m3 K V ∧ St m6 K V ∧ Keeps m m6 [] := by
  have hle := h.g.le
  have hrm := hK.room
  have hne : V.ws ≠ [] := by
    intro e
    have := h.g.pos
    rw [e] at this
    simp at this
  have hll := h.l
  obtain ⟨_, m1, c1, ⟨cb, cf, chb, chf, cwb, cwf, cno, cnf, rfl, P1, g1, g2, g3, g4⟩, k1⟩ := pcopy_run hP h.p hne (by omega) (by omega) rfl rfl rfl
  have h1 := h.keep0 hK k1
  have d1 := pheap_run hP P1
  obtain ⟨_, m2, c2, nb, nf, rfl, oN, hnf, k2⟩ := words_run hP.words P1.heap hne (by omega)
  have P2 := P1.keep0 k2
  have h2 := h1.keep0 hK k2
  have d2 := weq_run (m := m2) hWd (b := V.ws) ⟨by simp [words], Or.inr ⟨nb, rfl, oN.rdo⟩⟩ ⟨by simp [words], Or.inr ⟨V.vb, rfl, h2.r.heap.w.rdo⟩⟩ (by omega)
  obtain ⟨_, m3, c3, ⟨tb, rfl, tf, oT, htf⟩, k3⟩ := ptrace_run hP P2 (by omega)
  have P3 := P2.keep0 k3
  have h3 := h2.keep0 hK k3
  have d3 := seq_run (m := m3) hSt (b := V.lines) ⟨by simp [strC], Or.inr ⟨tb, rfl, oT.rdo⟩⟩ h3.r.lines.rs (by omega)
  have d4 := ptaken_run hP P3
  obtain ⟨e, hp⟩ := h3.o.pw
  obtain ⟨r4, m4, c4, ⟨no4, nf4, P4, hnf4⟩, nq, k4, hnq⟩ := pprint_run hP hp P3 (by omega) h.g.wd hll (k := 1) (v := 5) (by omega)
  have kk3 := (k1.trans k2).trans k3
  have kk4 : Keeps m m4 [] := kk3.fresh k4 (by
    intro g hg
    simp only [List.mem_cons, List.not_mem_nil, or_false] at hg
    rcases hg with rfl | rfl
    · exact g1
    · rcases hnq with rfl | ⟨a, rfl⟩
      · exact g1
      · exact g4 a)
  have h4 := h.keep0 hK kk4
  obtain ⟨r5, m5, c5, _, ⟨wb5, P5⟩, k5⟩ := pobject_run hP P4 h4.o.ty (by omega) (by omega) P4.heap.ne (t := 5)
  have kk5 : Keeps m m5 [] := kk4.fresh k5 (by
    intro g hg
    simp only [List.mem_cons, List.not_mem_nil, or_false] at hg
    rcases hg with rfl | rfl
    · exact g2
    · exact g3)
  have h5 := h.keep0 hK kk5
  have hj := (hK.gl K.jf (by simp [Kx.G])).1
  have hm := h.m0
  obtain ⟨r6, m6, c6, _, P6, k6⟩ := pinput_run hP P5 h5.o.io hK.ins h.t (by omega)
  have kk6 : Keeps m m6 [] := kk5.fresh k6 (by
    intro g hg
    simp only [List.mem_singleton] at hg
    rw [hg]
    exact g1)
  exact ⟨cb, chb, nb, tb, m1, m2, m3, r4, m4, r5, m5, r6, m6, c1, d1, c2, d2, c3, d3, d4, c4, c5, c6, h1, h2, h3, h.keep0 hK kk6, kk6⟩
set_option maxHeartbeats 16000000 in
theorem main_run (hP : Pw S) (hR : Rw S) {K : Kx} (hK : Kok K) (hPk : S 11 = []) (hS : S 7 = []) (hWd : S 36 = []) (hSt : S 38 = [])
    {ao : Option Addr} {ls : List Sx} {fam : Nat} {mC : Mem} (hl : Rs mC ao ls.length (sxv ls) 58 4 fam) (hF : fam ∉ K.F) (hF0 : fam < K.N0) (hok : ∀ x ∈ ls, sxOk x) {V0 : Vx} (h0 : St mC K V0) {ra rb : Nat} {rl : List Int} (oR : Own mC ra (words rl) 22 rb) (hF2 : rb ∉ K.F) (hF3 : rb < K.N0) (hF4 : rb ∉ K.G) (hF5 : fam ≠ rb) (hrl : 2 ≤ rl.length ∧ rl.length ≤ 100) (hrn : ∀ x ∈ rl, 0 ≤ x) {E : LEnv}
    (hE : subE [(3, .slice ao ls.length ls.length), (12, .pointer (some ⟨K.x, 0, none⟩)), (14, .pointer (some ⟨K.y, 0, none⟩)), (15, .slice (some ⟨ra, 0, none⟩) rl.length rl.length), (17, .int .i64 0)] E) :
    Wsem Tryd.prog TT S (.loop (.seq (.seq r7_20 (.cond (.tmp 113) .skip (.exit 4))) (.seq (.block 5 (.seq r7_21 (.seq r7_22 (.seq r7_23 (.seq r7_24 (.seq (.seq r7_25 (.block 6 (.seq r7_26 (.cond (.tmp 183) (.seq r7_27 r7_28) (.seq r7_29 (.cond (.tmp 199) (.seq r7_30 r7_31) (.seq r7_32 (.cond (.tmp 207) r7_33 (.seq r7_34 (.cond (.tmp 214) (.seq r7_35 (.seq r7_36 r7_37)) (.seq r7_38 (.cond (.tmp 240) (.seq r7_39 (.seq r7_40 r7_41)) (.seq (.seq r7_42 (.cond (.tmp 264) .skip r7_43)) (.cond (.tmp 264) (.seq r7_44 (.seq r7_45 (.seq r7_46 r7_47))) (.seq r7_48 (.cond (.tmp 293) r7_49 (.seq r7_50 (.seq (.seq r7_51 (.cond (.tmp 147) (.seq r7_52 .ret) .skip)) (.seq r7_53 (.seq r7_54 (.seq r7_55 r7_56))))))))))))))))))))) (.seq r7_57 (.cond (.tmp 354) (.seq r7_58 .ret) .skip)))))))) r7_59))) [Fr.block 4, Fr.seq (.seq r7_60 .ret)] E mC (QF Tryd.prog [ResultVar.tmp 8] fun v m' => v = .bool true) := by
  refine wsem_loop 139 [183, 199, 207, 214, 240, 264, 264, 293, 147, 354] (fun d E mE => ∃ (i : Nat) (V : Vx) (ra : Nat) (rl : List Int), 80 - i = d ∧ i ≤ 80 ∧ i ≤ ls.length ∧ St mE K V ∧ Own mE ra (words rl) 22 rb ∧ (2 ≤ rl.length ∧ rl.length ≤ 100 + i) ∧ (∀ x ∈ rl, 0 ≤ x) ∧ Rs mE ao ls.length (sxv ls) 58 4 fam ∧
    E = [(3, .slice ao ls.length ls.length), (12, .pointer (some ⟨K.x, 0, none⟩)), (14, .pointer (some ⟨K.y, 0, none⟩)), (15, .slice (some ⟨ra, 0, none⟩) rl.length rl.length), (17, .int .i64 i)]) _ ⟨_, ⟨0, V0, ra, rl, rfl, by omega, by omega, h0, oR, by omega, hrn, hl, rfl⟩, hE⟩ ?_
  clear hE oR hrl hrn h0 hl
  rintro d E mE ih ⟨i, V, ra, rl, hd, hi8, hil, h, oR, hrl, hrn, hl, rfl⟩
  have i4 : (i : Int) ≤ 9223372036854775807 := by omega
  by_cases hin : i < ls.length ∧ i < 80
  · obtain ⟨h1, h2⟩ := hin
    have i1 : (i : Int) < ls.length := by omega
    have i2 : (i : Int) < 80 := by omega
    have wi : IntKind.i64.wrap ((i : Int) + 1) = ((i + 1 : Nat) : Int) := by rw [wrap_i64 (by omega) (by omega)]; omega
    obtain ⟨lb, hlo, ol⟩ := hl.rdo (by omega)
    obtain ⟨x, hx⟩ : ∃ x, ls[i] = x := ⟨_, rfl⟩
    have hxo := hok x (by rw [← hx]; exact List.getElem_mem h1)
    have ld : loadRow mE ⟨lb, i * 4, none⟩ 4 = some (sxl x) := by rw [ol.load 4 (by rw [sxv_len]; omega), sxv_win h1, hx]
    obtain ⟨w, A, B, v⟩ := x
    obtain ⟨hA, hB, hv⟩ := hxo
    dsimp only at hA hB hv
    obtain ⟨oZ, kZ, nZ⟩ := new_own (m := mE) (cs := [.int .i64 0, .int .i64 0, .int .i64 0, .int .u64 0]) (e := 58) rfl
    obtain ⟨bx, hbx⟩ : ∃ bx, mE.next = bx := ⟨_, rfl⟩
    obtain ⟨mB, eB, oX, kX⟩ := store_own (r := _) rfl oZ (off := 0) (vs := sxl (w, A, B, v)) (by simp) (by simp [one_int])
    simp [over] at oX
    have kB := kZ.fresh kX (by simp)
    rw [hbx] at oX nZ eB
    have hS1 := h.keep0 hK kB
    have mlt := h.mu_lt
    have mhi := h.mu_hi
    have nbx : bx ∉ Mu K V := fun hg => by have := mlt bx hg; omega
    have nrb : rb ∉ Mu K V := fun hg => by
      rcases mhi rb hg with a | a
      · exact hF2 a
      · omega
    have nfm : fam ∉ Mu K V := fun hg => by
      rcases mhi fam hg with a | a
      · exact hF a
      · omega
    have oRB := oR.keep kB (by simp)
    have hlB := hl.keep kB (by simp)
    have q0 := oX.load1 (off := 0) rfl
    have q1 := oX.load1 (off := 1) rfl
    have q2 := oX.load1 (off := 2) rfl
    have q3 := oX.load1 (off := 3) rfl
    have hn : (0 : Int) < rl.length := by omega
    have pkA := fun m' => pick_run (m := m') hPk A rl.length hn (by omega)
    have pkB := fun m' => pick_run (m := m') hPk B rl.length hn (by omega)
    have pkW := fun m' => pick_run (m := m') hPk w 9 (by omega) (by omega)
    obtain ⟨ia, hia⟩ := Int.eq_ofNat_of_zero_le (Int.emod_nonneg A (by omega : (rl.length : Int) ≠ 0))
    obtain ⟨ib, hib⟩ := Int.eq_ofNat_of_zero_le (Int.emod_nonneg B (by omega : (rl.length : Int) ≠ 0))
    have hia2 : ia < rl.length := by have := Int.emod_lt_of_pos A hn; omega
    have hib2 : ib < rl.length := by have := Int.emod_lt_of_pos B hn; omega
    rw [hia] at pkA
    rw [hib] at pkB
    have la := oRB.load1 (words_at hia2)
    have lb' := oRB.load1 (words_at hib2)
    have ha0 : 0 ≤ rl.getD ia 0 := by
      rw [List.getD_eq_getElem?_getD, List.getElem?_eq_getElem hia2]; exact hrn _ (List.getElem_mem hia2)
    have hb0 : 0 ≤ rl.getD ib 0 := by
      rw [List.getD_eq_getElem?_getD, List.getElem?_eq_getElem hib2]; exact hrn _ (List.getElem_mem hib2)
    generalize rl.getD ia 0 = a at *
    generalize rl.getD ib 0 = b at *
    have ja : (ia : Int) ≤ 9223372036854775807 := by omega
    have jb : (ib : Int) ≤ 9223372036854775807 := by omega
    have ja2 : (ia : Int) < rl.length := by omega
    have jb2 : (ib : Int) < rl.length := by omega
    obtain ⟨wp, hwp⟩ : ∃ wp, w % 9 = wp := ⟨_, rfl⟩
    have hwp2 : 0 ≤ wp ∧ wp < 9 := by omega
    rw [hwp] at pkW
    have F0 := hS1.print hP hR hK (k := A.tmod 5) hv.1
    have F1 := hS1.print hP hR hK (k := 3) ha0
    have F2 := hS1.input hP hR hK
    have F3 := hS1.object hP hR hK (A.tmod 9)
    have F4 := hS1.slice hP hR hK (n := B) hB
    have F5 := hS1.cat hP hR hK ha0 hb0
    unfold Both at F2 F3 F4 F5
    have wB : IntKind.i64.wrap B = B := wrap_i64 hB.1 hB.2
    have hrbE := oR.flt
    apply cut3_ (fun (mJ : Mem) (V1 : Vx) (R : Nat × List Int) => St mJ K V1 ∧ Own mJ R.1 (words R.2) 22 rb ∧ (2 ≤ R.2.length ∧ R.2.length ≤ 101 + i) ∧ (∀ x ∈ R.2, 0 ≤ x) ∧ Rs mJ ao ls.length (sxv ls) 58 4 fam ∧ Own mJ bx (sxl (w, A, B, v)) 58 bx)
    case main =>
      intro meth
      simp [-Int.natCast_add, -w7_26, -BitVec.toNat_or, -BitVec.toNat_ofInt, -BitVec.toNat_and, len_slice u28, index_slice u28 sz9, load_of ld9, len_string u9, slice_str u9, buildSlice_of u28 bs9 rfl, append_s u28 sz9, alloc_of zo31, store_of sz31, load_agg ld31, bin_ptr u54, bin_bool u4 .neq (Or.inr rfl), bin_ptr u23, buildSlice_of u56 bs22 rfl, append_s u56 sz22, len_slice u52, index_slice u52 sz58, load_agg ld58, alloc_of zo58, store_of sz58, fieldAddr_of fa58_1, load_of ld3, len_slice u56, index_slice u56 sz22, load_of ld22, fieldAddr_of fa58_2, fieldAddr_of fa58_0, fieldAddr_of fa58_3, bin_bool u4 .eql (Or.inl rfl), fieldAddr_of fa61_1, load_of ld59, bin_str u9 .lss (Or.inr (Or.inl rfl)), bin_ptr u44, fieldAddr_of fa67_1, load_of ld56, fieldAddr_of fa61_5, load_of ld28, fieldAddr_of fa61_4, h1, h2, i1, i2, i4, hlo, ld, hbx, eB, q0, q1, q2, q3, pkA, pkB, pkW, la, lb', ja, jb, ja2, jb2, hia2, hib2]
      refine w_sub (E := [(3, .slice ao ls.length ls.length), (12, .pointer (some ⟨K.x, 0, none⟩)), (14, .pointer (some ⟨K.y, 0, none⟩)), (15, .slice (some ⟨ra, 0, none⟩) rl.length rl.length), (17, .int .i64 i), (18, .pointer (some ⟨bx, 0, none⟩)), (19, .int .u64 a), (20, .int .u64 b), (21, .bool true), (138, .int .i64 wp)]) ?_ ⟨by rw [hlo]; rfl, by rfl, by rfl, by rfl, by rfl, by rfl, by rfl, by rfl, by rfl, by rfl, trivial⟩
      by_cases c : wp = 0
      · skip
        obtain ⟨_, m1, _, m2, V1, c1, c2, st, k1, k2⟩ := id F0
        have p1 := (oX.keep k1 nbx).load1 (off := 1) rfl
        have p3 := (oX.keep k1 nbx).load1 (off := 3) rfl
        simp [-Int.natCast_add, -w7_57, -BitVec.toNat_or, -BitVec.toNat_ofInt, -BitVec.toNat_and, len_slice u28, index_slice u28 sz9, load_of ld9, len_string u9, slice_str u9, buildSlice_of u28 bs9 rfl, append_s u28 sz9, alloc_of zo31, store_of sz31, load_agg ld31, bin_ptr u54, bin_bool u4 .neq (Or.inr rfl), bin_ptr u23, buildSlice_of u56 bs22 rfl, append_s u56 sz22, len_slice u52, index_slice u52 sz58, load_agg ld58, alloc_of zo58, store_of sz58, fieldAddr_of fa58_1, load_of ld3, len_slice u56, index_slice u56 sz22, load_of ld22, fieldAddr_of fa58_2, fieldAddr_of fa58_0, fieldAddr_of fa58_3, bin_bool u4 .eql (Or.inl rfl), fieldAddr_of fa61_1, load_of ld59, bin_str u9 .lss (Or.inr (Or.inl rfl)), bin_ptr u44, fieldAddr_of fa67_1, load_of ld56, fieldAddr_of fa61_5, load_of ld28, fieldAddr_of fa61_4, c, q1, q3, c1, p1, p3, c2]
        obtain ⟨R, hR1⟩ : ∃ R : Nat × List Int, (ra, rl) = R := ⟨_, rfl⟩
        have hJ : St m2 K V1 ∧ Own m2 R.1 (words R.2) 22 rb ∧ (2 ≤ R.2.length ∧ R.2.length ≤ 101 + i) ∧ (∀ x ∈ R.2, 0 ≤ x) ∧ Rs m2 ao ls.length (sxv ls) 58 4 fam ∧ Own m2 bx (sxl (w, A, B, v)) 58 bx := by
          rw [← hR1]
          exact ⟨st, ((oRB.keep k1 nrb).keep k2 nrb), ⟨hrl.1, by show rl.length ≤ 101 + i; omega⟩, hrn, ((hlB.keep k1 nfm).keep k2 nfm), ((oX.keep k1 nbx).keep k2 nbx)⟩
        exact w_sub (E := [(3, .slice ao ls.length ls.length), (12, .pointer (some ⟨K.x, 0, none⟩)), (14, .pointer (some ⟨K.y, 0, none⟩)), (15, .slice (some ⟨R.1, 0, none⟩) R.2.length R.2.length), (17, .int .i64 i), (18, .pointer (some ⟨bx, 0, none⟩)), (21, .bool true)]) (meth m2 V1 R hJ) ⟨by rfl, by rfl, by rfl, by rw [← hR1]; rfl, by rfl, by rfl, by rfl, trivial⟩
      have d0 : ¬ wp = 0 := c
      clear c
      by_cases c : wp = 1
      · skip
        obtain ⟨_, m1, _, m2, V1, c1, c2, st, k1, k2⟩ := id F1
        simp [-Int.natCast_add, -w7_57, -BitVec.toNat_or, -BitVec.toNat_ofInt, -BitVec.toNat_and, len_slice u28, index_slice u28 sz9, load_of ld9, len_string u9, slice_str u9, buildSlice_of u28 bs9 rfl, append_s u28 sz9, alloc_of zo31, store_of sz31, load_agg ld31, bin_ptr u54, bin_bool u4 .neq (Or.inr rfl), bin_ptr u23, buildSlice_of u56 bs22 rfl, append_s u56 sz22, len_slice u52, index_slice u52 sz58, load_agg ld58, alloc_of zo58, store_of sz58, fieldAddr_of fa58_1, load_of ld3, len_slice u56, index_slice u56 sz22, load_of ld22, fieldAddr_of fa58_2, fieldAddr_of fa58_0, fieldAddr_of fa58_3, bin_bool u4 .eql (Or.inl rfl), fieldAddr_of fa61_1, load_of ld59, bin_str u9 .lss (Or.inr (Or.inl rfl)), bin_ptr u44, fieldAddr_of fa67_1, load_of ld56, fieldAddr_of fa61_5, load_of ld28, fieldAddr_of fa61_4, c, c1, c2]
        obtain ⟨R, hR1⟩ : ∃ R : Nat × List Int, (ra, rl) = R := ⟨_, rfl⟩
        have hJ : St m2 K V1 ∧ Own m2 R.1 (words R.2) 22 rb ∧ (2 ≤ R.2.length ∧ R.2.length ≤ 101 + i) ∧ (∀ x ∈ R.2, 0 ≤ x) ∧ Rs m2 ao ls.length (sxv ls) 58 4 fam ∧ Own m2 bx (sxl (w, A, B, v)) 58 bx := by
          rw [← hR1]
          exact ⟨st, ((oRB.keep k1 nrb).keep k2 nrb), ⟨hrl.1, by show rl.length ≤ 101 + i; omega⟩, hrn, ((hlB.keep k1 nfm).keep k2 nfm), ((oX.keep k1 nbx).keep k2 nbx)⟩
        exact w_sub (E := [(3, .slice ao ls.length ls.length), (12, .pointer (some ⟨K.x, 0, none⟩)), (14, .pointer (some ⟨K.y, 0, none⟩)), (15, .slice (some ⟨R.1, 0, none⟩) R.2.length R.2.length), (17, .int .i64 i), (18, .pointer (some ⟨bx, 0, none⟩)), (21, .bool true)]) (meth m2 V1 R hJ) ⟨by rfl, by rfl, by rfl, by rw [← hR1]; rfl, by rfl, by rfl, by rfl, trivial⟩
      have d1 : ¬ wp = 1 := c
      clear c
      by_cases c : wp = 2
      · skip
        obtain ⟨m1, m2, V1, c1, c2, st, k1, k2⟩ := id F2
        simp [-Int.natCast_add, -w7_57, -BitVec.toNat_or, -BitVec.toNat_ofInt, -BitVec.toNat_and, len_slice u28, index_slice u28 sz9, load_of ld9, len_string u9, slice_str u9, buildSlice_of u28 bs9 rfl, append_s u28 sz9, alloc_of zo31, store_of sz31, load_agg ld31, bin_ptr u54, bin_bool u4 .neq (Or.inr rfl), bin_ptr u23, buildSlice_of u56 bs22 rfl, append_s u56 sz22, len_slice u52, index_slice u52 sz58, load_agg ld58, alloc_of zo58, store_of sz58, fieldAddr_of fa58_1, load_of ld3, len_slice u56, index_slice u56 sz22, load_of ld22, fieldAddr_of fa58_2, fieldAddr_of fa58_0, fieldAddr_of fa58_3, bin_bool u4 .eql (Or.inl rfl), fieldAddr_of fa61_1, load_of ld59, bin_str u9 .lss (Or.inr (Or.inl rfl)), bin_ptr u44, fieldAddr_of fa67_1, load_of ld56, fieldAddr_of fa61_5, load_of ld28, fieldAddr_of fa61_4, c, c1, c2]
        obtain ⟨R, hR1⟩ : ∃ R : Nat × List Int, (ra, rl) = R := ⟨_, rfl⟩
        have hJ : St m2 K V1 ∧ Own m2 R.1 (words R.2) 22 rb ∧ (2 ≤ R.2.length ∧ R.2.length ≤ 101 + i) ∧ (∀ x ∈ R.2, 0 ≤ x) ∧ Rs m2 ao ls.length (sxv ls) 58 4 fam ∧ Own m2 bx (sxl (w, A, B, v)) 58 bx := by
          rw [← hR1]
          exact ⟨st, ((oRB.keep k1 nrb).keep k2 nrb), ⟨hrl.1, by show rl.length ≤ 101 + i; omega⟩, hrn, ((hlB.keep k1 nfm).keep k2 nfm), ((oX.keep k1 nbx).keep k2 nbx)⟩
        exact w_sub (E := [(3, .slice ao ls.length ls.length), (12, .pointer (some ⟨K.x, 0, none⟩)), (14, .pointer (some ⟨K.y, 0, none⟩)), (15, .slice (some ⟨R.1, 0, none⟩) R.2.length R.2.length), (17, .int .i64 i), (18, .pointer (some ⟨bx, 0, none⟩)), (21, .bool true)]) (meth m2 V1 R hJ) ⟨by rfl, by rfl, by rfl, by rw [← hR1]; rfl, by rfl, by rfl, by rfl, trivial⟩
      have d2 : ¬ wp = 2 := c
      clear c
      by_cases c : wp = 3
      · skip
        obtain ⟨m1, m2, V1, c1, c2, st, k1, k2⟩ := id F3
        have p1 := (oX.keep k1 nbx).load1 (off := 1) rfl
        simp [-Int.natCast_add, -w7_57, -BitVec.toNat_or, -BitVec.toNat_ofInt, -BitVec.toNat_and, len_slice u28, index_slice u28 sz9, load_of ld9, len_string u9, slice_str u9, buildSlice_of u28 bs9 rfl, append_s u28 sz9, alloc_of zo31, store_of sz31, load_agg ld31, bin_ptr u54, bin_bool u4 .neq (Or.inr rfl), bin_ptr u23, buildSlice_of u56 bs22 rfl, append_s u56 sz22, len_slice u52, index_slice u52 sz58, load_agg ld58, alloc_of zo58, store_of sz58, fieldAddr_of fa58_1, load_of ld3, len_slice u56, index_slice u56 sz22, load_of ld22, fieldAddr_of fa58_2, fieldAddr_of fa58_0, fieldAddr_of fa58_3, bin_bool u4 .eql (Or.inl rfl), fieldAddr_of fa61_1, load_of ld59, bin_str u9 .lss (Or.inr (Or.inl rfl)), bin_ptr u44, fieldAddr_of fa67_1, load_of ld56, fieldAddr_of fa61_5, load_of ld28, fieldAddr_of fa61_4, c, q1, c1, p1, c2]
        obtain ⟨R, hR1⟩ : ∃ R : Nat × List Int, (ra, rl) = R := ⟨_, rfl⟩
        have hJ : St m2 K V1 ∧ Own m2 R.1 (words R.2) 22 rb ∧ (2 ≤ R.2.length ∧ R.2.length ≤ 101 + i) ∧ (∀ x ∈ R.2, 0 ≤ x) ∧ Rs m2 ao ls.length (sxv ls) 58 4 fam ∧ Own m2 bx (sxl (w, A, B, v)) 58 bx := by
          rw [← hR1]
          exact ⟨st, ((oRB.keep k1 nrb).keep k2 nrb), ⟨hrl.1, by show rl.length ≤ 101 + i; omega⟩, hrn, ((hlB.keep k1 nfm).keep k2 nfm), ((oX.keep k1 nbx).keep k2 nbx)⟩
        exact w_sub (E := [(3, .slice ao ls.length ls.length), (12, .pointer (some ⟨K.x, 0, none⟩)), (14, .pointer (some ⟨K.y, 0, none⟩)), (15, .slice (some ⟨R.1, 0, none⟩) R.2.length R.2.length), (17, .int .i64 i), (18, .pointer (some ⟨bx, 0, none⟩)), (21, .bool true)]) (meth m2 V1 R hJ) ⟨by rfl, by rfl, by rfl, by rw [← hR1]; rfl, by rfl, by rfl, by rfl, trivial⟩
      have d3 : ¬ wp = 3 := c
      clear c
      by_cases c : wp = 4
      · skip
        obtain ⟨m1, m2, V1, c1, c2, st, k1, k2⟩ := id F4
        have p2 := (oX.keep k1 nbx).load1 (off := 2) rfl
        simp [-Int.natCast_add, -w7_57, -BitVec.toNat_or, -BitVec.toNat_ofInt, -BitVec.toNat_and, len_slice u28, index_slice u28 sz9, load_of ld9, len_string u9, slice_str u9, buildSlice_of u28 bs9 rfl, append_s u28 sz9, alloc_of zo31, store_of sz31, load_agg ld31, bin_ptr u54, bin_bool u4 .neq (Or.inr rfl), bin_ptr u23, buildSlice_of u56 bs22 rfl, append_s u56 sz22, len_slice u52, index_slice u52 sz58, load_agg ld58, alloc_of zo58, store_of sz58, fieldAddr_of fa58_1, load_of ld3, len_slice u56, index_slice u56 sz22, load_of ld22, fieldAddr_of fa58_2, fieldAddr_of fa58_0, fieldAddr_of fa58_3, bin_bool u4 .eql (Or.inl rfl), fieldAddr_of fa61_1, load_of ld59, bin_str u9 .lss (Or.inr (Or.inl rfl)), bin_ptr u44, fieldAddr_of fa67_1, load_of ld56, fieldAddr_of fa61_5, load_of ld28, fieldAddr_of fa61_4, c, q2, c1, p2, c2, wB]
        obtain ⟨R, hR1⟩ : ∃ R : Nat × List Int, (ra, rl) = R := ⟨_, rfl⟩
        have hJ : St m2 K V1 ∧ Own m2 R.1 (words R.2) 22 rb ∧ (2 ≤ R.2.length ∧ R.2.length ≤ 101 + i) ∧ (∀ x ∈ R.2, 0 ≤ x) ∧ Rs m2 ao ls.length (sxv ls) 58 4 fam ∧ Own m2 bx (sxl (w, A, B, v)) 58 bx := by
          rw [← hR1]
          exact ⟨st, ((oRB.keep k1 nrb).keep k2 nrb), ⟨hrl.1, by show rl.length ≤ 101 + i; omega⟩, hrn, ((hlB.keep k1 nfm).keep k2 nfm), ((oX.keep k1 nbx).keep k2 nbx)⟩
        exact w_sub (E := [(3, .slice ao ls.length ls.length), (12, .pointer (some ⟨K.x, 0, none⟩)), (14, .pointer (some ⟨K.y, 0, none⟩)), (15, .slice (some ⟨R.1, 0, none⟩) R.2.length R.2.length), (17, .int .i64 i), (18, .pointer (some ⟨bx, 0, none⟩)), (21, .bool true)]) (meth m2 V1 R hJ) ⟨by rfl, by rfl, by rfl, by rw [← hR1]; rfl, by rfl, by rfl, by rfl, trivial⟩
      have d4 : ¬ wp = 4 := c
      clear c
      by_cases c : wp = 5
      · obtain ⟨m1, m2, V1, c1, c2, st, k1, k2⟩ := id F5
        simp [-Int.natCast_add, -w7_57, -BitVec.toNat_or, -BitVec.toNat_ofInt, -BitVec.toNat_and, len_slice u28, index_slice u28 sz9, load_of ld9, len_string u9, slice_str u9, buildSlice_of u28 bs9 rfl, append_s u28 sz9, alloc_of zo31, store_of sz31, load_agg ld31, bin_ptr u54, bin_bool u4 .neq (Or.inr rfl), bin_ptr u23, buildSlice_of u56 bs22 rfl, append_s u56 sz22, len_slice u52, index_slice u52 sz58, load_agg ld58, alloc_of zo58, store_of sz58, fieldAddr_of fa58_1, load_of ld3, len_slice u56, index_slice u56 sz22, load_of ld22, fieldAddr_of fa58_2, fieldAddr_of fa58_0, fieldAddr_of fa58_3, bin_bool u4 .eql (Or.inl rfl), fieldAddr_of fa61_1, load_of ld59, bin_str u9 .lss (Or.inr (Or.inl rfl)), bin_ptr u44, fieldAddr_of fa67_1, load_of ld56, fieldAddr_of fa61_5, load_of ld28, fieldAddr_of fa61_4, c, c1, c2]
        generalize hra : sappend _ _ _ _ _ _ = rr
        obtain ⟨m3, nb, nf2, rfl, oN, k3', hnf, _, hnf3⟩ := app_slz hra u56 ap22 (Sl.of ((oRB.keep k1 nrb).keep k2 nrb) (by simp [words])) (by omega) (by simp) (by simp [one_int]) (by omega) (by omega)
        have hnf4 := hnf3 (by simp)
        rw [hnf4] at oN
        simp at k3'
        have st3 := st.keepq hK k3' hF2 hF3 hF4
        simp [-Int.natCast_add, -w7_57, -BitVec.toNat_or, -BitVec.toNat_ofInt, -BitVec.toNat_and, len_slice u28, index_slice u28 sz9, load_of ld9, len_string u9, slice_str u9, buildSlice_of u28 bs9 rfl, append_s u28 sz9, alloc_of zo31, store_of sz31, load_agg ld31, bin_ptr u54, bin_bool u4 .neq (Or.inr rfl), bin_ptr u23, buildSlice_of u56 bs22 rfl, append_s u56 sz22, len_slice u52, index_slice u52 sz58, load_agg ld58, alloc_of zo58, store_of sz58, fieldAddr_of fa58_1, load_of ld3, len_slice u56, index_slice u56 sz22, load_of ld22, fieldAddr_of fa58_2, fieldAddr_of fa58_0, fieldAddr_of fa58_3, bin_bool u4 .eql (Or.inl rfl), fieldAddr_of fa61_1, load_of ld59, bin_str u9 .lss (Or.inr (Or.inl rfl)), bin_ptr u44, fieldAddr_of fa67_1, load_of ld56, fieldAddr_of fa61_5, load_of ld28, fieldAddr_of fa61_4]
        obtain ⟨R, hR1⟩ : ∃ R : Nat × List Int, (nb, rl ++ [catV V.ws K.room a b]) = R := ⟨_, rfl⟩
        have hJ : St m3 K V1 ∧ Own m3 R.1 (words R.2) 22 rb ∧ (2 ≤ R.2.length ∧ R.2.length ≤ 101 + i) ∧ (∀ x ∈ R.2, 0 ≤ x) ∧ Rs m3 ao ls.length (sxv ls) 58 4 fam ∧ Own m3 bx (sxl (w, A, B, v)) 58 bx := by
          rw [← hR1]
          exact ⟨st3, by simpa [words] using oN, ⟨by show 2 ≤ (rl ++ [catV V.ws K.room a b]).length; simp; omega, by show (rl ++ [catV V.ws K.room a b]).length ≤ 101 + i; simp; omega⟩, fun x hx => by rcases List.mem_append.1 hx with hx | hx; exact hrn x hx; simp only [List.mem_singleton] at hx; rw [hx]; exact catV_nn _ _ _ _, (((hlB.keep k1 nfm).keep k2 nfm).keep k3' (by simpa using hF5)), (((oX.keep k1 nbx).keep k2 nbx).keep k3' (by simp; omega))⟩
        exact w_sub (E := [(3, .slice ao ls.length ls.length), (12, .pointer (some ⟨K.x, 0, none⟩)), (14, .pointer (some ⟨K.y, 0, none⟩)), (15, .slice (some ⟨R.1, 0, none⟩) R.2.length R.2.length), (17, .int .i64 i), (18, .pointer (some ⟨bx, 0, none⟩)), (21, .bool true)]) (meth m3 V1 R hJ) ⟨by rfl, by rfl, by rfl, by rw [← hR1]; simp [lget], by rfl, by rfl, by rfl, trivial⟩
      have d5 : ¬ wp = 5 := c
      clear c
      by_cases c : wp = 6
      · obtain ⟨m1, m2, V1, c1, c2, st, k1, k2⟩ := id F5
        simp [-Int.natCast_add, -w7_57, -BitVec.toNat_or, -BitVec.toNat_ofInt, -BitVec.toNat_and, len_slice u28, index_slice u28 sz9, load_of ld9, len_string u9, slice_str u9, buildSlice_of u28 bs9 rfl, append_s u28 sz9, alloc_of zo31, store_of sz31, load_agg ld31, bin_ptr u54, bin_bool u4 .neq (Or.inr rfl), bin_ptr u23, buildSlice_of u56 bs22 rfl, append_s u56 sz22, len_slice u52, index_slice u52 sz58, load_agg ld58, alloc_of zo58, store_of sz58, fieldAddr_of fa58_1, load_of ld3, len_slice u56, index_slice u56 sz22, load_of ld22, fieldAddr_of fa58_2, fieldAddr_of fa58_0, fieldAddr_of fa58_3, bin_bool u4 .eql (Or.inl rfl), fieldAddr_of fa61_1, load_of ld59, bin_str u9 .lss (Or.inr (Or.inl rfl)), bin_ptr u44, fieldAddr_of fa67_1, load_of ld56, fieldAddr_of fa61_5, load_of ld28, fieldAddr_of fa61_4, c, c1, c2]
        generalize hra : sappend _ _ _ _ _ _ = rr
        obtain ⟨m3, nb, nf2, rfl, oN, k3', hnf, _, hnf3⟩ := app_slz hra u56 ap22 (Sl.of ((oRB.keep k1 nrb).keep k2 nrb) (by simp [words])) (by omega) (by simp) (by simp [one_int]) (by omega) (by omega)
        have hnf4 := hnf3 (by simp)
        rw [hnf4] at oN
        simp at k3'
        have st3 := st.keepq hK k3' hF2 hF3 hF4
        simp [-Int.natCast_add, -w7_57, -BitVec.toNat_or, -BitVec.toNat_ofInt, -BitVec.toNat_and, len_slice u28, index_slice u28 sz9, load_of ld9, len_string u9, slice_str u9, buildSlice_of u28 bs9 rfl, append_s u28 sz9, alloc_of zo31, store_of sz31, load_agg ld31, bin_ptr u54, bin_bool u4 .neq (Or.inr rfl), bin_ptr u23, buildSlice_of u56 bs22 rfl, append_s u56 sz22, len_slice u52, index_slice u52 sz58, load_agg ld58, alloc_of zo58, store_of sz58, fieldAddr_of fa58_1, load_of ld3, len_slice u56, index_slice u56 sz22, load_of ld22, fieldAddr_of fa58_2, fieldAddr_of fa58_0, fieldAddr_of fa58_3, bin_bool u4 .eql (Or.inl rfl), fieldAddr_of fa61_1, load_of ld59, bin_str u9 .lss (Or.inr (Or.inl rfl)), bin_ptr u44, fieldAddr_of fa67_1, load_of ld56, fieldAddr_of fa61_5, load_of ld28, fieldAddr_of fa61_4]
        obtain ⟨R, hR1⟩ : ∃ R : Nat × List Int, (nb, rl ++ [catV V.ws K.room a b]) = R := ⟨_, rfl⟩
        have hJ : St m3 K V1 ∧ Own m3 R.1 (words R.2) 22 rb ∧ (2 ≤ R.2.length ∧ R.2.length ≤ 101 + i) ∧ (∀ x ∈ R.2, 0 ≤ x) ∧ Rs m3 ao ls.length (sxv ls) 58 4 fam ∧ Own m3 bx (sxl (w, A, B, v)) 58 bx := by
          rw [← hR1]
          exact ⟨st3, by simpa [words] using oN, ⟨by show 2 ≤ (rl ++ [catV V.ws K.room a b]).length; simp; omega, by show (rl ++ [catV V.ws K.room a b]).length ≤ 101 + i; simp; omega⟩, fun x hx => by rcases List.mem_append.1 hx with hx | hx; exact hrn x hx; simp only [List.mem_singleton] at hx; rw [hx]; exact catV_nn _ _ _ _, (((hlB.keep k1 nfm).keep k2 nfm).keep k3' (by simpa using hF5)), (((oX.keep k1 nbx).keep k2 nbx).keep k3' (by simp; omega))⟩
        exact w_sub (E := [(3, .slice ao ls.length ls.length), (12, .pointer (some ⟨K.x, 0, none⟩)), (14, .pointer (some ⟨K.y, 0, none⟩)), (15, .slice (some ⟨R.1, 0, none⟩) R.2.length R.2.length), (17, .int .i64 i), (18, .pointer (some ⟨bx, 0, none⟩)), (21, .bool true)]) (meth m3 V1 R hJ) ⟨by rfl, by rfl, by rfl, by rw [← hR1]; simp [lget], by rfl, by rfl, by rfl, trivial⟩
      have d6 : ¬ wp = 6 := c
      clear c
      by_cases c : wp = 7
      · have hle := hS1.g.le
        have hrm := hK.room
        obtain ⟨_, m1, c1, rfl, k1⟩ := pequal_run hP hS1.p (by omega) hS1.g.wd ha0 hb0
        have s1 := hS1.keep0 hK k1
        obtain ⟨_, m2, c2, rfl, k2⟩ := rstr_run hR s1.r (by omega) s1.g.wd s1.g.zero ha0
        have s2 := s1.keep0 hK k2
        obtain ⟨_, m3, c3, rfl, k3⟩ := rstr_run hR s2.r (by omega) s2.g.wd s2.g.zero hb0
        have s3 := s2.keep0 hK k3
        obtain ⟨_, m4, c4, rfl, k4⟩ := pless_run hP s3.p (by omega) s3.g.wd ha0 hb0
        have s4 := s3.keep0 hK k4
        obtain ⟨_, m5, c5, rfl, k5⟩ := rstr_run hR s4.r (by omega) s4.g.wd s4.g.zero ha0
        have s5 := s4.keep0 hK k5
        obtain ⟨_, m6, c6, rfl, k6⟩ := rstr_run hR s5.r (by omega) s5.g.wd s5.g.zero hb0
        have s6 := s5.keep0 hK k6
        have y0 := hS1.r.own.load1 (off := 5) rfl
        have y1 := s1.r.own.load1 (off := 5) rfl
        have y2 := s2.r.own.load1 (off := 5) rfl
        have y3 := s3.r.own.load1 (off := 5) rfl
        have y4 := s4.r.own.load1 (off := 5) rfl
        have y5 := s5.r.own.load1 (off := 5) rfl
        have y6 := s6.r.own.load1 (off := 5) rfl
        have kk := ((((k1.trans k2).trans k3).trans k4).trans k5).trans k6
        simp [-Int.natCast_add, -w7_57, -BitVec.toNat_or, -BitVec.toNat_ofInt, -BitVec.toNat_and, len_slice u28, index_slice u28 sz9, load_of ld9, len_string u9, slice_str u9, buildSlice_of u28 bs9 rfl, append_s u28 sz9, alloc_of zo31, store_of sz31, load_agg ld31, bin_ptr u54, bin_bool u4 .neq (Or.inr rfl), bin_ptr u23, buildSlice_of u56 bs22 rfl, append_s u56 sz22, len_slice u52, index_slice u52 sz58, load_agg ld58, alloc_of zo58, store_of sz58, fieldAddr_of fa58_1, load_of ld3, len_slice u56, index_slice u56 sz22, load_of ld22, fieldAddr_of fa58_2, fieldAddr_of fa58_0, fieldAddr_of fa58_3, bin_bool u4 .eql (Or.inl rfl), fieldAddr_of fa61_1, load_of ld59, bin_str u9 .lss (Or.inr (Or.inl rfl)), bin_ptr u44, fieldAddr_of fa67_1, load_of ld56, fieldAddr_of fa61_5, load_of ld28, fieldAddr_of fa61_4, c, c1, c2, c3, c4, c5, c6, y0, y1, y2, y3, y4, y5, y6]
        obtain ⟨R, hR1⟩ : ∃ R : Nat × List Int, (ra, rl) = R := ⟨_, rfl⟩
        have hJ : St m6 K V ∧ Own m6 R.1 (words R.2) 22 rb ∧ (2 ≤ R.2.length ∧ R.2.length ≤ 101 + i) ∧ (∀ x ∈ R.2, 0 ≤ x) ∧ Rs m6 ao ls.length (sxv ls) 58 4 fam ∧ Own m6 bx (sxl (w, A, B, v)) 58 bx := by
          rw [← hR1]
          exact ⟨s6, oRB.keep kk (by simp), ⟨hrl.1, by show rl.length ≤ 101 + i; omega⟩, hrn, hlB.keep kk (by simp), oX.keep kk (by simp)⟩
        exact w_sub (E := [(3, .slice ao ls.length ls.length), (12, .pointer (some ⟨K.x, 0, none⟩)), (14, .pointer (some ⟨K.y, 0, none⟩)), (15, .slice (some ⟨R.1, 0, none⟩) R.2.length R.2.length), (17, .int .i64 i), (18, .pointer (some ⟨bx, 0, none⟩)), (21, .bool true)]) (meth m6 V R hJ) ⟨by rfl, by rfl, by rfl, by rw [← hR1]; rfl, by rfl, by rfl, by rfl, trivial⟩
      have d7 : ¬ wp = 7 := c
      clear c
      have d8 : wp = 8 := by omega
      obtain ⟨cb, chb, nb, tb', m1, m2, m3, r4, m4, r5, m5, r6, m6, c1, c2, c3, c4, c5, c6, c7, c8, c9, c10, s1, s2, s3, s6, kk⟩ := hS1.copy hP hR hK hWd hSt
      have y1 := s1.r.own.load1 (off := 5) rfl
      have y2 := s2.r.own.load1 (off := 5) rfl
      have y3 := s3.r.own.load1 (off := 5) rfl
      have z1 := s1.r.own.load1 (off := 9) rfl
      have z2 := s2.r.own.load1 (off := 9) rfl
      have z3 := s3.r.own.load1 (off := 9) rfl
      have t1 := s1.r.own.load1 (off := 8) rfl
      have t2 := s2.r.own.load1 (off := 8) rfl
      have t3 := s3.r.own.load1 (off := 8) rfl
      have w1 := s1.r.heap.h.load1 (off := 1) rfl
      have w2 := s2.r.heap.h.load1 (off := 1) rfl
      have w3 := s3.r.heap.h.load1 (off := 1) rfl
      subst d8
      simp [-Int.natCast_add, -w7_57, -BitVec.toNat_or, -BitVec.toNat_ofInt, -BitVec.toNat_and, len_slice u28, index_slice u28 sz9, load_of ld9, len_string u9, slice_str u9, buildSlice_of u28 bs9 rfl, append_s u28 sz9, alloc_of zo31, store_of sz31, load_agg ld31, bin_ptr u54, bin_bool u4 .neq (Or.inr rfl), bin_ptr u23, buildSlice_of u56 bs22 rfl, append_s u56 sz22, len_slice u52, index_slice u52 sz58, load_agg ld58, alloc_of zo58, store_of sz58, fieldAddr_of fa58_1, load_of ld3, len_slice u56, index_slice u56 sz22, load_of ld22, fieldAddr_of fa58_2, fieldAddr_of fa58_0, fieldAddr_of fa58_3, bin_bool u4 .eql (Or.inl rfl), fieldAddr_of fa61_1, load_of ld59, bin_str u9 .lss (Or.inr (Or.inl rfl)), bin_ptr u44, fieldAddr_of fa67_1, load_of ld56, fieldAddr_of fa61_5, load_of ld28, fieldAddr_of fa61_4, c1, c2, c3, c4, c5, c6, c7, c8, c9, c10, y1, y2, y3, z1, z2, z3, t1, t2, t3, w1, w2, w3]
      obtain ⟨R, hR1⟩ : ∃ R : Nat × List Int, (ra, rl) = R := ⟨_, rfl⟩
      have hJ : St m6 K V ∧ Own m6 R.1 (words R.2) 22 rb ∧ (2 ≤ R.2.length ∧ R.2.length ≤ 101 + i) ∧ (∀ x ∈ R.2, 0 ≤ x) ∧ Rs m6 ao ls.length (sxv ls) 58 4 fam ∧ Own m6 bx (sxl (w, A, B, v)) 58 bx := by
        rw [← hR1]
        exact ⟨s6, oRB.keep kk (by simp), ⟨hrl.1, by show rl.length ≤ 101 + i; omega⟩, hrn, hlB.keep kk (by simp), oX.keep kk (by simp)⟩
      exact w_sub (E := [(3, .slice ao ls.length ls.length), (12, .pointer (some ⟨K.x, 0, none⟩)), (14, .pointer (some ⟨K.y, 0, none⟩)), (15, .slice (some ⟨R.1, 0, none⟩) R.2.length R.2.length), (17, .int .i64 i), (18, .pointer (some ⟨bx, 0, none⟩)), (21, .bool true)]) (meth m6 V R hJ) ⟨by rfl, by rfl, by rfl, by rw [← hR1]; rfl, by rfl, by rfl, by rfl, trivial⟩
    rintro mJ V1 ⟨ra1, rl1⟩ ⟨st, oR1, hrl1, hrn1, hl1, oX1⟩
    dsimp only at oR1 hrl1 hrn1 ⊢
    have p1 := oX1.load1 (off := 1) rfl
    have t1 := st.r.own.load1 (off := 8) rfl
    have cp := plit_run hP st.p st.o.li (by have := hK.lits; omega) (k := A)
    have cr := rlit_run hR st.r st.o.li2 (by have := hK.lits; omega) (k := A)
    have ct := ptaken_run hP st.p
    simp [-Int.natCast_add, -BitVec.toNat_or, -BitVec.toNat_ofInt, -BitVec.toNat_and, len_slice u28, index_slice u28 sz9, load_of ld9, len_string u9, slice_str u9, buildSlice_of u28 bs9 rfl, append_s u28 sz9, alloc_of zo31, store_of sz31, load_agg ld31, bin_ptr u54, bin_bool u4 .neq (Or.inr rfl), bin_ptr u23, buildSlice_of u56 bs22 rfl, append_s u56 sz22, len_slice u52, index_slice u52 sz58, load_agg ld58, alloc_of zo58, store_of sz58, fieldAddr_of fa58_1, load_of ld3, len_slice u56, index_slice u56 sz22, load_of ld22, fieldAddr_of fa58_2, fieldAddr_of fa58_0, fieldAddr_of fa58_3, bin_bool u4 .eql (Or.inl rfl), fieldAddr_of fa61_1, load_of ld59, bin_str u9 .lss (Or.inr (Or.inl rfl)), bin_ptr u44, fieldAddr_of fa67_1, load_of ld56, fieldAddr_of fa61_5, load_of ld28, fieldAddr_of fa61_4, p1, t1, cp, cr, ct, wi]
    exact ih _ _ _ _ ⟨i + 1, V1, ra1, rl1, rfl, by omega, by omega, st, oR1, ⟨hrl1.1, by omega⟩, hrn1, hl1, rfl⟩ (by omega) ⟨by rfl, by rfl, by rfl, by rfl, by rfl, trivial⟩
  · clear ih
    have hle := h.g.le
    have hrm := hK.room
    have hll := h.l
    have hne : V.ws ≠ [] := by
      intro e
      have := h.g.pos
      rw [e] at this
      simp at this
    have d1 := pheap_run hP h.p
    obtain ⟨_, m2, c2, nb, nf, rfl, oN, hnf, k2⟩ := words_run hP.words h.p.heap hne (by omega)
    have h2 := h.keep0 hK k2
    have d2 := weq_run (m := m2) hWd (b := V.ws) ⟨by simp [words], Or.inr ⟨nb, rfl, oN.rdo⟩⟩ ⟨by simp [words], Or.inr ⟨V.vb, rfl, h2.r.heap.w.rdo⟩⟩ (by omega)
    obtain ⟨_, m3, c3, ⟨tb, rfl, tf, oT, htf⟩, k3⟩ := ptrace_run hP h2.p (by omega)
    have h3 := h2.keep0 hK k3
    have d3 := seq_run (m := m3) hSt (b := V.lines) ⟨by simp [strC], Or.inr ⟨tb, rfl, oT.rdo⟩⟩ h3.r.lines.rs (by omega)
    have d4 := pfull_run hP h3.p
    have d5 := rfull_run hR h3.r
    have y1 := h.r.own.load1 (off := 5) rfl
    have y2 := h2.r.own.load1 (off := 5) rfl
    have y3 := h3.r.own.load1 (off := 5) rfl
    have z1 := h.r.own.load1 (off := 9) rfl
    have z2 := h2.r.own.load1 (off := 9) rfl
    have z3 := h3.r.own.load1 (off := 9) rfl
    have w1 := h.r.heap.h.load1 (off := 1) rfl
    have w2 := h2.r.heap.h.load1 (off := 1) rfl
    have w3 := h3.r.heap.h.load1 (off := 1) rfl
    by_cases h1 : i < ls.length
    · have h2' : ¬ (i : Int) < 80 := by omega
      have i1 : (i : Int) < ls.length := by omega
      simp [-Int.natCast_add, -BitVec.toNat_or, -BitVec.toNat_ofInt, -BitVec.toNat_and, len_slice u28, index_slice u28 sz9, load_of ld9, len_string u9, slice_str u9, buildSlice_of u28 bs9 rfl, append_s u28 sz9, alloc_of zo31, store_of sz31, load_agg ld31, bin_ptr u54, bin_bool u4 .neq (Or.inr rfl), bin_ptr u23, buildSlice_of u56 bs22 rfl, append_s u56 sz22, len_slice u52, index_slice u52 sz58, load_agg ld58, alloc_of zo58, store_of sz58, fieldAddr_of fa58_1, load_of ld3, len_slice u56, index_slice u56 sz22, load_of ld22, fieldAddr_of fa58_2, fieldAddr_of fa58_0, fieldAddr_of fa58_3, bin_bool u4 .eql (Or.inl rfl), fieldAddr_of fa61_1, load_of ld59, bin_str u9 .lss (Or.inr (Or.inl rfl)), bin_ptr u44, fieldAddr_of fa67_1, load_of ld56, fieldAddr_of fa61_5, load_of ld28, fieldAddr_of fa61_4, h1, h2', i1, d1, c2, d2, c3, d3, d4, d5, y1, y2, y3, z1, z2, z3, w1, w2, w3]
    · have i1 : ¬ (i : Int) < ls.length := by omega
      simp [-Int.natCast_add, -BitVec.toNat_or, -BitVec.toNat_ofInt, -BitVec.toNat_and, len_slice u28, index_slice u28 sz9, load_of ld9, len_string u9, slice_str u9, buildSlice_of u28 bs9 rfl, append_s u28 sz9, alloc_of zo31, store_of sz31, load_agg ld31, bin_ptr u54, bin_bool u4 .neq (Or.inr rfl), bin_ptr u23, buildSlice_of u56 bs22 rfl, append_s u56 sz22, len_slice u52, index_slice u52 sz58, load_agg ld58, alloc_of zo58, store_of sz58, fieldAddr_of fa58_1, load_of ld3, len_slice u56, index_slice u56 sz22, load_of ld22, fieldAddr_of fa58_2, fieldAddr_of fa58_0, fieldAddr_of fa58_3, bin_bool u4 .eql (Or.inl rfl), fieldAddr_of fa61_1, load_of ld59, bin_str u9 .lss (Or.inr (Or.inl rfl)), bin_ptr u44, fieldAddr_of fa67_1, load_of ld56, fieldAddr_of fa61_5, load_of ld28, fieldAddr_of fa61_4, h1, i1, d1, c2, d2, c3, d3, d4, d5, y1, y2, y3, z1, z2, z3, w1, w2, w3]
end Go.Proofs.YtggbgelfgfmikaaDoor.base

