/-
  This text proves what 'All' of the document's chapter 3 does over the abstract run: 'allR'.
  Condition: nothing is known of their calls ahead ('S f = []').
-/
import Derived.Test.YtgomgdbapgibjaaDoorTokM
set_option maxRecDepth 100000
set_option linter.unusedSimpArgs false
set_option linter.unusedVariables false
namespace Go.Proofs.YtgomgdbapgibjaaDoor.base
open Go.Sh gen
variable {S : Sums} {m : Mem} {b f fo : Nat} {ao : Option Addr} {σ : St}
theorem fd_new {s : List UInt8} (cs : List Value) (hcs : cs = fcells (st0 s) none) : Fd (m.new cs 57) m.next m.next none (m.next + 1) (st0 s) := by
  subst hcs
  exact ⟨Own.new m _ _, Sl.nil _ _ _ _, by omega⟩
theorem goF_stop (d : Nat) {τ : St} (h : τ.bad ≠ 0) : goF d τ = τ := by
  cases d with
  | zero => rfl
  | succ d => simp only [goF]; rw [if_neg (fun x => h x.2)]
theorem res_bad {τ : St} (h : τ.bad ≠ 0) : τ.fin1.fin2.res = ([], τ.w, τ.bad) := by
  have h1 : τ.fin1 = τ := by unfold St.fin1; rw [if_neg (fun x => h x.1)]
  rw [h1]
  unfold St.fin2 St.res
  rw [if_neg h, if_neg h]
theorem put_bad (σ : St) (h0 : σ.bad = 0) (k : Int) (t : List UInt8) (n : Int) : ((σ.put k t n).bad = 0) ∨ ((σ.put k t n).bad = 6 ∧ (σ.put k t n).w = ⟨0, [], 0, σ.line, σ.col⟩) := by
  unfold St.put
  split
  · exact Or.inr ⟨rfl, rfl⟩
  · exact Or.inl h0
set_option maxHeartbeats 2000000 in
theorem allD_run (hS : Nr S) (hA : S 18 = []) (s : List UInt8) (hsz : s.length ≤ 9223372036854775807) :
    ∃ v m1, callw Tryd.prog TT S 18 [.string ⟨s.toArray⟩] m = some (v, m1) ∧ ∃ ao fo, v = .tuple #[.slice ao (allR s).1.length (allR s).1.length, .agg (allR s).2.1.cells.toArray, .int .i64 (allR s).2.2] ∧
      Sl m1 ao (allR s).1.length (outCells (allR s).1) 31 5 fo ∧ m.next ≤ fo ∧ Keeps m m1 [] := by
  obtain ⟨oz, kz, nz⟩ := new_own (m := m) (cs := zTok.cells) (e := 31) rfl
  refine fn_w 11 [13, 20, 24, 29, 50, 57, 79, 104, 114, 133, 150, 190, 198, 205] k18 hA rfl ?_
  simp only [zTok, Tok.cells] at oz kz nz
  by_cases hl : 16384 < s.length
  · have hl' : (16384 : Int) < s.length := by omega
    have hR : allR s = ([], ⟨0, [], 0, 1, 1⟩, 6) := by unfold allR; rw [if_pos hl]
    rw [hR]
    simp [-BitVec.toNat_or, -BitVec.toNat_ofInt, -BitVec.toNat_and, lres_agg ld31, alloc_of zo31, len_string u9, build_of bo31, store_of sz31, build_of bo57, box_of b57, fieldAddr_of fa57_3, load_of ld4, index_str u9, fieldAddr_of fa57_0, load_of ld29, len_slice u29, index_slice u29 sz31, load_agg ld31, fieldAddr_of fa57_1, load_of ld3, store_of sz3, fieldAddr_of fa57_2, slice_str u9, hl']
    generalize hr : storeRow _ _ _ = r
    obtain ⟨m1, rfl, o1, k1⟩ := store_own hr oz (by simp) (by simp [one_int, one_str])
    have l1 := o1.load (off := 0) 5 (by simp [over])
    simp [over, window] at l1
    simp [-BitVec.toNat_or, -BitVec.toNat_ofInt, -BitVec.toNat_and, lres_agg ld31, alloc_of zo31, len_string u9, build_of bo31, store_of sz31, build_of bo57, box_of b57, fieldAddr_of fa57_3, load_of ld4, index_str u9, fieldAddr_of fa57_0, load_of ld29, len_slice u29, index_slice u29 sz31, load_agg ld31, fieldAddr_of fa57_1, load_of ld3, store_of sz3, fieldAddr_of fa57_2, slice_str u9, l1]
    exact ⟨none, ⟨rfl, rfl⟩, m.next, Sl.nil _ _ _ _, Nat.le_refl _, kz.mono2 k1 (Nat.le_refl _)⟩
  · have hl' : ¬ (16384 : Int) < s.length := by omega
    have hR : allR s = (goF (s.length + 1) (st0 s)).fin1.fin2.res := by unfold allR; rw [if_neg hl]
    rw [hR]
    obtain ⟨mz, hmz⟩ : ∃ mz, m.new [Value.int .i64 0, .string ⟨#[]⟩, .int .i64 0, .int .i64 0, .int .i64 0] 31 = mz := ⟨_, rfl⟩
    have hmz' : m.new [Value.int .i64 0, .string ⟨([] : List UInt8).toArray⟩, .int .i64 0, .int .i64 0, .int .i64 0] 31 = mz := hmz
    rw [hmz'] at oz kz nz
    have hsc := fd_new (m := mz) (s := s) _ rfl
    simp only [st0, fcells, List.length_nil, Int.natCast_one, ne_eq, not_true_eq_false, decide_false] at hsc
    generalize hG : (goF (s.length + 1) (st0 s)).fin1.fin2.res = G
    simp [-BitVec.toNat_or, -BitVec.toNat_ofInt, -BitVec.toNat_and, lres_agg ld31, alloc_of zo31, len_string u9, build_of bo31, store_of sz31, build_of bo57, box_of b57, fieldAddr_of fa57_3, load_of ld4, index_str u9, fieldAddr_of fa57_0, load_of ld29, len_slice u29, index_slice u29 sz31, load_agg ld31, fieldAddr_of fa57_1, load_of ld3, store_of sz3, fieldAddr_of fa57_2, slice_str u9, hl', hmz]
    have hmn : m.next < mz.next := nz
    refine wsem_loop 11 [13, 20, 24, 29, 50, 57, 79, 104, 114, 133, 150, 190, 198, 205] (fun d E m2 => ∃ (σ : St) (ao : Option Addr) (fo : Nat), Fd m2 mz.next mz.next ao fo σ ∧ Bd σ ∧ σ.bad = 0 ∧ (goF d σ).fin1.fin2.res = G ∧ σ.s.length - σ.at_ < d ∧ σ.s = s ∧ E = [(0, .string ⟨s.toArray⟩), (2, .slice none 0 0), (3, .pointer (some ⟨m.next, 0, none⟩)), (4, .int .i64 0), (5, .pointer (some ⟨mz.next, 0, none⟩)), (6, .int .i64 σ.at_)] ∧
      Own m2 m.next [.int .i64 0, .string ⟨#[]⟩, .int .i64 0, .int .i64 0, .int .i64 0] 31 m.next ∧ mz.next < fo ∧ mz.next < m2.next ∧ Keeps m m2 []) (s.length + 1) ⟨_, ⟨st0 s, none, mz.next + 1, hsc, ⟨by simp [st0]; omega, by simp [st0], by simp [st0], by simp [st0], by simp [st0]⟩, rfl, hG, by simp [st0], rfl, rfl, oz.new_other _ _, by omega, by simp [Mem.new], kz.trans (keeps_new _ _ _ _)⟩, ⟨rfl, rfl, rfl, rfl, rfl, rfl, trivial⟩⟩ ?_
    rintro d E m2 ih ⟨σ, ao, fo, h2, hb, hb0, hg, hd, hss, rfl, oz2, hfo, hmm, k2⟩
    have l32 := h2.l3
    have l02 := h2.l0
    have l12 := h2.l1
    have l22 := h2.l2
    have hbs := hb.s
    have hba := hb.a
    have hbl := hb.l
    have hbc := hb.c
    rw [hb0] at l32
    simp only [ne_eq, not_true_eq_false, decide_false] at l32
    by_cases hlt : σ.at_ < σ.s.length
    · have e1 : (σ.at_ : Int) < s.length := by rw [← hss]; omega
      have hlt' : σ.at_ < s.length := by rw [← hss]; omega
      have em : (σ.at_ : Int) ≤ 9223372036854775807 := by omega
      obtain ⟨d', rfl⟩ : ∃ d', d = d' + 1 := ⟨d - 1, by omega⟩
      have hgs : (goF d' σ.step).fin1.fin2.res = G := by
        simp only [goF] at hg
        rw [if_pos ⟨hlt, hb0⟩] at hg
        exact hg
      obtain ⟨b3, p3, s3⟩ := step_ok hb hlt hb0
      have hcq : σ.s.drop σ.at_ = s[σ.at_] :: s.drop (σ.at_ + 1) := by rw [hss]; exact List.drop_eq_getElem_cons hlt'
      have hcq' : s.drop σ.at_ = s[σ.at_] :: s.drop (σ.at_ + 1) := List.drop_eq_getElem_cons hlt'
      have w1 : IntKind.i64.wrap ((σ.at_ : Int) + 1) = ((σ.at_ + 1 : Nat) : Int) := by rw [wrap_i64 (by omega) (by omega)]; omega
      have wl : IntKind.i64.wrap ((σ.line : Int) + 1) = ((σ.line + 1 : Nat) : Int) := by rw [wrap_i64 (by omega) (by omega)]; omega
      have wc : IntKind.i64.wrap ((σ.col : Int) + 1) = ((σ.col + 1 : Nat) : Int) := by rw [wrap_i64 (by omega) (by omega)]; omega
      by_cases c10 : (s[σ.at_]).toNat = 10
      · have c10' : ((s[σ.at_]).toNat : Int) = 10 := by omega
        have hstep : σ.step = (if endsB σ.out = true then σ.put 1 [59] 0 else σ).nl := by simp only [St.step, hcq, c10, if_true]
        by_cases hn : σ.out.length = 0
        · have hnil : σ.out = [] := List.length_eq_zero_iff.1 hn
          have hE : endsB σ.out = false := by rw [hnil]; rfl
          rw [hstep, hE] at hgs b3 p3 s3
          simp only [Bool.false_eq_true, if_false] at hgs b3 p3 s3
          have hn' : ¬ ((0 : Int) < σ.out.length) := by omega
          have hbad := hb0
          have hli : σ.line = σ.line := rfl
          have hco : σ.col = σ.col := rfl
          have hsi : σ.s = σ.s := rfl
          have hai : σ.at_ = σ.at_ := rfl
          have q3 := (h2).l3
          have q1 := (h2).l1
          have q2 := (h2).l2
          rw [hbad] at q3
          rw [hli] at q1
          rw [hco] at q2
          simp only [ne_eq, not_true_eq_false, decide_false] at q3
          simp [-Int.natCast_add, -BitVec.toNat_or, -BitVec.toNat_ofInt, -BitVec.toNat_and, lres_agg ld31, alloc_of zo31, len_string u9, build_of bo31, store_of sz31, build_of bo57, box_of b57, fieldAddr_of fa57_3, load_of ld4, index_str u9, fieldAddr_of fa57_0, load_of ld29, len_slice u29, index_slice u29 sz31, load_agg ld31, fieldAddr_of fa57_1, load_of ld3, store_of sz3, fieldAddr_of fa57_2, slice_str u9, e1, hlt', em, l32, c10', l02, hn', hn, q3, q1, q2, wl, w1]
          generalize hr7 : storeRow _ _ _ = r7
          obtain ⟨m7, rfl, o7, k7⟩ := store_own hr7 (h2).h (by simp [fcells]) (by simp [one_int])
          simp [-Int.natCast_add, -BitVec.toNat_or, -BitVec.toNat_ofInt, -BitVec.toNat_and, lres_agg ld31, alloc_of zo31, len_string u9, build_of bo31, store_of sz31, build_of bo57, box_of b57, fieldAddr_of fa57_3, load_of ld4, index_str u9, fieldAddr_of fa57_0, load_of ld29, len_slice u29, index_slice u29 sz31, load_agg ld31, fieldAddr_of fa57_1, load_of ld3, store_of sz3, fieldAddr_of fa57_2, slice_str u9, w1]
          generalize hr8 : storeRow _ _ _ = r8
          obtain ⟨m8, rfl, o8, k8⟩ := store_own hr8 o7 (by simp [fcells, over]) (by simp [one_int])
          simp [-Int.natCast_add, -BitVec.toNat_or, -BitVec.toNat_ofInt, -BitVec.toNat_and, lres_agg ld31, alloc_of zo31, len_string u9, build_of bo31, store_of sz31, build_of bo57, box_of b57, fieldAddr_of fa57_3, load_of ld4, index_str u9, fieldAddr_of fa57_0, load_of ld29, len_slice u29, index_slice u29 sz31, load_agg ld31, fieldAddr_of fa57_1, load_of ld3, store_of sz3, fieldAddr_of fa57_2, slice_str u9, w1]
          have k78 := k7.trans k8
          exact ih _ _ _ _ ⟨(σ).nl, ao, fo, ⟨by simpa [-Int.natCast_add, fcells, St.nl, over, hbad, hli, hco] using o8, (h2).o.keep k78 (by simpa using (h2).ne.symm), (h2).ne⟩, b3, by simp only [St.nl]; exact hbad, hgs, by simp only [St.nl, hsi, hai]; omega, by simp only [St.nl, hsi]; exact hss, rfl, (oz2).keep k78 (by simp; omega), by omega, by have := k78.1; omega, (k2).fresh k78 (by simp; omega)⟩ (by omega) ⟨rfl, rfl, rfl, rfl, rfl, by simp [-Int.natCast_add, lget, St.nl, hai], trivial⟩
        · have hn' : (0 : Int) < σ.out.length := by omega
          have hn2 : 0 < σ.out.length := by omega
          have hne : σ.out ≠ [] := by intro e; rw [e] at hn; simp at hn
          obtain ⟨x, hx⟩ : ∃ x, σ.out.getLast? = some x := ⟨σ.out.getLast hne, List.getLast?_eq_some_getLast hne⟩
          obtain ⟨ob, rfl, hob⟩ := h2.o.own hn
          have hlx : loadRow m2 ⟨ob, (σ.out.length - 1) * 5, none⟩ 5 = some x.cells := by
            rw [hob.load 5 (by rw [← outCells_len]; omega), last_cells hx]
          have hbo := hb.o
          have wm1 : IntKind.i64.wrap ((σ.out.length : Int) - 1) = ((σ.out.length - 1 : Nat) : Int) := by rw [wrap_i64 (by omega) (by omega)]; omega
          have hm1 : ((σ.out.length - 1 : Nat) : Int) ≤ 9223372036854775807 := by omega
          have hltl : σ.out.length - 1 < σ.out.length := by omega
          have hEx : endsB σ.out = endsT x := by simp [endsB, hx]
          obtain ⟨v3, m3, hends, rfl, k3⟩ := rends_run (m := m2) hS.ends x
          have h3 := h2.keep k3 (by simp) (by simp)
          have oz3 := oz2.keep k3 (by simp)
          have l03 := h3.l0
          have hlx3 : loadRow m3 ⟨ob, (σ.out.length - 1) * 5, none⟩ 5 = some x.cells := by
            rw [(hob.keep k3 (by simp)).load 5 (by rw [← outCells_len]; omega), last_cells hx]
          have k31 := k3.1
          have kk3 : Keeps m m3 [] := k2.trans k3
          simp only [Tok.cells] at hlx hlx3 hends
          rw [hEx] at hstep
          cases hE : endsT x with
          | false =>
            rw [hstep, hE] at hgs b3 p3 s3
            rw [hE] at hends
            simp only [Bool.false_eq_true, if_false] at hgs b3 p3 s3
            have hbad := hb0
            have hli : σ.line = σ.line := rfl
            have hco : σ.col = σ.col := rfl
            have hsi : σ.s = σ.s := rfl
            have hai : σ.at_ = σ.at_ := rfl
            have q3 := (h3).l3
            have q1 := (h3).l1
            have q2 := (h3).l2
            rw [hbad] at q3
            rw [hli] at q1
            rw [hco] at q2
            simp only [ne_eq, not_true_eq_false, decide_false] at q3
            simp [-Int.natCast_add, -BitVec.toNat_or, -BitVec.toNat_ofInt, -BitVec.toNat_and, lres_agg ld31, alloc_of zo31, len_string u9, build_of bo31, store_of sz31, build_of bo57, box_of b57, fieldAddr_of fa57_3, load_of ld4, index_str u9, fieldAddr_of fa57_0, load_of ld29, len_slice u29, index_slice u29 sz31, load_agg ld31, fieldAddr_of fa57_1, load_of ld3, store_of sz3, fieldAddr_of fa57_2, slice_str u9, e1, hlt', em, l32, c10', l02, l03, hn', hn2, hne, hn, wm1, hm1, hltl, hlx, hlx3, hends, q3, q1, q2, wl, w1]
            generalize hr7 : storeRow _ _ _ = r7
            obtain ⟨m7, rfl, o7, k7⟩ := store_own hr7 (h3).h (by simp [fcells]) (by simp [one_int])
            simp [-Int.natCast_add, -BitVec.toNat_or, -BitVec.toNat_ofInt, -BitVec.toNat_and, lres_agg ld31, alloc_of zo31, len_string u9, build_of bo31, store_of sz31, build_of bo57, box_of b57, fieldAddr_of fa57_3, load_of ld4, index_str u9, fieldAddr_of fa57_0, load_of ld29, len_slice u29, index_slice u29 sz31, load_agg ld31, fieldAddr_of fa57_1, load_of ld3, store_of sz3, fieldAddr_of fa57_2, slice_str u9, w1]
            generalize hr8 : storeRow _ _ _ = r8
            obtain ⟨m8, rfl, o8, k8⟩ := store_own hr8 o7 (by simp [fcells, over]) (by simp [one_int])
            simp [-Int.natCast_add, -BitVec.toNat_or, -BitVec.toNat_ofInt, -BitVec.toNat_and, lres_agg ld31, alloc_of zo31, len_string u9, build_of bo31, store_of sz31, build_of bo57, box_of b57, fieldAddr_of fa57_3, load_of ld4, index_str u9, fieldAddr_of fa57_0, load_of ld29, len_slice u29, index_slice u29 sz31, load_agg ld31, fieldAddr_of fa57_1, load_of ld3, store_of sz3, fieldAddr_of fa57_2, slice_str u9, w1]
            have k78 := k7.trans k8
            exact ih _ _ _ _ ⟨(σ).nl, _, fo, ⟨by simpa [-Int.natCast_add, fcells, St.nl, over, hbad, hli, hco] using o8, (h3).o.keep k78 (by simpa using (h3).ne.symm), (h3).ne⟩, b3, by simp only [St.nl]; exact hbad, hgs, by simp only [St.nl, hsi, hai]; omega, by simp only [St.nl, hsi]; exact hss, rfl, (oz3).keep k78 (by simp; omega), by omega, by have := k78.1; omega, (kk3).fresh k78 (by simp; omega)⟩ (by omega) ⟨rfl, rfl, rfl, rfl, rfl, by simp [-Int.natCast_add, lget, St.nl, hai], trivial⟩
          | true =>
            rw [hstep, hE] at hgs b3 p3 s3
            rw [hE] at hends
            simp only [if_true] at hgs b3 p3 s3
            obtain ⟨v6, m6, hadd, rfl, ao6, fo6, h6, k6, hfo6⟩ := add_run hS.add h3 hb hb0 1 [59] 0 0 0
            have oz6 := oz3.keep k6 (by simp; omega)
            have kk6 : Keeps m m6 [] := kk3.fresh k6 (by simp; omega)
            have k61 := k6.1
            obtain ⟨hsi, hai, hli, hco⟩ := put_same σ 1 [59] 0
            rcases put_bad σ hb0 1 [59] 0 with hbad | ⟨hbad, hw⟩
            · have q3 := (h6).l3
              have q1 := (h6).l1
              have q2 := (h6).l2
              rw [hbad] at q3
              rw [hli] at q1
              rw [hco] at q2
              simp only [ne_eq, not_true_eq_false, decide_false] at q3
              simp [-Int.natCast_add, -BitVec.toNat_or, -BitVec.toNat_ofInt, -BitVec.toNat_and, lres_agg ld31, alloc_of zo31, len_string u9, build_of bo31, store_of sz31, build_of bo57, box_of b57, fieldAddr_of fa57_3, load_of ld4, index_str u9, fieldAddr_of fa57_0, load_of ld29, len_slice u29, index_slice u29 sz31, load_agg ld31, fieldAddr_of fa57_1, load_of ld3, store_of sz3, fieldAddr_of fa57_2, slice_str u9, e1, hlt', em, l32, c10', l02, l03, hn', hn2, hne, hn, wm1, hm1, hltl, hlx, hlx3, hends, hadd, q3, q1, q2, wl, w1]
              generalize hr7 : storeRow _ _ _ = r7
              obtain ⟨m7, rfl, o7, k7⟩ := store_own hr7 (h6).h (by simp [fcells]) (by simp [one_int])
              simp [-Int.natCast_add, -BitVec.toNat_or, -BitVec.toNat_ofInt, -BitVec.toNat_and, lres_agg ld31, alloc_of zo31, len_string u9, build_of bo31, store_of sz31, build_of bo57, box_of b57, fieldAddr_of fa57_3, load_of ld4, index_str u9, fieldAddr_of fa57_0, load_of ld29, len_slice u29, index_slice u29 sz31, load_agg ld31, fieldAddr_of fa57_1, load_of ld3, store_of sz3, fieldAddr_of fa57_2, slice_str u9, w1]
              generalize hr8 : storeRow _ _ _ = r8
              obtain ⟨m8, rfl, o8, k8⟩ := store_own hr8 o7 (by simp [fcells, over]) (by simp [one_int])
              simp [-Int.natCast_add, -BitVec.toNat_or, -BitVec.toNat_ofInt, -BitVec.toNat_and, lres_agg ld31, alloc_of zo31, len_string u9, build_of bo31, store_of sz31, build_of bo57, box_of b57, fieldAddr_of fa57_3, load_of ld4, index_str u9, fieldAddr_of fa57_0, load_of ld29, len_slice u29, index_slice u29 sz31, load_agg ld31, fieldAddr_of fa57_1, load_of ld3, store_of sz3, fieldAddr_of fa57_2, slice_str u9, w1]
              have k78 := k7.trans k8
              exact ih _ _ _ _ ⟨(σ.put 1 [59] 0).nl, _, fo6, ⟨by simpa [-Int.natCast_add, fcells, St.nl, over, hbad, hli, hco] using o8, (h6).o.keep k78 (by simpa using (h6).ne.symm), (h6).ne⟩, b3, by simp only [St.nl]; exact hbad, hgs, by simp only [St.nl, hsi, hai]; omega, by simp only [St.nl, hsi]; exact hss, rfl, (oz6).keep k78 (by simp; omega), by omega, by have := k78.1; omega, (kk6).fresh k78 (by simp; omega)⟩ (by omega) ⟨rfl, rfl, rfl, rfl, rfl, by simp [-Int.natCast_add, lget, St.nl, hai], trivial⟩
              
            · have hbs : ((σ.put 1 [59] 0).nl).bad = 6 := hbad
              rw [goF_stop d' (by rw [hbs]; omega), res_bad (by rw [hbs]; omega), hbs] at hgs
              have hws : ((σ.put 1 [59] 0).nl).w = ⟨0, [], 0, σ.line, σ.col⟩ := hw
              rw [hws] at hgs
              subst hgs
              have q3 := (h6).l3
              have q1 := (h6).l1
              have q2 := (h6).l2
              rw [hbad] at q3
              rw [hli] at q1
              rw [hco] at q2
              simp only [ne_eq, Int.reduceEq, not_false_eq_true, decide_true] at q3
              simp [-Int.natCast_add, -BitVec.toNat_or, -BitVec.toNat_ofInt, -BitVec.toNat_and, lres_agg ld31, alloc_of zo31, len_string u9, build_of bo31, store_of sz31, build_of bo57, box_of b57, fieldAddr_of fa57_3, load_of ld4, index_str u9, fieldAddr_of fa57_0, load_of ld29, len_slice u29, index_slice u29 sz31, load_agg ld31, fieldAddr_of fa57_1, load_of ld3, store_of sz3, fieldAddr_of fa57_2, slice_str u9, e1, hlt', em, l32, c10', l02, l03, hn', hn2, hne, hn, wm1, hm1, hltl, hlx, hlx3, hends, hadd, q3, q1, q2]
              generalize hrr : storeRow _ _ _ = rr
              obtain ⟨mr, rfl, orr, kr⟩ := store_own hrr oz6 (by simp) (by simp [one_int, one_str])
              have lr := orr.load (off := 0) 5 (by simp [over])
              have qr := (h6).keep kr (by simp; omega) (by simp; omega)
              have q1r := qr.l1
              have q2r := qr.l2
              rw [hli] at q1r
              rw [hco] at q2r
              simp [over, window] at lr
              simp [-Int.natCast_add, -BitVec.toNat_or, -BitVec.toNat_ofInt, -BitVec.toNat_and, lres_agg ld31, alloc_of zo31, len_string u9, build_of bo31, store_of sz31, build_of bo57, box_of b57, fieldAddr_of fa57_3, load_of ld4, index_str u9, fieldAddr_of fa57_0, load_of ld29, len_slice u29, index_slice u29 sz31, load_agg ld31, fieldAddr_of fa57_1, load_of ld3, store_of sz3, fieldAddr_of fa57_2, slice_str u9, q3, q1, q2, q1r, q2r, lr]
              exact ⟨none, by simp [Tok.cells], m.next, Sl.nil _ _ _ _, Nat.le_refl _, (kk6).fresh kr (by simp)⟩
      · have c10' : ¬ ((s[σ.at_]).toNat : Int) = 10 := by omega
        by_cases cb : (s[σ.at_]).toNat = 32 ∨ (s[σ.at_]).toNat = 9 ∨ (s[σ.at_]).toNat = 13
        · have hstep : σ.step = σ.skip 1 := by simp only [St.step, hcq, c10, cb, if_true, if_false]
          rw [hstep] at hgs b3 p3 s3
          by_cases b1 : (s[σ.at_]).toNat = 32
          · have b1' : ((s[σ.at_]).toNat : Int) = 32 := by omega
            simp [-Int.natCast_add, -BitVec.toNat_or, -BitVec.toNat_ofInt, -BitVec.toNat_and, lres_agg ld31, alloc_of zo31, len_string u9, build_of bo31, store_of sz31, build_of bo57, box_of b57, fieldAddr_of fa57_3, load_of ld4, index_str u9, fieldAddr_of fa57_0, load_of ld29, len_slice u29, index_slice u29 sz31, load_agg ld31, fieldAddr_of fa57_1, load_of ld3, store_of sz3, fieldAddr_of fa57_2, slice_str u9, e1, hlt', em, l32, c10', b1', w1, l22, wc]
            generalize hr1 : storeRow _ _ _ = r1
            obtain ⟨m3, rfl, o3, k3⟩ := store_own hr1 h2.h (by simp [fcells]) (by simp [one_int])
            simp [-Int.natCast_add, -BitVec.toNat_or, -BitVec.toNat_ofInt, -BitVec.toNat_and, lres_agg ld31, alloc_of zo31, len_string u9, build_of bo31, store_of sz31, build_of bo57, box_of b57, fieldAddr_of fa57_3, load_of ld4, index_str u9, fieldAddr_of fa57_0, load_of ld29, len_slice u29, index_slice u29 sz31, load_agg ld31, fieldAddr_of fa57_1, load_of ld3, store_of sz3, fieldAddr_of fa57_2, slice_str u9]
            exact ih _ _ _ _ ⟨σ.skip 1, ao, fo, ⟨by simpa [fcells, St.skip, over, hb0] using o3, h2.o.keep k3 (by simpa using h2.ne.symm), h2.ne⟩, b3, hb0, hgs, by simp only [St.skip]; omega, hss, rfl, oz2.keep k3 (by simp; omega), hfo, by have := k3.1; omega, k2.fresh k3 (by simp; omega)⟩ (by omega) ⟨rfl, rfl, rfl, rfl, rfl, by simp [lget, St.skip], trivial⟩
          · have b1' : ¬ ((s[σ.at_]).toNat : Int) = 32 := by omega
            by_cases b2 : (s[σ.at_]).toNat = 9
            · have b2' : ((s[σ.at_]).toNat : Int) = 9 := by omega
              simp [-Int.natCast_add, -BitVec.toNat_or, -BitVec.toNat_ofInt, -BitVec.toNat_and, lres_agg ld31, alloc_of zo31, len_string u9, build_of bo31, store_of sz31, build_of bo57, box_of b57, fieldAddr_of fa57_3, load_of ld4, index_str u9, fieldAddr_of fa57_0, load_of ld29, len_slice u29, index_slice u29 sz31, load_agg ld31, fieldAddr_of fa57_1, load_of ld3, store_of sz3, fieldAddr_of fa57_2, slice_str u9, e1, hlt', em, l32, c10', b1', b2', w1, l22, wc]
              generalize hr1 : storeRow _ _ _ = r1
              obtain ⟨m3, rfl, o3, k3⟩ := store_own hr1 h2.h (by simp [fcells]) (by simp [one_int])
              simp [-Int.natCast_add, -BitVec.toNat_or, -BitVec.toNat_ofInt, -BitVec.toNat_and, lres_agg ld31, alloc_of zo31, len_string u9, build_of bo31, store_of sz31, build_of bo57, box_of b57, fieldAddr_of fa57_3, load_of ld4, index_str u9, fieldAddr_of fa57_0, load_of ld29, len_slice u29, index_slice u29 sz31, load_agg ld31, fieldAddr_of fa57_1, load_of ld3, store_of sz3, fieldAddr_of fa57_2, slice_str u9]
              exact ih _ _ _ _ ⟨σ.skip 1, ao, fo, ⟨by simpa [fcells, St.skip, over, hb0] using o3, h2.o.keep k3 (by simpa using h2.ne.symm), h2.ne⟩, b3, hb0, hgs, by simp only [St.skip]; omega, hss, rfl, oz2.keep k3 (by simp; omega), hfo, by have := k3.1; omega, k2.fresh k3 (by simp; omega)⟩ (by omega) ⟨rfl, rfl, rfl, rfl, rfl, by simp [lget, St.skip], trivial⟩
            · have b2' : ¬ ((s[σ.at_]).toNat : Int) = 9 := by omega
              have b3' : ((s[σ.at_]).toNat : Int) = 13 := by omega
              simp [-Int.natCast_add, -BitVec.toNat_or, -BitVec.toNat_ofInt, -BitVec.toNat_and, lres_agg ld31, alloc_of zo31, len_string u9, build_of bo31, store_of sz31, build_of bo57, box_of b57, fieldAddr_of fa57_3, load_of ld4, index_str u9, fieldAddr_of fa57_0, load_of ld29, len_slice u29, index_slice u29 sz31, load_agg ld31, fieldAddr_of fa57_1, load_of ld3, store_of sz3, fieldAddr_of fa57_2, slice_str u9, e1, hlt', em, l32, c10', b1', b2', b3', w1, l22, wc]
              generalize hr1 : storeRow _ _ _ = r1
              obtain ⟨m3, rfl, o3, k3⟩ := store_own hr1 h2.h (by simp [fcells]) (by simp [one_int])
              simp [-Int.natCast_add, -BitVec.toNat_or, -BitVec.toNat_ofInt, -BitVec.toNat_and, lres_agg ld31, alloc_of zo31, len_string u9, build_of bo31, store_of sz31, build_of bo57, box_of b57, fieldAddr_of fa57_3, load_of ld4, index_str u9, fieldAddr_of fa57_0, load_of ld29, len_slice u29, index_slice u29 sz31, load_agg ld31, fieldAddr_of fa57_1, load_of ld3, store_of sz3, fieldAddr_of fa57_2, slice_str u9]
              exact ih _ _ _ _ ⟨σ.skip 1, ao, fo, ⟨by simpa [fcells, St.skip, over, hb0] using o3, h2.o.keep k3 (by simpa using h2.ne.symm), h2.ne⟩, b3, hb0, hgs, by simp only [St.skip]; omega, hss, rfl, oz2.keep k3 (by simp; omega), hfo, by have := k3.1; omega, k2.fresh k3 (by simp; omega)⟩ (by omega) ⟨rfl, rfl, rfl, rfl, rfl, by simp [lget, St.skip], trivial⟩
        · have b1' : ¬ ((s[σ.at_]).toNat : Int) = 32 := by omega
          have b2' : ¬ ((s[σ.at_]).toNat : Int) = 9 := by omega
          have b3' : ¬ ((s[σ.at_]).toNat : Int) = 13 := by omega
          by_cases hcm : isCmt (s[σ.at_] :: s.drop (σ.at_ + 1)) = true
          · have hstep : σ.step = σ.skip (cmt (s.drop σ.at_)) := by simp only [St.step, hcq, c10, cb, hcm, if_true, if_false, hcq']
            rw [hstep] at hgs b3 p3 s3
            have hN := tw_le (fun c => decide (c.toNat ≠ 10)) (s.drop σ.at_)
            have hN' : cmt (s.drop σ.at_) ≤ s.length - σ.at_ := by rw [List.length_drop] at hN; exact hN
            have hl2 : σ.at_ + 1 < s.length := by
              apply Classical.byContradiction
              intro hx
              rw [List.drop_eq_nil_of_le (by omega)] at hcm
              simp [isCmt] at hcm
            have c47 : ((s[σ.at_]).toNat : Int) = 47 := by
              rw [List.drop_eq_getElem_cons hl2] at hcm
              simp only [isCmt, Bool.and_eq_true, decide_eq_true_eq] at hcm
              omega
            have e47 : ((s[σ.at_ + 1]).toNat : Int) = 47 := by
              rw [List.drop_eq_getElem_cons hl2] at hcm
              simp only [isCmt, Bool.and_eq_true, decide_eq_true_eq] at hcm
              omega
            have e2 : ((σ.at_ + 1 : Nat) : Int) < s.length := by omega
            have em2 : ((σ.at_ + 1 : Nat) : Int) ≤ 9223372036854775807 := by omega
            have hNe : 1 ≤ cmt (s.drop σ.at_) := by
              have := p3 hb0
              simp only [St.skip] at this
              omega
            simp [-Int.natCast_add, -BitVec.toNat_or, -BitVec.toNat_ofInt, -BitVec.toNat_and, lres_agg ld31, alloc_of zo31, len_string u9, build_of bo31, store_of sz31, build_of bo57, box_of b57, fieldAddr_of fa57_3, load_of ld4, index_str u9, fieldAddr_of fa57_0, load_of ld29, len_slice u29, index_slice u29 sz31, load_agg ld31, fieldAddr_of fa57_1, load_of ld3, store_of sz3, fieldAddr_of fa57_2, slice_str u9, e1, hlt', em, l32, c10', b1', b2', b3', c47, e47, e2, em2, hl2, w1]
            refine wsem_loop 11 [13, 20, 24, 29, 50, 57, 79, 104, 114, 133, 150, 190, 198, 205] (fun dd E m3 => ∃ j : Nat, cmt (s.drop σ.at_) - j = dd ∧ j ≤ cmt (s.drop σ.at_) ∧ Fd m3 mz.next mz.next ao fo (σ.skip j) ∧ E = [(0, .string ⟨s.toArray⟩), (2, .slice none 0 0), (3, .pointer (some ⟨m.next, 0, none⟩)), (4, .int .i64 0), (5, .pointer (some ⟨mz.next, 0, none⟩)), (6, .int .i64 (σ.at_ + j : Nat))] ∧ Keeps m2 m3 [mz.next]) _ ⟨_, ⟨0, rfl, by omega, h2, rfl, .refl _ _⟩, ⟨rfl, rfl, rfl, rfl, rfl, by simp [lget], trivial⟩⟩ ?_
            rintro dd E m3 ih2 ⟨j, hdj, hj, h3, rfl, k3⟩
            have l23 := h3.l2
            simp only [St.skip] at l23
            by_cases hjl : j < cmt (s.drop σ.at_)
            · obtain ⟨hj1, hp⟩ := tw_lt hjl
              have hj2 : σ.at_ + j < s.length := by simp at hj1; omega
              have hget : (s.drop σ.at_)[j] = s[σ.at_ + j] := by simp
              rw [hget] at hp
              have f1 : ((σ.at_ + j : Nat) : Int) < s.length := by omega
              have fm : ((σ.at_ + j : Nat) : Int) ≤ 9223372036854775807 := by omega
              have hne : ¬ ((s[σ.at_ + j]).toNat : Int) = 10 := by simp at hp; omega
              have w2 : IntKind.i64.wrap (((σ.at_ + j : Nat) : Int) + 1) = ((σ.at_ + (j + 1) : Nat) : Int) := by rw [wrap_i64 (by omega) (by omega)]; omega
              have w3 : IntKind.i64.wrap (((σ.col + j : Nat) : Int) + 1) = ((σ.col + (j + 1) : Nat) : Int) := by rw [wrap_i64 (by omega) (by omega)]; omega
              simp [-Int.natCast_add, -BitVec.toNat_or, -BitVec.toNat_ofInt, -BitVec.toNat_and, lres_agg ld31, alloc_of zo31, len_string u9, build_of bo31, store_of sz31, build_of bo57, box_of b57, fieldAddr_of fa57_3, load_of ld4, index_str u9, fieldAddr_of fa57_0, load_of ld29, len_slice u29, index_slice u29 sz31, load_agg ld31, fieldAddr_of fa57_1, load_of ld3, store_of sz3, fieldAddr_of fa57_2, slice_str u9, f1, hj2, fm, hne, w2, l23, w3]
              generalize hr1 : storeRow _ _ _ = r1
              obtain ⟨m4, rfl, o4, k4⟩ := store_own hr1 h3.h (by simp [fcells]) (by simp [one_int])
              simp [-Int.natCast_add, -BitVec.toNat_or, -BitVec.toNat_ofInt, -BitVec.toNat_and, lres_agg ld31, alloc_of zo31, len_string u9, build_of bo31, store_of sz31, build_of bo57, box_of b57, fieldAddr_of fa57_3, load_of ld4, index_str u9, fieldAddr_of fa57_0, load_of ld29, len_slice u29, index_slice u29 sz31, load_agg ld31, fieldAddr_of fa57_1, load_of ld3, store_of sz3, fieldAddr_of fa57_2, slice_str u9]
              exact ih2 _ _ _ _ ⟨j + 1, rfl, by omega, ⟨by simpa [-Int.natCast_add, fcells, St.skip, over, hb0] using o4, h3.o.keep k4 (by simpa using h3.ne.symm), h3.ne⟩, rfl, k3.trans k4⟩ (by omega) ⟨rfl, rfl, rfl, rfl, rfl, by simp [-Int.natCast_add, lget], trivial⟩
            · have hjc : j = cmt (s.drop σ.at_) := by omega
              have ihd : ∀ (E' : LEnv), subE [(0, .string ⟨s.toArray⟩), (2, .slice none 0 0), (3, .pointer (some ⟨m.next, 0, none⟩)), (4, .int .i64 0), (5, .pointer (some ⟨mz.next, 0, none⟩)), (6, .int .i64 (σ.at_ + j : Nat))] E' → _ := fun E' hs => ih d' _ E' m3 ⟨σ.skip j, ao, fo, h3, by rw [hjc]; exact b3, hb0, by rw [hjc]; exact hgs, by simp only [St.skip]; omega, hss, rfl, oz2.keep k3 (by simp; omega), hfo, by have := k3.1; omega, k2.fresh k3 (by simp; omega)⟩ (by omega) hs
              by_cases hjs : σ.at_ + j < s.length
              · have f1 : ((σ.at_ + j : Nat) : Int) < s.length := by omega
                have fm : ((σ.at_ + j : Nat) : Int) ≤ 9223372036854775807 := by omega
                have hj1 : j < (s.drop σ.at_).length := by simp; omega
                have hp := tw_end (p := fun c => decide (c.toNat ≠ 10)) (s := s.drop σ.at_) hjc hj1
                have hget : (s.drop σ.at_)[j] = s[σ.at_ + j] := by simp
                rw [hget] at hp
                have heq : ((s[σ.at_ + j]).toNat : Int) = 10 := by
                  simp only [ne_eq, decide_not, Bool.not_eq_false', decide_eq_true_eq] at hp
                  omega
                simp [-Int.natCast_add, -BitVec.toNat_or, -BitVec.toNat_ofInt, -BitVec.toNat_and, lres_agg ld31, alloc_of zo31, len_string u9, build_of bo31, store_of sz31, build_of bo57, box_of b57, fieldAddr_of fa57_3, load_of ld4, index_str u9, fieldAddr_of fa57_0, load_of ld29, len_slice u29, index_slice u29 sz31, load_agg ld31, fieldAddr_of fa57_1, load_of ld3, store_of sz3, fieldAddr_of fa57_2, slice_str u9, f1, hjs, fm, heq]
                exact ihd _ ⟨rfl, rfl, rfl, rfl, rfl, by simp [-Int.natCast_add, lget], trivial⟩
              · have f1 : ¬ ((σ.at_ + j : Nat) : Int) < s.length := by omega
                simp [-Int.natCast_add, -BitVec.toNat_or, -BitVec.toNat_ofInt, -BitVec.toNat_and, lres_agg ld31, alloc_of zo31, len_string u9, build_of bo31, store_of sz31, build_of bo57, box_of b57, fieldAddr_of fa57_3, load_of ld4, index_str u9, fieldAddr_of fa57_0, load_of ld29, len_slice u29, index_slice u29 sz31, load_agg ld31, fieldAddr_of fa57_1, load_of ld3, store_of sz3, fieldAddr_of fa57_2, slice_str u9, f1, hjs]
                exact ihd _ ⟨rfl, rfl, rfl, rfl, rfl, by simp [-Int.natCast_add, lget], trivial⟩
          · have hstep : σ.step = σ.read := by simp only [St.step, hcq, c10, cb, hcm, if_false]; rfl
            rw [hstep] at hgs b3 p3 s3
            have hri : isCmt (s[σ.at_] :: s.drop (σ.at_ + 1)) = false := by simpa using hcm
            have hread : σ.read = (match readR (s.drop σ.at_) with
              | .tok k t v n => (σ.put k t v).skip n
              | .err e => (σ.fault e).skip 0) := by simp only [St.read, hss]; rfl
            obtain ⟨v, m3, hone, rfl, k3⟩ := rone_run (m := m2) hS (s.drop σ.at_) (by intro e; rw [hcq'] at e; cases e) (by simp; omega)
            have h3 := h2.keep k3 (by simp) (by simp)
            have oz3 := oz2.keep k3 (by simp)
            have hsl : (s.drop σ.at_).take (s.length - σ.at_) = s.drop σ.at_ := List.take_of_length_le (by simp)
            have hle3 : σ.at_ ≤ s.length := by omega
            obtain ⟨o4, k4, n4⟩ := new_own (m := m3) (cs := [Value.int .i64 0, .string ⟨#[]⟩, .int .i64 0, .int .i64 0, .int .i64 0]) (e := 31) rfl
            obtain ⟨m4, hm4⟩ : ∃ m4, m3.new [Value.int .i64 0, .string ⟨#[]⟩, .int .i64 0, .int .i64 0, .int .i64 0] 31 = m4 := ⟨_, rfl⟩
            rw [hm4] at o4 k4 n4
            have k31 := k3.1
            -- what the conditions say
            have conds : ∀ (n : Nat), True := fun _ => trivial
            cases hR : readR (s.drop σ.at_) with
            | err e =>
              rw [hR] at hone hread
              rw [hread] at hgs
              simp only [Rd.val] at hone
              have he0 := readR_err (by intro e; rw [hcq'] at e; cases e) hR
              have hbad : ((σ.fault e).skip 0).bad = e := by simp only [St.skip, St.fault, hb0, if_true]
              have hres : ((σ.fault e).skip 0).fin1.fin2.res = ([], ⟨0, [], 0, σ.line, σ.col⟩, e) := by
                rw [res_bad (by rw [hbad]; exact he0), hbad]
                simp only [St.skip, St.fault, hb0, if_true]
              rw [goF_stop d' (by rw [hbad]; exact he0), hres] at hgs
              subst hgs
              by_cases c47 : (s[σ.at_]).toNat = 47
              · have c47' : ((s[σ.at_]).toNat : Int) = 47 := by omega
                by_cases hl2 : σ.at_ + 1 < s.length
                · have e2 : ((σ.at_ + 1 : Nat) : Int) < s.length := by omega
                  have em2 : ((σ.at_ + 1 : Nat) : Int) ≤ 9223372036854775807 := by omega
                  have e47 : ¬ ((s[σ.at_ + 1]).toNat : Int) = 47 := by
                    rw [List.drop_eq_getElem_cons hl2] at hri
                    simp only [isCmt, Bool.and_eq_false_iff, decide_eq_false_iff_not] at hri
                    omega
                  simp [-Int.natCast_add, -BitVec.toNat_or, -BitVec.toNat_ofInt, -BitVec.toNat_and, lres_agg ld31, alloc_of zo31, len_string u9, build_of bo31, store_of sz31, build_of bo57, box_of b57, fieldAddr_of fa57_3, load_of ld4, index_str u9, fieldAddr_of fa57_0, load_of ld29, len_slice u29, index_slice u29 sz31, load_agg ld31, fieldAddr_of fa57_1, load_of ld3, store_of sz3, fieldAddr_of fa57_2, slice_str u9, e1, hlt', em, l32, c10', b1', b2', b3', hsl, hle3, hone, hm4, c47', e2, em2, hl2, e47, w1]
                  generalize hr5 : storeRow _ _ _ = r5
                  obtain ⟨m5, rfl, o5, k5⟩ := store_own hr5 o4 (by simp) (by simp [one_int, one_str])
                  have kk5 : Keeps m2 m5 [] := (k3.trans k4).mono2 k5 (by omega)
                  have h5 := h2.keep kk5 (by simp) (by simp)
                  have oz5 := oz2.keep kk5 (by simp)
                  have q1 := h5.l1
                  have q2 := h5.l2
                  simp [-Int.natCast_add, -BitVec.toNat_or, -BitVec.toNat_ofInt, -BitVec.toNat_and, lres_agg ld31, alloc_of zo31, len_string u9, build_of bo31, store_of sz31, build_of bo57, box_of b57, fieldAddr_of fa57_3, load_of ld4, index_str u9, fieldAddr_of fa57_0, load_of ld29, len_slice u29, index_slice u29 sz31, load_agg ld31, fieldAddr_of fa57_1, load_of ld3, store_of sz3, fieldAddr_of fa57_2, slice_str u9, he0, q1, q2]
                  generalize hrr : storeRow _ _ _ = rr
                  obtain ⟨mr, rfl, orr, kr⟩ := store_own hrr oz5 (by simp) (by simp [one_int, one_str])
                  have lr := orr.load (off := 0) 5 (by simp [over])
                  have qr := h5.keep kr (by simp; omega) (by simp; omega)
                  have q1r := qr.l1
                  have q2r := qr.l2
                  simp [over, window] at lr
                  simp [-Int.natCast_add, -BitVec.toNat_or, -BitVec.toNat_ofInt, -BitVec.toNat_and, lres_agg ld31, alloc_of zo31, len_string u9, build_of bo31, store_of sz31, build_of bo57, box_of b57, fieldAddr_of fa57_3, load_of ld4, index_str u9, fieldAddr_of fa57_0, load_of ld29, len_slice u29, index_slice u29 sz31, load_agg ld31, fieldAddr_of fa57_1, load_of ld3, store_of sz3, fieldAddr_of fa57_2, slice_str u9, he0, q1, q2, q1r, q2r, lr]
                  exact ⟨none, by simp [Tok.cells], m.next, Sl.nil _ _ _ _, Nat.le_refl _, (k2.trans kk5).fresh kr (by simp)⟩
                · have e2 : ¬ ((σ.at_ + 1 : Nat) : Int) < s.length := by omega
                  simp [-Int.natCast_add, -BitVec.toNat_or, -BitVec.toNat_ofInt, -BitVec.toNat_and, lres_agg ld31, alloc_of zo31, len_string u9, build_of bo31, store_of sz31, build_of bo57, box_of b57, fieldAddr_of fa57_3, load_of ld4, index_str u9, fieldAddr_of fa57_0, load_of ld29, len_slice u29, index_slice u29 sz31, load_agg ld31, fieldAddr_of fa57_1, load_of ld3, store_of sz3, fieldAddr_of fa57_2, slice_str u9, e1, hlt', em, l32, c10', b1', b2', b3', hsl, hle3, hone, hm4, c47', e2, hl2, w1]
                  generalize hr5 : storeRow _ _ _ = r5
                  obtain ⟨m5, rfl, o5, k5⟩ := store_own hr5 o4 (by simp) (by simp [one_int, one_str])
                  have kk5 : Keeps m2 m5 [] := (k3.trans k4).mono2 k5 (by omega)
                  have h5 := h2.keep kk5 (by simp) (by simp)
                  have oz5 := oz2.keep kk5 (by simp)
                  have q1 := h5.l1
                  have q2 := h5.l2
                  simp [-Int.natCast_add, -BitVec.toNat_or, -BitVec.toNat_ofInt, -BitVec.toNat_and, lres_agg ld31, alloc_of zo31, len_string u9, build_of bo31, store_of sz31, build_of bo57, box_of b57, fieldAddr_of fa57_3, load_of ld4, index_str u9, fieldAddr_of fa57_0, load_of ld29, len_slice u29, index_slice u29 sz31, load_agg ld31, fieldAddr_of fa57_1, load_of ld3, store_of sz3, fieldAddr_of fa57_2, slice_str u9, he0, q1, q2]
                  generalize hrr : storeRow _ _ _ = rr
                  obtain ⟨mr, rfl, orr, kr⟩ := store_own hrr oz5 (by simp) (by simp [one_int, one_str])
                  have lr := orr.load (off := 0) 5 (by simp [over])
                  have qr := h5.keep kr (by simp; omega) (by simp; omega)
                  have q1r := qr.l1
                  have q2r := qr.l2
                  simp [over, window] at lr
                  simp [-Int.natCast_add, -BitVec.toNat_or, -BitVec.toNat_ofInt, -BitVec.toNat_and, lres_agg ld31, alloc_of zo31, len_string u9, build_of bo31, store_of sz31, build_of bo57, box_of b57, fieldAddr_of fa57_3, load_of ld4, index_str u9, fieldAddr_of fa57_0, load_of ld29, len_slice u29, index_slice u29 sz31, load_agg ld31, fieldAddr_of fa57_1, load_of ld3, store_of sz3, fieldAddr_of fa57_2, slice_str u9, he0, q1, q2, q1r, q2r, lr]
                  exact ⟨none, by simp [Tok.cells], m.next, Sl.nil _ _ _ _, Nat.le_refl _, (k2.trans kk5).fresh kr (by simp)⟩
              · have c47' : ¬ ((s[σ.at_]).toNat : Int) = 47 := by omega
                simp [-Int.natCast_add, -BitVec.toNat_or, -BitVec.toNat_ofInt, -BitVec.toNat_and, lres_agg ld31, alloc_of zo31, len_string u9, build_of bo31, store_of sz31, build_of bo57, box_of b57, fieldAddr_of fa57_3, load_of ld4, index_str u9, fieldAddr_of fa57_0, load_of ld29, len_slice u29, index_slice u29 sz31, load_agg ld31, fieldAddr_of fa57_1, load_of ld3, store_of sz3, fieldAddr_of fa57_2, slice_str u9, e1, hlt', em, l32, c10', b1', b2', b3', hsl, hle3, hone, hm4, c47', w1]
                generalize hr5 : storeRow _ _ _ = r5
                obtain ⟨m5, rfl, o5, k5⟩ := store_own hr5 o4 (by simp) (by simp [one_int, one_str])
                have kk5 : Keeps m2 m5 [] := (k3.trans k4).mono2 k5 (by omega)
                have h5 := h2.keep kk5 (by simp) (by simp)
                have oz5 := oz2.keep kk5 (by simp)
                have q1 := h5.l1
                have q2 := h5.l2
                simp [-Int.natCast_add, -BitVec.toNat_or, -BitVec.toNat_ofInt, -BitVec.toNat_and, lres_agg ld31, alloc_of zo31, len_string u9, build_of bo31, store_of sz31, build_of bo57, box_of b57, fieldAddr_of fa57_3, load_of ld4, index_str u9, fieldAddr_of fa57_0, load_of ld29, len_slice u29, index_slice u29 sz31, load_agg ld31, fieldAddr_of fa57_1, load_of ld3, store_of sz3, fieldAddr_of fa57_2, slice_str u9, he0, q1, q2]
                generalize hrr : storeRow _ _ _ = rr
                obtain ⟨mr, rfl, orr, kr⟩ := store_own hrr oz5 (by simp) (by simp [one_int, one_str])
                have lr := orr.load (off := 0) 5 (by simp [over])
                have qr := h5.keep kr (by simp; omega) (by simp; omega)
                have q1r := qr.l1
                have q2r := qr.l2
                simp [over, window] at lr
                simp [-Int.natCast_add, -BitVec.toNat_or, -BitVec.toNat_ofInt, -BitVec.toNat_and, lres_agg ld31, alloc_of zo31, len_string u9, build_of bo31, store_of sz31, build_of bo57, box_of b57, fieldAddr_of fa57_3, load_of ld4, index_str u9, fieldAddr_of fa57_0, load_of ld29, len_slice u29, index_slice u29 sz31, load_agg ld31, fieldAddr_of fa57_1, load_of ld3, store_of sz3, fieldAddr_of fa57_2, slice_str u9, he0, q1, q2, q1r, q2r, lr]
                exact ⟨none, by simp [Tok.cells], m.next, Sl.nil _ _ _ _, Nat.le_refl _, (k2.trans kk5).fresh kr (by simp)⟩
            | tok k t v n =>
              rw [hR] at hone hread
              rw [hread] at hgs b3 p3 s3
              simp only [Rd.val] at hone
              by_cases c47 : (s[σ.at_]).toNat = 47
              · have c47' : ((s[σ.at_]).toNat : Int) = 47 := by omega
                by_cases hl2 : σ.at_ + 1 < s.length
                · have e2 : ((σ.at_ + 1 : Nat) : Int) < s.length := by omega
                  have em2 : ((σ.at_ + 1 : Nat) : Int) ≤ 9223372036854775807 := by omega
                  have e47 : ¬ ((s[σ.at_ + 1]).toNat : Int) = 47 := by
                    rw [List.drop_eq_getElem_cons hl2] at hri
                    simp only [isCmt, Bool.and_eq_false_iff, decide_eq_false_iff_not] at hri
                    omega
                  simp [-Int.natCast_add, -BitVec.toNat_or, -BitVec.toNat_ofInt, -BitVec.toNat_and, lres_agg ld31, alloc_of zo31, len_string u9, build_of bo31, store_of sz31, build_of bo57, box_of b57, fieldAddr_of fa57_3, load_of ld4, index_str u9, fieldAddr_of fa57_0, load_of ld29, len_slice u29, index_slice u29 sz31, load_agg ld31, fieldAddr_of fa57_1, load_of ld3, store_of sz3, fieldAddr_of fa57_2, slice_str u9, e1, hlt', em, l32, c10', b1', b2', b3', hsl, hle3, hone, hm4, c47', e2, em2, hl2, e47, w1]
                  generalize hr5 : storeRow _ _ _ = r5
                  obtain ⟨m5, rfl, o5, k5⟩ := store_own hr5 o4 (by simp) (by simp [one_int, one_str])
                  have kk5 : Keeps m2 m5 [] := (k3.trans k4).mono2 k5 (by omega)
                  have h5 := h2.keep kk5 (by simp) (by simp)
                  have oz5 := oz2.keep kk5 (by simp)
                  have l5 := o5.load (off := 0) 5 (by simp [over])
                  simp [over, window] at l5
                  obtain ⟨v6, m6, hadd, rfl, ao6, fo6, h6, k6, hfo6⟩ := add_run hS.add h5 hb hb0 k t v 0 0
                  have kk51 := kk5.1
                  have oz6 := oz5.keep k6 (by simp; omega)
                  have kk6 : Keeps m m6 [] := (k2.trans kk5).fresh k6 (by simp; omega)
                  obtain ⟨hsi, hai, hli, hco⟩ := put_same σ k t v
                  rcases put_bad σ hb0 k t v with hbad | ⟨hbad, hw⟩
                  · have q3 := h6.l3
                    have q2 := h6.l2
                    rw [hbad] at q3
                    rw [hco] at q2
                    simp only [ne_eq, not_true_eq_false, decide_false] at q3
                    obtain ⟨n1, n2⟩ := readR_len hR
                    have n2' : n ≤ s.length - σ.at_ := by simpa using n2
                    have wn : IntKind.i64.wrap ((σ.at_ : Int) + n) = ((σ.at_ + n : Nat) : Int) := by rw [wrap_i64 (by omega) (by omega)]; omega
                    have wcn : IntKind.i64.wrap ((σ.col : Int) + n) = ((σ.col + n : Nat) : Int) := by rw [wrap_i64 (by omega) (by omega)]; omega
                    simp [-Int.natCast_add, -BitVec.toNat_or, -BitVec.toNat_ofInt, -BitVec.toNat_and, lres_agg ld31, alloc_of zo31, len_string u9, build_of bo31, store_of sz31, build_of bo57, box_of b57, fieldAddr_of fa57_3, load_of ld4, index_str u9, fieldAddr_of fa57_0, load_of ld29, len_slice u29, index_slice u29 sz31, load_agg ld31, fieldAddr_of fa57_1, load_of ld3, store_of sz3, fieldAddr_of fa57_2, slice_str u9, l5, hadd, q3, q2, wn, wcn]
                    generalize hr7 : storeRow _ _ _ = r7
                    obtain ⟨m7, rfl, o7, k7⟩ := store_own hr7 h6.h (by simp [fcells]) (by simp [one_int])
                    simp [-Int.natCast_add, -BitVec.toNat_or, -BitVec.toNat_ofInt, -BitVec.toNat_and, lres_agg ld31, alloc_of zo31, len_string u9, build_of bo31, store_of sz31, build_of bo57, box_of b57, fieldAddr_of fa57_3, load_of ld4, index_str u9, fieldAddr_of fa57_0, load_of ld29, len_slice u29, index_slice u29 sz31, load_agg ld31, fieldAddr_of fa57_1, load_of ld3, store_of sz3, fieldAddr_of fa57_2, slice_str u9]
                    exact ih _ _ _ _ ⟨(σ.put k t v).skip n, ao6, fo6, ⟨by simpa [-Int.natCast_add, fcells, St.skip, over, hbad, hli, hco] using o7, h6.o.keep k7 (by simpa using h6.ne.symm), h6.ne⟩, b3, by simp only [St.skip]; exact hbad, hgs, by simp only [St.skip, hsi, hai]; omega, by simp only [St.skip, hsi]; exact hss, rfl, oz6.keep k7 (by simp; omega), by omega, by have := k6.1; have := k7.1; omega, kk6.fresh k7 (by simp; omega)⟩ (by omega) ⟨rfl, rfl, rfl, rfl, rfl, by simp [-Int.natCast_add, lget, St.skip, hai], trivial⟩
                  · have hbs : ((σ.put k t v).skip n).bad = 6 := hbad
                    rw [goF_stop d' (by rw [hbs]; omega), res_bad (by rw [hbs]; omega), hbs] at hgs
                    have hws : ((σ.put k t v).skip n).w = ⟨0, [], 0, σ.line, σ.col⟩ := hw
                    rw [hws] at hgs
                    subst hgs
                    have q3 := (h6).l3
                    have q1 := (h6).l1
                    have q2 := (h6).l2
                    rw [hbad] at q3
                    rw [hli] at q1
                    rw [hco] at q2
                    simp only [ne_eq, Int.reduceEq, not_false_eq_true, decide_true] at q3
                    simp [-Int.natCast_add, -BitVec.toNat_or, -BitVec.toNat_ofInt, -BitVec.toNat_and, lres_agg ld31, alloc_of zo31, len_string u9, build_of bo31, store_of sz31, build_of bo57, box_of b57, fieldAddr_of fa57_3, load_of ld4, index_str u9, fieldAddr_of fa57_0, load_of ld29, len_slice u29, index_slice u29 sz31, load_agg ld31, fieldAddr_of fa57_1, load_of ld3, store_of sz3, fieldAddr_of fa57_2, slice_str u9, l5, hadd, q3, q1, q2]
                    generalize hrr : storeRow _ _ _ = rr
                    obtain ⟨mr, rfl, orr, kr⟩ := store_own hrr oz6 (by simp) (by simp [one_int, one_str])
                    have lr := orr.load (off := 0) 5 (by simp [over])
                    have qr := (h6).keep kr (by simp; omega) (by simp; omega)
                    have q1r := qr.l1
                    have q2r := qr.l2
                    rw [hli] at q1r
                    rw [hco] at q2r
                    simp [over, window] at lr
                    simp [-Int.natCast_add, -BitVec.toNat_or, -BitVec.toNat_ofInt, -BitVec.toNat_and, lres_agg ld31, alloc_of zo31, len_string u9, build_of bo31, store_of sz31, build_of bo57, box_of b57, fieldAddr_of fa57_3, load_of ld4, index_str u9, fieldAddr_of fa57_0, load_of ld29, len_slice u29, index_slice u29 sz31, load_agg ld31, fieldAddr_of fa57_1, load_of ld3, store_of sz3, fieldAddr_of fa57_2, slice_str u9, q3, q1, q2, q1r, q2r, lr]
                    exact ⟨none, by simp [Tok.cells], m.next, Sl.nil _ _ _ _, Nat.le_refl _, (kk6).fresh kr (by simp)⟩
                · have e2 : ¬ ((σ.at_ + 1 : Nat) : Int) < s.length := by omega
                  simp [-Int.natCast_add, -BitVec.toNat_or, -BitVec.toNat_ofInt, -BitVec.toNat_and, lres_agg ld31, alloc_of zo31, len_string u9, build_of bo31, store_of sz31, build_of bo57, box_of b57, fieldAddr_of fa57_3, load_of ld4, index_str u9, fieldAddr_of fa57_0, load_of ld29, len_slice u29, index_slice u29 sz31, load_agg ld31, fieldAddr_of fa57_1, load_of ld3, store_of sz3, fieldAddr_of fa57_2, slice_str u9, e1, hlt', em, l32, c10', b1', b2', b3', hsl, hle3, hone, hm4, c47', e2, hl2, w1]
                  generalize hr5 : storeRow _ _ _ = r5
                  obtain ⟨m5, rfl, o5, k5⟩ := store_own hr5 o4 (by simp) (by simp [one_int, one_str])
                  have kk5 : Keeps m2 m5 [] := (k3.trans k4).mono2 k5 (by omega)
                  have h5 := h2.keep kk5 (by simp) (by simp)
                  have oz5 := oz2.keep kk5 (by simp)
                  have l5 := o5.load (off := 0) 5 (by simp [over])
                  simp [over, window] at l5
                  obtain ⟨v6, m6, hadd, rfl, ao6, fo6, h6, k6, hfo6⟩ := add_run hS.add h5 hb hb0 k t v 0 0
                  have kk51 := kk5.1
                  have oz6 := oz5.keep k6 (by simp; omega)
                  have kk6 : Keeps m m6 [] := (k2.trans kk5).fresh k6 (by simp; omega)
                  obtain ⟨hsi, hai, hli, hco⟩ := put_same σ k t v
                  rcases put_bad σ hb0 k t v with hbad | ⟨hbad, hw⟩
                  · have q3 := h6.l3
                    have q2 := h6.l2
                    rw [hbad] at q3
                    rw [hco] at q2
                    simp only [ne_eq, not_true_eq_false, decide_false] at q3
                    obtain ⟨n1, n2⟩ := readR_len hR
                    have n2' : n ≤ s.length - σ.at_ := by simpa using n2
                    have wn : IntKind.i64.wrap ((σ.at_ : Int) + n) = ((σ.at_ + n : Nat) : Int) := by rw [wrap_i64 (by omega) (by omega)]; omega
                    have wcn : IntKind.i64.wrap ((σ.col : Int) + n) = ((σ.col + n : Nat) : Int) := by rw [wrap_i64 (by omega) (by omega)]; omega
                    simp [-Int.natCast_add, -BitVec.toNat_or, -BitVec.toNat_ofInt, -BitVec.toNat_and, lres_agg ld31, alloc_of zo31, len_string u9, build_of bo31, store_of sz31, build_of bo57, box_of b57, fieldAddr_of fa57_3, load_of ld4, index_str u9, fieldAddr_of fa57_0, load_of ld29, len_slice u29, index_slice u29 sz31, load_agg ld31, fieldAddr_of fa57_1, load_of ld3, store_of sz3, fieldAddr_of fa57_2, slice_str u9, l5, hadd, q3, q2, wn, wcn]
                    generalize hr7 : storeRow _ _ _ = r7
                    obtain ⟨m7, rfl, o7, k7⟩ := store_own hr7 h6.h (by simp [fcells]) (by simp [one_int])
                    simp [-Int.natCast_add, -BitVec.toNat_or, -BitVec.toNat_ofInt, -BitVec.toNat_and, lres_agg ld31, alloc_of zo31, len_string u9, build_of bo31, store_of sz31, build_of bo57, box_of b57, fieldAddr_of fa57_3, load_of ld4, index_str u9, fieldAddr_of fa57_0, load_of ld29, len_slice u29, index_slice u29 sz31, load_agg ld31, fieldAddr_of fa57_1, load_of ld3, store_of sz3, fieldAddr_of fa57_2, slice_str u9]
                    exact ih _ _ _ _ ⟨(σ.put k t v).skip n, ao6, fo6, ⟨by simpa [-Int.natCast_add, fcells, St.skip, over, hbad, hli, hco] using o7, h6.o.keep k7 (by simpa using h6.ne.symm), h6.ne⟩, b3, by simp only [St.skip]; exact hbad, hgs, by simp only [St.skip, hsi, hai]; omega, by simp only [St.skip, hsi]; exact hss, rfl, oz6.keep k7 (by simp; omega), by omega, by have := k6.1; have := k7.1; omega, kk6.fresh k7 (by simp; omega)⟩ (by omega) ⟨rfl, rfl, rfl, rfl, rfl, by simp [-Int.natCast_add, lget, St.skip, hai], trivial⟩
                  · have hbs : ((σ.put k t v).skip n).bad = 6 := hbad
                    rw [goF_stop d' (by rw [hbs]; omega), res_bad (by rw [hbs]; omega), hbs] at hgs
                    have hws : ((σ.put k t v).skip n).w = ⟨0, [], 0, σ.line, σ.col⟩ := hw
                    rw [hws] at hgs
                    subst hgs
                    have q3 := (h6).l3
                    have q1 := (h6).l1
                    have q2 := (h6).l2
                    rw [hbad] at q3
                    rw [hli] at q1
                    rw [hco] at q2
                    simp only [ne_eq, Int.reduceEq, not_false_eq_true, decide_true] at q3
                    simp [-Int.natCast_add, -BitVec.toNat_or, -BitVec.toNat_ofInt, -BitVec.toNat_and, lres_agg ld31, alloc_of zo31, len_string u9, build_of bo31, store_of sz31, build_of bo57, box_of b57, fieldAddr_of fa57_3, load_of ld4, index_str u9, fieldAddr_of fa57_0, load_of ld29, len_slice u29, index_slice u29 sz31, load_agg ld31, fieldAddr_of fa57_1, load_of ld3, store_of sz3, fieldAddr_of fa57_2, slice_str u9, l5, hadd, q3, q1, q2]
                    generalize hrr : storeRow _ _ _ = rr
                    obtain ⟨mr, rfl, orr, kr⟩ := store_own hrr oz6 (by simp) (by simp [one_int, one_str])
                    have lr := orr.load (off := 0) 5 (by simp [over])
                    have qr := (h6).keep kr (by simp; omega) (by simp; omega)
                    have q1r := qr.l1
                    have q2r := qr.l2
                    rw [hli] at q1r
                    rw [hco] at q2r
                    simp [over, window] at lr
                    simp [-Int.natCast_add, -BitVec.toNat_or, -BitVec.toNat_ofInt, -BitVec.toNat_and, lres_agg ld31, alloc_of zo31, len_string u9, build_of bo31, store_of sz31, build_of bo57, box_of b57, fieldAddr_of fa57_3, load_of ld4, index_str u9, fieldAddr_of fa57_0, load_of ld29, len_slice u29, index_slice u29 sz31, load_agg ld31, fieldAddr_of fa57_1, load_of ld3, store_of sz3, fieldAddr_of fa57_2, slice_str u9, q3, q1, q2, q1r, q2r, lr]
                    exact ⟨none, by simp [Tok.cells], m.next, Sl.nil _ _ _ _, Nat.le_refl _, (kk6).fresh kr (by simp)⟩
              · have c47' : ¬ ((s[σ.at_]).toNat : Int) = 47 := by omega
                simp [-Int.natCast_add, -BitVec.toNat_or, -BitVec.toNat_ofInt, -BitVec.toNat_and, lres_agg ld31, alloc_of zo31, len_string u9, build_of bo31, store_of sz31, build_of bo57, box_of b57, fieldAddr_of fa57_3, load_of ld4, index_str u9, fieldAddr_of fa57_0, load_of ld29, len_slice u29, index_slice u29 sz31, load_agg ld31, fieldAddr_of fa57_1, load_of ld3, store_of sz3, fieldAddr_of fa57_2, slice_str u9, e1, hlt', em, l32, c10', b1', b2', b3', hsl, hle3, hone, hm4, c47', w1]
                generalize hr5 : storeRow _ _ _ = r5
                obtain ⟨m5, rfl, o5, k5⟩ := store_own hr5 o4 (by simp) (by simp [one_int, one_str])
                have kk5 : Keeps m2 m5 [] := (k3.trans k4).mono2 k5 (by omega)
                have h5 := h2.keep kk5 (by simp) (by simp)
                have oz5 := oz2.keep kk5 (by simp)
                have l5 := o5.load (off := 0) 5 (by simp [over])
                simp [over, window] at l5
                obtain ⟨v6, m6, hadd, rfl, ao6, fo6, h6, k6, hfo6⟩ := add_run hS.add h5 hb hb0 k t v 0 0
                have kk51 := kk5.1
                have oz6 := oz5.keep k6 (by simp; omega)
                have kk6 : Keeps m m6 [] := (k2.trans kk5).fresh k6 (by simp; omega)
                obtain ⟨hsi, hai, hli, hco⟩ := put_same σ k t v
                rcases put_bad σ hb0 k t v with hbad | ⟨hbad, hw⟩
                · have q3 := h6.l3
                  have q2 := h6.l2
                  rw [hbad] at q3
                  rw [hco] at q2
                  simp only [ne_eq, not_true_eq_false, decide_false] at q3
                  obtain ⟨n1, n2⟩ := readR_len hR
                  have n2' : n ≤ s.length - σ.at_ := by simpa using n2
                  have wn : IntKind.i64.wrap ((σ.at_ : Int) + n) = ((σ.at_ + n : Nat) : Int) := by rw [wrap_i64 (by omega) (by omega)]; omega
                  have wcn : IntKind.i64.wrap ((σ.col : Int) + n) = ((σ.col + n : Nat) : Int) := by rw [wrap_i64 (by omega) (by omega)]; omega
                  simp [-Int.natCast_add, -BitVec.toNat_or, -BitVec.toNat_ofInt, -BitVec.toNat_and, lres_agg ld31, alloc_of zo31, len_string u9, build_of bo31, store_of sz31, build_of bo57, box_of b57, fieldAddr_of fa57_3, load_of ld4, index_str u9, fieldAddr_of fa57_0, load_of ld29, len_slice u29, index_slice u29 sz31, load_agg ld31, fieldAddr_of fa57_1, load_of ld3, store_of sz3, fieldAddr_of fa57_2, slice_str u9, l5, hadd, q3, q2, wn, wcn]
                  generalize hr7 : storeRow _ _ _ = r7
                  obtain ⟨m7, rfl, o7, k7⟩ := store_own hr7 h6.h (by simp [fcells]) (by simp [one_int])
                  simp [-Int.natCast_add, -BitVec.toNat_or, -BitVec.toNat_ofInt, -BitVec.toNat_and, lres_agg ld31, alloc_of zo31, len_string u9, build_of bo31, store_of sz31, build_of bo57, box_of b57, fieldAddr_of fa57_3, load_of ld4, index_str u9, fieldAddr_of fa57_0, load_of ld29, len_slice u29, index_slice u29 sz31, load_agg ld31, fieldAddr_of fa57_1, load_of ld3, store_of sz3, fieldAddr_of fa57_2, slice_str u9]
                  exact ih _ _ _ _ ⟨(σ.put k t v).skip n, ao6, fo6, ⟨by simpa [-Int.natCast_add, fcells, St.skip, over, hbad, hli, hco] using o7, h6.o.keep k7 (by simpa using h6.ne.symm), h6.ne⟩, b3, by simp only [St.skip]; exact hbad, hgs, by simp only [St.skip, hsi, hai]; omega, by simp only [St.skip, hsi]; exact hss, rfl, oz6.keep k7 (by simp; omega), by omega, by have := k6.1; have := k7.1; omega, kk6.fresh k7 (by simp; omega)⟩ (by omega) ⟨rfl, rfl, rfl, rfl, rfl, by simp [-Int.natCast_add, lget, St.skip, hai], trivial⟩
                · have hbs : ((σ.put k t v).skip n).bad = 6 := hbad
                  rw [goF_stop d' (by rw [hbs]; omega), res_bad (by rw [hbs]; omega), hbs] at hgs
                  have hws : ((σ.put k t v).skip n).w = ⟨0, [], 0, σ.line, σ.col⟩ := hw
                  rw [hws] at hgs
                  subst hgs
                  have q3 := (h6).l3
                  have q1 := (h6).l1
                  have q2 := (h6).l2
                  rw [hbad] at q3
                  rw [hli] at q1
                  rw [hco] at q2
                  simp only [ne_eq, Int.reduceEq, not_false_eq_true, decide_true] at q3
                  simp [-Int.natCast_add, -BitVec.toNat_or, -BitVec.toNat_ofInt, -BitVec.toNat_and, lres_agg ld31, alloc_of zo31, len_string u9, build_of bo31, store_of sz31, build_of bo57, box_of b57, fieldAddr_of fa57_3, load_of ld4, index_str u9, fieldAddr_of fa57_0, load_of ld29, len_slice u29, index_slice u29 sz31, load_agg ld31, fieldAddr_of fa57_1, load_of ld3, store_of sz3, fieldAddr_of fa57_2, slice_str u9, l5, hadd, q3, q1, q2]
                  generalize hrr : storeRow _ _ _ = rr
                  obtain ⟨mr, rfl, orr, kr⟩ := store_own hrr oz6 (by simp) (by simp [one_int, one_str])
                  have lr := orr.load (off := 0) 5 (by simp [over])
                  have qr := (h6).keep kr (by simp; omega) (by simp; omega)
                  have q1r := qr.l1
                  have q2r := qr.l2
                  rw [hli] at q1r
                  rw [hco] at q2r
                  simp [over, window] at lr
                  simp [-Int.natCast_add, -BitVec.toNat_or, -BitVec.toNat_ofInt, -BitVec.toNat_and, lres_agg ld31, alloc_of zo31, len_string u9, build_of bo31, store_of sz31, build_of bo57, box_of b57, fieldAddr_of fa57_3, load_of ld4, index_str u9, fieldAddr_of fa57_0, load_of ld29, len_slice u29, index_slice u29 sz31, load_agg ld31, fieldAddr_of fa57_1, load_of ld3, store_of sz3, fieldAddr_of fa57_2, slice_str u9, q3, q1, q2, q1r, q2r, lr]
                  exact ⟨none, by simp [Tok.cells], m.next, Sl.nil _ _ _ _, Nat.le_refl _, (kk6).fresh kr (by simp)⟩
    · have hlt' : ¬ σ.at_ < s.length := by rw [← hss]; exact hlt
      have e1 : ¬ (σ.at_ : Int) < s.length := by omega
      have hgσ : goF d σ = σ := by
        cases d with
        | zero => rfl
        | succ d => simp only [goF]; rw [if_neg (fun x => hlt x.1)]
      rw [hgσ] at hg
      have hbt := hb0
      by_cases hn : σ.out.length = 0
      · have hnil : σ.out = [] := List.length_eq_zero_iff.1 hn
        have hE : endsB σ.out = false := by rw [hnil]; rfl
        have hf1 : σ.fin1 = σ := by unfold St.fin1; rw [if_neg (by simp [hE])]
        rw [hf1] at hg
        have hn' : ¬ ((0 : Int) < σ.out.length) := by omega
        obtain ⟨v8, m8, had8, rfl, ao8, fo8, h8, k8, hfo8⟩ := add_run hS.add h2 hb hbt 0 [] 0 0 0
        have had8' : callw Tryd.prog TT S 31 [.pointer (some ⟨mz.next, 0, none⟩), .agg #[.int .i64 0, .string ⟨#[]⟩, .int .i64 0, .int .i64 0, .int .i64 0]] m2 = some (.tuple #[], m8) := had8
        have oz8 := (oz2).keep k8 (by simp; omega)
        have kk8 : Keeps m m8 [] := (k2).fresh k8 (by simp; omega)
        have k81 := k8.1
        have qt3 := (h2).l3
        rw [hbt] at qt3
        simp only [ne_eq, not_true_eq_false, decide_false] at qt3
        obtain ⟨hsi, hai, hli, hco⟩ := put_same (σ) 0 [] 0
        have hf2 : (σ).fin2 = (σ).put 0 [] 0 := by unfold St.fin2; rw [if_pos hbt]
        rw [hf2] at hg
        rcases put_bad (σ) hbt 0 [] 0 with hbad | ⟨hbad, hw⟩
        · have hres : ((σ).put 0 [] 0).res = (((σ).put 0 [] 0).out, zTok, 0) := by unfold St.res; rw [if_pos hbad]
          rw [hres] at hg
          subst hg
          have q3 := h8.l3
          have q0 := h8.l0
          rw [hbad] at q3
          simp only [ne_eq, not_true_eq_false, decide_false] at q3
          simp [-Int.natCast_add, -BitVec.toNat_or, -BitVec.toNat_ofInt, -BitVec.toNat_and, lres_agg ld31, alloc_of zo31, len_string u9, build_of bo31, store_of sz31, build_of bo57, box_of b57, fieldAddr_of fa57_3, load_of ld4, index_str u9, fieldAddr_of fa57_0, load_of ld29, len_slice u29, index_slice u29 sz31, load_agg ld31, fieldAddr_of fa57_1, load_of ld3, store_of sz3, fieldAddr_of fa57_2, slice_str u9, e1, hlt', l32, l02, hn', hn, qt3, had8', q3, q0]
          generalize hrr : storeRow _ _ _ = rr
          obtain ⟨mr, rfl, orr, kr⟩ := store_own hrr oz8 (by simp) (by simp [one_int, one_str])
          have lr := orr.load (off := 0) 5 (by simp [over])
          simp [over, window] at lr
          simp [-Int.natCast_add, -BitVec.toNat_or, -BitVec.toNat_ofInt, -BitVec.toNat_and, lres_agg ld31, alloc_of zo31, len_string u9, build_of bo31, store_of sz31, build_of bo57, box_of b57, fieldAddr_of fa57_3, load_of ld4, index_str u9, fieldAddr_of fa57_0, load_of ld29, len_slice u29, index_slice u29 sz31, load_agg ld31, fieldAddr_of fa57_1, load_of ld3, store_of sz3, fieldAddr_of fa57_2, slice_str u9, lr]
          exact ⟨ao8, ⟨rfl, by simp [zTok, Tok.cells]⟩, fo8, by simpa using h8.o.keep kr (by simp; omega), by omega, kk8.fresh kr (by simp)⟩
        · have hres : ((σ).put 0 [] 0).res = ([], ((σ).put 0 [] 0).w, ((σ).put 0 [] 0).bad) := by unfold St.res; rw [if_neg (by rw [hbad]; omega)]
          rw [hres, hw, hbad] at hg
          subst hg
          have q3 := (h8).l3
          have q1 := (h8).l1
          have q2 := (h8).l2
          rw [hbad] at q3
          rw [hli] at q1
          rw [hco] at q2
          simp only [ne_eq, Int.reduceEq, not_false_eq_true, decide_true] at q3
          simp [-Int.natCast_add, -BitVec.toNat_or, -BitVec.toNat_ofInt, -BitVec.toNat_and, lres_agg ld31, alloc_of zo31, len_string u9, build_of bo31, store_of sz31, build_of bo57, box_of b57, fieldAddr_of fa57_3, load_of ld4, index_str u9, fieldAddr_of fa57_0, load_of ld29, len_slice u29, index_slice u29 sz31, load_agg ld31, fieldAddr_of fa57_1, load_of ld3, store_of sz3, fieldAddr_of fa57_2, slice_str u9, e1, hlt', l32, l02, hn', hn, qt3, had8', q3, q1, q2]
          generalize hrr : storeRow _ _ _ = rr
          obtain ⟨mr, rfl, orr, kr⟩ := store_own hrr oz8 (by simp) (by simp [one_int, one_str])
          have lr := orr.load (off := 0) 5 (by simp [over])
          have qr := (h8).keep kr (by simp; omega) (by simp; omega)
          have q1r := qr.l1
          have q2r := qr.l2
          rw [hli] at q1r
          rw [hco] at q2r
          simp [over, window] at lr
          simp [-Int.natCast_add, -BitVec.toNat_or, -BitVec.toNat_ofInt, -BitVec.toNat_and, lres_agg ld31, alloc_of zo31, len_string u9, build_of bo31, store_of sz31, build_of bo57, box_of b57, fieldAddr_of fa57_3, load_of ld4, index_str u9, fieldAddr_of fa57_0, load_of ld29, len_slice u29, index_slice u29 sz31, load_agg ld31, fieldAddr_of fa57_1, load_of ld3, store_of sz3, fieldAddr_of fa57_2, slice_str u9, q3, q1, q2, q1r, q2r, lr]
          exact ⟨none, by simp [Tok.cells], m.next, Sl.nil _ _ _ _, Nat.le_refl _, (kk8).fresh kr (by simp)⟩
      · have hn' : (0 : Int) < σ.out.length := by omega
        have hn2 : 0 < σ.out.length := by omega
        have hne : σ.out ≠ [] := by intro e; rw [e] at hn; simp at hn
        obtain ⟨x, hx⟩ : ∃ x, σ.out.getLast? = some x := ⟨σ.out.getLast hne, List.getLast?_eq_some_getLast hne⟩
        obtain ⟨ob, rfl, hob⟩ := h2.o.own hn
        have hlx : loadRow m2 ⟨ob, (σ.out.length - 1) * 5, none⟩ 5 = some x.cells := by
          rw [hob.load 5 (by rw [← outCells_len]; omega), last_cells hx]
        have hbo := hb.o
        have wm1 : IntKind.i64.wrap ((σ.out.length : Int) - 1) = ((σ.out.length - 1 : Nat) : Int) := by rw [wrap_i64 (by omega) (by omega)]; omega
        have hm1 : ((σ.out.length - 1 : Nat) : Int) ≤ 9223372036854775807 := by omega
        have hltl : σ.out.length - 1 < σ.out.length := by omega
        have hEx : endsB σ.out = endsT x := by simp [endsB, hx]
        obtain ⟨v3, m3, hends, rfl, k3⟩ := rends_run (m := m2) hS.ends x
        have h3 := h2.keep k3 (by simp) (by simp)
        have oz3 := oz2.keep k3 (by simp)
        have l03 := h3.l0
        have l33 := h3.l3
        rw [hb0] at l33
        simp only [ne_eq, not_true_eq_false, decide_false] at l33
        have hlx3 : loadRow m3 ⟨ob, (σ.out.length - 1) * 5, none⟩ 5 = some x.cells := by
          rw [(hob.keep k3 (by simp)).load 5 (by rw [← outCells_len]; omega), last_cells hx]
        have k31 := k3.1
        have kk3 : Keeps m m3 [] := k2.trans k3
        simp only [Tok.cells] at hlx hlx3 hends
        cases hE : endsT x with
        | false =>
          rw [hE] at hends
          have hf1 : σ.fin1 = σ := by unfold St.fin1; rw [if_neg (by simp [hEx, hE])]
          rw [hf1] at hg
          obtain ⟨v8, m8, had8, rfl, ao8, fo8, h8, k8, hfo8⟩ := add_run hS.add h3 hb hbt 0 [] 0 0 0
          have had8' : callw Tryd.prog TT S 31 [.pointer (some ⟨mz.next, 0, none⟩), .agg #[.int .i64 0, .string ⟨#[]⟩, .int .i64 0, .int .i64 0, .int .i64 0]] m3 = some (.tuple #[], m8) := had8
          have oz8 := (oz3).keep k8 (by simp; omega)
          have kk8 : Keeps m m8 [] := (kk3).fresh k8 (by simp; omega)
          have k81 := k8.1
          have qt3 := (h3).l3
          rw [hbt] at qt3
          simp only [ne_eq, not_true_eq_false, decide_false] at qt3
          obtain ⟨hsi, hai, hli, hco⟩ := put_same (σ) 0 [] 0
          have hf2 : (σ).fin2 = (σ).put 0 [] 0 := by unfold St.fin2; rw [if_pos hbt]
          rw [hf2] at hg
          rcases put_bad (σ) hbt 0 [] 0 with hbad | ⟨hbad, hw⟩
          · have hres : ((σ).put 0 [] 0).res = (((σ).put 0 [] 0).out, zTok, 0) := by unfold St.res; rw [if_pos hbad]
            rw [hres] at hg
            subst hg
            have q3 := h8.l3
            have q0 := h8.l0
            rw [hbad] at q3
            simp only [ne_eq, not_true_eq_false, decide_false] at q3
            simp [-Int.natCast_add, -BitVec.toNat_or, -BitVec.toNat_ofInt, -BitVec.toNat_and, lres_agg ld31, alloc_of zo31, len_string u9, build_of bo31, store_of sz31, build_of bo57, box_of b57, fieldAddr_of fa57_3, load_of ld4, index_str u9, fieldAddr_of fa57_0, load_of ld29, len_slice u29, index_slice u29 sz31, load_agg ld31, fieldAddr_of fa57_1, load_of ld3, store_of sz3, fieldAddr_of fa57_2, slice_str u9, e1, hlt', l32, l33, l02, l03, hn', hn2, hne, hn, wm1, hm1, hltl, hlx, hlx3, hends, qt3, had8', q3, q0]
            generalize hrr : storeRow _ _ _ = rr
            obtain ⟨mr, rfl, orr, kr⟩ := store_own hrr oz8 (by simp) (by simp [one_int, one_str])
            have lr := orr.load (off := 0) 5 (by simp [over])
            simp [over, window] at lr
            simp [-Int.natCast_add, -BitVec.toNat_or, -BitVec.toNat_ofInt, -BitVec.toNat_and, lres_agg ld31, alloc_of zo31, len_string u9, build_of bo31, store_of sz31, build_of bo57, box_of b57, fieldAddr_of fa57_3, load_of ld4, index_str u9, fieldAddr_of fa57_0, load_of ld29, len_slice u29, index_slice u29 sz31, load_agg ld31, fieldAddr_of fa57_1, load_of ld3, store_of sz3, fieldAddr_of fa57_2, slice_str u9, lr]
            exact ⟨ao8, ⟨rfl, by simp [zTok, Tok.cells]⟩, fo8, by simpa using h8.o.keep kr (by simp; omega), by omega, kk8.fresh kr (by simp)⟩
          · have hres : ((σ).put 0 [] 0).res = ([], ((σ).put 0 [] 0).w, ((σ).put 0 [] 0).bad) := by unfold St.res; rw [if_neg (by rw [hbad]; omega)]
            rw [hres, hw, hbad] at hg
            subst hg
            have q3 := (h8).l3
            have q1 := (h8).l1
            have q2 := (h8).l2
            rw [hbad] at q3
            rw [hli] at q1
            rw [hco] at q2
            simp only [ne_eq, Int.reduceEq, not_false_eq_true, decide_true] at q3
            simp [-Int.natCast_add, -BitVec.toNat_or, -BitVec.toNat_ofInt, -BitVec.toNat_and, lres_agg ld31, alloc_of zo31, len_string u9, build_of bo31, store_of sz31, build_of bo57, box_of b57, fieldAddr_of fa57_3, load_of ld4, index_str u9, fieldAddr_of fa57_0, load_of ld29, len_slice u29, index_slice u29 sz31, load_agg ld31, fieldAddr_of fa57_1, load_of ld3, store_of sz3, fieldAddr_of fa57_2, slice_str u9, e1, hlt', l32, l33, l02, l03, hn', hn2, hne, hn, wm1, hm1, hltl, hlx, hlx3, hends, qt3, had8', q3, q1, q2]
            generalize hrr : storeRow _ _ _ = rr
            obtain ⟨mr, rfl, orr, kr⟩ := store_own hrr oz8 (by simp) (by simp [one_int, one_str])
            have lr := orr.load (off := 0) 5 (by simp [over])
            have qr := (h8).keep kr (by simp; omega) (by simp; omega)
            have q1r := qr.l1
            have q2r := qr.l2
            rw [hli] at q1r
            rw [hco] at q2r
            simp [over, window] at lr
            simp [-Int.natCast_add, -BitVec.toNat_or, -BitVec.toNat_ofInt, -BitVec.toNat_and, lres_agg ld31, alloc_of zo31, len_string u9, build_of bo31, store_of sz31, build_of bo57, box_of b57, fieldAddr_of fa57_3, load_of ld4, index_str u9, fieldAddr_of fa57_0, load_of ld29, len_slice u29, index_slice u29 sz31, load_agg ld31, fieldAddr_of fa57_1, load_of ld3, store_of sz3, fieldAddr_of fa57_2, slice_str u9, q3, q1, q2, q1r, q2r, lr]
            exact ⟨none, by simp [Tok.cells], m.next, Sl.nil _ _ _ _, Nat.le_refl _, (kk8).fresh kr (by simp)⟩
        | true =>
          rw [hE] at hends
          have hf1 : σ.fin1 = σ.put 1 [59] 0 := by unfold St.fin1; rw [if_pos ⟨hb0, by rw [hEx, hE]⟩]
          rw [hf1] at hg
          obtain ⟨v6, m6, hadd, rfl, ao6, fo6, h6, k6, hfo6⟩ := add_run hS.add h3 hb hb0 1 [59] 0 0 0
          have oz6 := oz3.keep k6 (by simp; omega)
          have kk6 : Keeps m m6 [] := kk3.fresh k6 (by simp; omega)
          have k61 := k6.1
          have hb6 := hb.put 1 [59] 0
          obtain ⟨hsi6, hai6, hli6, hco6⟩ := put_same σ 1 [59] 0
          rcases put_bad σ hb0 1 [59] 0 with hbt | ⟨hbad, hw⟩
          · generalize σ.put 1 [59] 0 = τ at hg h6 hb6 hbt hli6 hco6
            obtain ⟨v8, m8, had8, rfl, ao8, fo8, h8, k8, hfo8⟩ := add_run hS.add h6 hb6 hbt 0 [] 0 0 0
            have had8' : callw Tryd.prog TT S 31 [.pointer (some ⟨mz.next, 0, none⟩), .agg #[.int .i64 0, .string ⟨#[]⟩, .int .i64 0, .int .i64 0, .int .i64 0]] m6 = some (.tuple #[], m8) := had8
            have oz8 := (oz6).keep k8 (by simp; omega)
            have kk8 : Keeps m m8 [] := (kk6).fresh k8 (by simp; omega)
            have k81 := k8.1
            have qt3 := (h6).l3
            rw [hbt] at qt3
            simp only [ne_eq, not_true_eq_false, decide_false] at qt3
            obtain ⟨hsi, hai, hli, hco⟩ := put_same (τ) 0 [] 0
            have hf2 : (τ).fin2 = (τ).put 0 [] 0 := by unfold St.fin2; rw [if_pos hbt]
            rw [hf2] at hg
            rcases put_bad (τ) hbt 0 [] 0 with hbad | ⟨hbad, hw⟩
            · have hres : ((τ).put 0 [] 0).res = (((τ).put 0 [] 0).out, zTok, 0) := by unfold St.res; rw [if_pos hbad]
              rw [hres] at hg
              subst hg
              have q3 := h8.l3
              have q0 := h8.l0
              rw [hbad] at q3
              simp only [ne_eq, not_true_eq_false, decide_false] at q3
              simp [-Int.natCast_add, -BitVec.toNat_or, -BitVec.toNat_ofInt, -BitVec.toNat_and, lres_agg ld31, alloc_of zo31, len_string u9, build_of bo31, store_of sz31, build_of bo57, box_of b57, fieldAddr_of fa57_3, load_of ld4, index_str u9, fieldAddr_of fa57_0, load_of ld29, len_slice u29, index_slice u29 sz31, load_agg ld31, fieldAddr_of fa57_1, load_of ld3, store_of sz3, fieldAddr_of fa57_2, slice_str u9, e1, hlt', l32, l33, l02, l03, hn', hn2, hne, hn, wm1, hm1, hltl, hlx, hlx3, hends, hadd, qt3, had8', q3, q0]
              generalize hrr : storeRow _ _ _ = rr
              obtain ⟨mr, rfl, orr, kr⟩ := store_own hrr oz8 (by simp) (by simp [one_int, one_str])
              have lr := orr.load (off := 0) 5 (by simp [over])
              simp [over, window] at lr
              simp [-Int.natCast_add, -BitVec.toNat_or, -BitVec.toNat_ofInt, -BitVec.toNat_and, lres_agg ld31, alloc_of zo31, len_string u9, build_of bo31, store_of sz31, build_of bo57, box_of b57, fieldAddr_of fa57_3, load_of ld4, index_str u9, fieldAddr_of fa57_0, load_of ld29, len_slice u29, index_slice u29 sz31, load_agg ld31, fieldAddr_of fa57_1, load_of ld3, store_of sz3, fieldAddr_of fa57_2, slice_str u9, lr]
              exact ⟨ao8, ⟨rfl, by simp [zTok, Tok.cells]⟩, fo8, by simpa using h8.o.keep kr (by simp; omega), by omega, kk8.fresh kr (by simp)⟩
            · have hres : ((τ).put 0 [] 0).res = ([], ((τ).put 0 [] 0).w, ((τ).put 0 [] 0).bad) := by unfold St.res; rw [if_neg (by rw [hbad]; omega)]
              rw [hres, hw, hbad] at hg
              subst hg
              have q3 := (h8).l3
              have q1 := (h8).l1
              have q2 := (h8).l2
              rw [hbad] at q3
              rw [hli] at q1
              rw [hco] at q2
              simp only [ne_eq, Int.reduceEq, not_false_eq_true, decide_true] at q3
              simp [-Int.natCast_add, -BitVec.toNat_or, -BitVec.toNat_ofInt, -BitVec.toNat_and, lres_agg ld31, alloc_of zo31, len_string u9, build_of bo31, store_of sz31, build_of bo57, box_of b57, fieldAddr_of fa57_3, load_of ld4, index_str u9, fieldAddr_of fa57_0, load_of ld29, len_slice u29, index_slice u29 sz31, load_agg ld31, fieldAddr_of fa57_1, load_of ld3, store_of sz3, fieldAddr_of fa57_2, slice_str u9, e1, hlt', l32, l33, l02, l03, hn', hn2, hne, hn, wm1, hm1, hltl, hlx, hlx3, hends, hadd, qt3, had8', q3, q1, q2]
              generalize hrr : storeRow _ _ _ = rr
              obtain ⟨mr, rfl, orr, kr⟩ := store_own hrr oz8 (by simp) (by simp [one_int, one_str])
              have lr := orr.load (off := 0) 5 (by simp [over])
              have qr := (h8).keep kr (by simp; omega) (by simp; omega)
              have q1r := qr.l1
              have q2r := qr.l2
              rw [hli] at q1r
              rw [hco] at q2r
              simp [over, window] at lr
              simp [-Int.natCast_add, -BitVec.toNat_or, -BitVec.toNat_ofInt, -BitVec.toNat_and, lres_agg ld31, alloc_of zo31, len_string u9, build_of bo31, store_of sz31, build_of bo57, box_of b57, fieldAddr_of fa57_3, load_of ld4, index_str u9, fieldAddr_of fa57_0, load_of ld29, len_slice u29, index_slice u29 sz31, load_agg ld31, fieldAddr_of fa57_1, load_of ld3, store_of sz3, fieldAddr_of fa57_2, slice_str u9, q3, q1, q2, q1r, q2r, lr]
              exact ⟨none, by simp [Tok.cells], m.next, Sl.nil _ _ _ _, Nat.le_refl _, (kk8).fresh kr (by simp)⟩
          · have hf2 : (σ.put 1 [59] 0).fin2 = σ.put 1 [59] 0 := by unfold St.fin2; rw [if_neg (by rw [hbad]; omega)]
            have hres : (σ.put 1 [59] 0).res = ([], (σ.put 1 [59] 0).w, (σ.put 1 [59] 0).bad) := by unfold St.res; rw [if_neg (by rw [hbad]; omega)]
            rw [hf2, hres, hw, hbad] at hg
            subst hg
            have hli := hli6
            have hco := hco6
            have q3 := (h6).l3
            have q1 := (h6).l1
            have q2 := (h6).l2
            rw [hbad] at q3
            rw [hli] at q1
            rw [hco] at q2
            simp only [ne_eq, Int.reduceEq, not_false_eq_true, decide_true] at q3
            simp [-Int.natCast_add, -BitVec.toNat_or, -BitVec.toNat_ofInt, -BitVec.toNat_and, lres_agg ld31, alloc_of zo31, len_string u9, build_of bo31, store_of sz31, build_of bo57, box_of b57, fieldAddr_of fa57_3, load_of ld4, index_str u9, fieldAddr_of fa57_0, load_of ld29, len_slice u29, index_slice u29 sz31, load_agg ld31, fieldAddr_of fa57_1, load_of ld3, store_of sz3, fieldAddr_of fa57_2, slice_str u9, e1, hlt', l32, l33, l02, l03, hn', hn2, hne, hn, wm1, hm1, hltl, hlx, hlx3, hends, hadd, q3, q1, q2]
            generalize hrr : storeRow _ _ _ = rr
            obtain ⟨mr, rfl, orr, kr⟩ := store_own hrr oz6 (by simp) (by simp [one_int, one_str])
            have lr := orr.load (off := 0) 5 (by simp [over])
            have qr := (h6).keep kr (by simp; omega) (by simp; omega)
            have q1r := qr.l1
            have q2r := qr.l2
            rw [hli] at q1r
            rw [hco] at q2r
            simp [over, window] at lr
            simp [-Int.natCast_add, -BitVec.toNat_or, -BitVec.toNat_ofInt, -BitVec.toNat_and, lres_agg ld31, alloc_of zo31, len_string u9, build_of bo31, store_of sz31, build_of bo57, box_of b57, fieldAddr_of fa57_3, load_of ld4, index_str u9, fieldAddr_of fa57_0, load_of ld29, len_slice u29, index_slice u29 sz31, load_agg ld31, fieldAddr_of fa57_1, load_of ld3, store_of sz3, fieldAddr_of fa57_2, slice_str u9, q3, q1, q2, q1r, q2r, lr]
            exact ⟨none, by simp [Tok.cells], m.next, Sl.nil _ _ _ _, Nat.le_refl _, (kk6).fresh kr (by simp)⟩
end Go.Proofs.YtgomgdbapgibjaaDoor.base

