/-
  This text proves what 'All' of package token does over the abstract run: 'allR'.
  Condition: nothing is known of their calls ahead ('S f = []').
-/
import Derived.Test.YtgomgdbapgibjaaDoorTokG
set_option maxRecDepth 100000
set_option linter.unusedSimpArgs false
set_option linter.unusedVariables false
namespace Go.Proofs.YtgomgdbapgibjaaDoor.base
open Go.Sh gen
variable {S : Sums} {m : Mem} {b f fo : Nat} {ao : Option Addr} {σ : St}
theorem sc_new {s : List UInt8} (cs : List Value) (hcs : cs = (st0 s).cells none) : Sc (m.new cs 52) m.next m.next none (m.next + 1) (st0 s) := by
  subst hcs
  exact ⟨Own.new m _ _, Sl.nil _ _ _ _, by omega⟩
theorem allP_run (hS : Nu S) (hA : S 13 = []) (s : List UInt8) (hsz : s.length ≤ 9223372036854775807) :
    ∃ v m1, callw Tryd.prog TT S 13 [.string ⟨s.toArray⟩] m = some (v, m1) ∧ ∃ ao fo, v = .tuple #[.slice ao (allR s).1.length (allR s).1.length, .agg (allR s).2.1.cells.toArray, .int .i64 (allR s).2.2] ∧
      Sl m1 ao (allR s).1.length (outCells (allR s).1) 31 5 fo ∧ m.next ≤ fo ∧ Keeps m m1 [] := by
  obtain ⟨oz, kz, nz⟩ := new_own (m := m) (cs := zTok.cells) (e := 31) rfl
  refine fn_w 6 [8, 26, 37, 44, 51] k13 hA rfl ?_
  by_cases hl : 16384 < s.length
  · have hl' : (16384 : Int) < s.length := by omega
    have hR : allR s = ([], ⟨0, [], 0, 1, 1⟩, 6) := by unfold allR; rw [if_pos hl]
    rw [hR]
    simp only [zTok, Tok.cells] at oz kz
    simp [-BitVec.toNat_or, -BitVec.toNat_ofInt, -BitVec.toNat_and, lres_agg ld31, alloc_of zo31, len_string u9, build_of bo31, store_of sz31, build_of bo52, box_of b52, fieldAddr_of fa52_1, load_of ld3, fieldAddr_of fa52_5, load_of ld32, fieldAddr_of fa52_6, load_agg ld31, fieldAddr_of fa52_4, load_of ld29, hl']
    generalize hr : storeRow _ _ _ = r
    obtain ⟨m1, rfl, o1, k1⟩ := store_own hr oz (by simp) (by simp [one_int, one_str])
    have l1 := o1.load (off := 0) 5 (by simp [over])
    simp [over, window] at l1
    simp [-BitVec.toNat_or, -BitVec.toNat_ofInt, -BitVec.toNat_and, lres_agg ld31, alloc_of zo31, len_string u9, build_of bo31, store_of sz31, build_of bo52, box_of b52, fieldAddr_of fa52_1, load_of ld3, fieldAddr_of fa52_5, load_of ld32, fieldAddr_of fa52_6, load_agg ld31, fieldAddr_of fa52_4, load_of ld29, l1]
    exact ⟨none, ⟨rfl, rfl⟩, m.next, Sl.nil _ _ _ _, Nat.le_refl _, kz.mono2 k1 (Nat.le_refl _)⟩
  · have hl' : ¬ (16384 : Int) < s.length := by omega
    have hR : allR s = (goF (s.length + 1) (st0 s)).fin1.fin2.res := by unfold allR; rw [if_neg hl]
    rw [hR]
    simp only [zTok, Tok.cells] at oz kz nz
    obtain ⟨mz, hmz⟩ : ∃ mz, m.new [Value.int .i64 0, .string ⟨#[]⟩, .int .i64 0, .int .i64 0, .int .i64 0] 31 = mz := ⟨_, rfl⟩
    have hmz' : m.new [Value.int .i64 0, .string ⟨([] : List UInt8).toArray⟩, .int .i64 0, .int .i64 0, .int .i64 0] 31 = mz := hmz
    rw [hmz'] at oz kz nz
    have hsc := sc_new (m := mz) (s := s) _ rfl
    simp only [st0, St.cells, zTok, Tok.cells, List.length_nil, List.cons_append, List.nil_append, Int.natCast_zero, Int.natCast_one] at hsc
    generalize hG : goF (s.length + 1) (st0 s) = G
    simp [-BitVec.toNat_or, -BitVec.toNat_ofInt, -BitVec.toNat_and, lres_agg ld31, alloc_of zo31, len_string u9, build_of bo31, store_of sz31, build_of bo52, box_of b52, fieldAddr_of fa52_1, load_of ld3, fieldAddr_of fa52_5, load_of ld32, fieldAddr_of fa52_6, load_agg ld31, fieldAddr_of fa52_4, load_of ld29, hl', hmz]
    refine wsem_loop 6 [8, 26, 37, 44, 51] (fun d E m2 => ∃ (σ : St) (ao : Option Addr) (fo : Nat), Sc m2 mz.next mz.next ao fo σ ∧ Bd σ ∧ goF d σ = G ∧ (σ.bad = 0 → σ.s.length - σ.at_ < d) ∧ σ.s = s ∧ E = [(0, .string ⟨s.toArray⟩), (2, .slice none 0 0), (3, .pointer (some ⟨m.next, 0, none⟩)), (4, .int .i64 0), (5, .pointer (some ⟨mz.next, 0, none⟩))] ∧
      Own m2 m.next [Value.int .i64 0, .string ⟨#[]⟩, .int .i64 0, .int .i64 0, .int .i64 0] 31 m.next ∧ mz.next < fo ∧ mz.next < m2.next ∧ Keeps m m2 []) (s.length + 1) ⟨_, ⟨st0 s, none, mz.next + 1, hsc, ⟨by simp [st0]; omega, by simp [st0], by simp [st0], by simp [st0], by simp [st0]⟩, hG, fun _ => by simp [st0], rfl, rfl, oz.new_other _ _, by omega, by simp [Mem.new], kz.trans (keeps_new _ _ _ _)⟩, ⟨rfl, rfl, rfl, rfl, rfl, trivial⟩⟩ ?_
    rintro d E m2 ih ⟨σ, ao, fo, h2, hb, hg, hd, hss, rfl, oz2, hfo, hmm, k2⟩
    have l1 := h2.l1
    have l52 := h2.l5
    by_cases hgo : σ.at_ < σ.s.length ∧ σ.bad = 0
    · obtain ⟨g1, g2⟩ := hgo
      have g1' : (σ.at_ : Int) < s.length := by rw [← hss]; omega
      obtain ⟨d', rfl⟩ : ∃ d', d = d' + 1 := ⟨d - 1, by have := hd g2; omega⟩
      simp only [goF] at hg
      rw [if_pos ⟨g1, g2⟩] at hg
      obtain ⟨v, m3, hc, ao3, fo3, h3, k3, hfo3⟩ := one_run hS h2 hb g1
      obtain ⟨b3, p3, s3⟩ := step_ok hb g1 g2
      rw [g2] at l52
      simp [-BitVec.toNat_or, -BitVec.toNat_ofInt, -BitVec.toNat_and, lres_agg ld31, alloc_of zo31, len_string u9, build_of bo31, store_of sz31, build_of bo52, box_of b52, fieldAddr_of fa52_1, load_of ld3, fieldAddr_of fa52_5, load_of ld32, fieldAddr_of fa52_6, load_agg ld31, fieldAddr_of fa52_4, load_of ld29, l1, l52, g1', hc]
      have hmn : m.next < mz.next := nz
      refine ih _ _ _ _ ⟨σ.step, ao3, fo3, h3, b3, hg, fun e => ?_, by rw [s3]; exact hss, rfl, oz2.keep k3 (by simp; omega), by omega, by have := k3.1; omega, k2.fresh k3 (by simp; omega)⟩ (by omega) ⟨rfl, rfl, rfl, rfl, rfl, trivial⟩
      have := p3 e
      have := hd g2
      rw [s3]
      have := b3.a
      rw [s3] at this
      omega
    · have hgσ : σ = G := by
        cases d with
        | zero => exact hg
        | succ d => simp only [goF] at hg; rw [if_neg hgo] at hg; exact hg
      have hmn : m.next < mz.next := nz
      clear hg
      subst hgσ
      by_cases hb0 : σ.bad = 0
      · have g1' : ¬ (σ.at_ : Int) < s.length := by rw [← hss]; intro h; exact hgo ⟨by omega, hb0⟩
        rw [hb0] at l52
        obtain ⟨v, m3, he, rfl, k3⟩ := ends_run hS.ends h2 hb
        have h3 := h2.keep k3 (by simp) (by simp)
        have oz3 := oz2.keep k3 (by simp)
        have l53 := h3.l5
        rw [hb0] at l53
        have kk3 := k2.trans k3
        have k31 := k3.1
        cases hE : endsB σ.out with
        | false =>
          rw [hE] at he
          have hf1 : σ.fin1 = σ := by unfold St.fin1; rw [if_neg (by simp [hE])]
          obtain ⟨v, m4, hp, rfl, ao4, fo4, h4, k4, hfo4⟩ := put_run hS.put h3 hb 0 [] 0
          have oz4 := oz3.keep k4 (by simp; omega)
          have hf2 : σ.fin1.fin2 = σ.put 0 [] 0 := by rw [hf1]; unfold St.fin2; rw [if_pos hb0]
          have kk4 := kk3.fresh k4 (by simp; omega)
          rw [hf2]
          have hp' : callw Tryd.prog TT S 25 [.pointer (some ⟨mz.next, 0, none⟩), .int .i64 0, .string ⟨#[]⟩, .int .i64 0] m3 = some (.tuple #[], m4) := hp
          by_cases hbp : (σ.put 0 [] 0).bad = 0
          · have hres : (σ.put 0 [] 0).res = ((σ.put 0 [] 0).out, zTok, 0) := by unfold St.res; rw [if_pos hbp]
            rw [hres]
            have l5 := (h4).l5
            have l4 := (h4).l4
            simp [-Int.natCast_add, -BitVec.toNat_or, -BitVec.toNat_ofInt, -BitVec.toNat_and, lres_agg ld31, alloc_of zo31, len_string u9, build_of bo31, store_of sz31, build_of bo52, box_of b52, fieldAddr_of fa52_1, load_of ld3, fieldAddr_of fa52_5, load_of ld32, fieldAddr_of fa52_6, load_agg ld31, fieldAddr_of fa52_4, load_of ld29, l1, g1', l52, l53, he, hp', hbp, l5, l4]
            generalize hrr : storeRow _ _ _ = rr
            obtain ⟨mr, rfl, orr, kr⟩ := store_own hrr oz4 (by simp) (by simp [one_int, one_str])
            have lr := orr.load (off := 0) 5 (by simp [over])
            simp [over, window] at lr
            simp [-Int.natCast_add, -BitVec.toNat_or, -BitVec.toNat_ofInt, -BitVec.toNat_and, lres_agg ld31, alloc_of zo31, len_string u9, build_of bo31, store_of sz31, build_of bo52, box_of b52, fieldAddr_of fa52_1, load_of ld3, fieldAddr_of fa52_5, load_of ld32, fieldAddr_of fa52_6, load_agg ld31, fieldAddr_of fa52_4, load_of ld29, lr]
            exact ⟨ao4, ⟨by first | rfl | simp_all, rfl⟩, fo4, by simpa using (h4).o.keep kr (by simp; omega), by omega, (kk4).fresh kr (by simp)⟩
          · have hres : (σ.put 0 [] 0).res = ([], (σ.put 0 [] 0).w, (σ.put 0 [] 0).bad) := by unfold St.res; rw [if_neg hbp]
            rw [hres]
            have l5 := (h4).l5
            have l6 := (h4).l6
            simp only [Tok.cells] at l6
            simp [-Int.natCast_add, -BitVec.toNat_or, -BitVec.toNat_ofInt, -BitVec.toNat_and, lres_agg ld31, alloc_of zo31, len_string u9, build_of bo31, store_of sz31, build_of bo52, box_of b52, fieldAddr_of fa52_1, load_of ld3, fieldAddr_of fa52_5, load_of ld32, fieldAddr_of fa52_6, load_agg ld31, fieldAddr_of fa52_4, load_of ld29, l1, g1', l52, l53, he, hp', hbp, l5, l6]
            generalize hrr : storeRow _ _ _ = rr
            obtain ⟨mr, rfl, orr, kr⟩ := store_own hrr oz4 (by simp) (by simp [one_int, one_str])
            have lr := orr.load (off := 0) 5 (by simp [over])
            have scr := (h4).keep kr (by simp; omega) (by simp; omega)
            have l5r := scr.l5
            have l6r := scr.l6
            simp only [Tok.cells] at l6r
            simp [over, window] at lr
            simp [-Int.natCast_add, -BitVec.toNat_or, -BitVec.toNat_ofInt, -BitVec.toNat_and, lres_agg ld31, alloc_of zo31, len_string u9, build_of bo31, store_of sz31, build_of bo52, box_of b52, fieldAddr_of fa52_1, load_of ld3, fieldAddr_of fa52_5, load_of ld32, fieldAddr_of fa52_6, load_agg ld31, fieldAddr_of fa52_4, load_of ld29, l1, g1', l52, l53, he, hp', hbp, l5, l6, l5r, l6r, lr]
            exact ⟨none, ⟨rfl, rfl⟩, m.next, Sl.nil _ _ _ _, Nat.le_refl _, (kk4).fresh kr (by simp)⟩
        | true =>
          rw [hE] at he
          have hf1 : σ.fin1 = σ.put 1 [59] 0 := by unfold St.fin1; rw [if_pos ⟨hb0, hE⟩]
          obtain ⟨v, m4, hp, rfl, ao4, fo4, h4, k4, hfo4⟩ := put_run hS.put h3 hb 1 [59] 0
          have oz4 := oz3.keep k4 (by simp; omega)
          have kk4 := kk3.fresh k4 (by simp; omega)
          have hbd := hb.put 1 [59] 0
          have hp' : callw Tryd.prog TT S 25 [.pointer (some ⟨mz.next, 0, none⟩), .int .i64 1, .string ⟨#[59]⟩, .int .i64 0] m3 = some (.tuple #[], m4) := hp
          rw [hf1]
          generalize σ.put 1 [59] 0 = τ at h4 hbd
          have l54 := h4.l5
          have k41 := k4.1
          by_cases hbq : τ.bad = 0
          · rw [hbq] at l54
            obtain ⟨v, m5, hp5, rfl, ao5, fo5, h5, k5, hfo5⟩ := put_run hS.put h4 hbd 0 [] 0
            have oz5 := oz4.keep k5 (by simp; omega)
            have kk5 := kk4.fresh k5 (by simp; omega)
            have hp5' : callw Tryd.prog TT S 25 [.pointer (some ⟨mz.next, 0, none⟩), .int .i64 0, .string ⟨#[]⟩, .int .i64 0] m4 = some (.tuple #[], m5) := hp5
            have hf2 : τ.fin2 = τ.put 0 [] 0 := by unfold St.fin2; rw [if_pos hbq]
            rw [hf2]
            by_cases hbp : (τ.put 0 [] 0).bad = 0
            · have hres : (τ.put 0 [] 0).res = ((τ.put 0 [] 0).out, zTok, 0) := by unfold St.res; rw [if_pos hbp]
              rw [hres]
              have l5 := (h5).l5
              have l4 := (h5).l4
              simp [-Int.natCast_add, -BitVec.toNat_or, -BitVec.toNat_ofInt, -BitVec.toNat_and, lres_agg ld31, alloc_of zo31, len_string u9, build_of bo31, store_of sz31, build_of bo52, box_of b52, fieldAddr_of fa52_1, load_of ld3, fieldAddr_of fa52_5, load_of ld32, fieldAddr_of fa52_6, load_agg ld31, fieldAddr_of fa52_4, load_of ld29, l1, g1', l52, l53, he, hp', l54, hp5', hbp, l5, l4]
              generalize hrr : storeRow _ _ _ = rr
              obtain ⟨mr, rfl, orr, kr⟩ := store_own hrr oz5 (by simp) (by simp [one_int, one_str])
              have lr := orr.load (off := 0) 5 (by simp [over])
              simp [over, window] at lr
              simp [-Int.natCast_add, -BitVec.toNat_or, -BitVec.toNat_ofInt, -BitVec.toNat_and, lres_agg ld31, alloc_of zo31, len_string u9, build_of bo31, store_of sz31, build_of bo52, box_of b52, fieldAddr_of fa52_1, load_of ld3, fieldAddr_of fa52_5, load_of ld32, fieldAddr_of fa52_6, load_agg ld31, fieldAddr_of fa52_4, load_of ld29, lr]
              exact ⟨ao5, ⟨by first | rfl | simp_all, rfl⟩, fo5, by simpa using (h5).o.keep kr (by simp; omega), by omega, (kk5).fresh kr (by simp)⟩
            · have hres : (τ.put 0 [] 0).res = ([], (τ.put 0 [] 0).w, (τ.put 0 [] 0).bad) := by unfold St.res; rw [if_neg hbp]
              rw [hres]
              have l5 := (h5).l5
              have l6 := (h5).l6
              simp only [Tok.cells] at l6
              simp [-Int.natCast_add, -BitVec.toNat_or, -BitVec.toNat_ofInt, -BitVec.toNat_and, lres_agg ld31, alloc_of zo31, len_string u9, build_of bo31, store_of sz31, build_of bo52, box_of b52, fieldAddr_of fa52_1, load_of ld3, fieldAddr_of fa52_5, load_of ld32, fieldAddr_of fa52_6, load_agg ld31, fieldAddr_of fa52_4, load_of ld29, l1, g1', l52, l53, he, hp', l54, hp5', hbp, l5, l6]
              generalize hrr : storeRow _ _ _ = rr
              obtain ⟨mr, rfl, orr, kr⟩ := store_own hrr oz5 (by simp) (by simp [one_int, one_str])
              have lr := orr.load (off := 0) 5 (by simp [over])
              have scr := (h5).keep kr (by simp; omega) (by simp; omega)
              have l5r := scr.l5
              have l6r := scr.l6
              simp only [Tok.cells] at l6r
              simp [over, window] at lr
              simp [-Int.natCast_add, -BitVec.toNat_or, -BitVec.toNat_ofInt, -BitVec.toNat_and, lres_agg ld31, alloc_of zo31, len_string u9, build_of bo31, store_of sz31, build_of bo52, box_of b52, fieldAddr_of fa52_1, load_of ld3, fieldAddr_of fa52_5, load_of ld32, fieldAddr_of fa52_6, load_agg ld31, fieldAddr_of fa52_4, load_of ld29, l1, g1', l52, l53, he, hp', l54, hp5', hbp, l5, l6, l5r, l6r, lr]
              exact ⟨none, ⟨rfl, rfl⟩, m.next, Sl.nil _ _ _ _, Nat.le_refl _, (kk5).fresh kr (by simp)⟩
          · have hf2 : τ.fin2 = τ := by unfold St.fin2; rw [if_neg hbq]
            have hres : τ.res = ([], τ.w, τ.bad) := by unfold St.res; rw [if_neg hbq]
            rw [hf2, hres]
            have l5 := (h4).l5
            have l6 := (h4).l6
            simp only [Tok.cells] at l6
            simp [-Int.natCast_add, -BitVec.toNat_or, -BitVec.toNat_ofInt, -BitVec.toNat_and, lres_agg ld31, alloc_of zo31, len_string u9, build_of bo31, store_of sz31, build_of bo52, box_of b52, fieldAddr_of fa52_1, load_of ld3, fieldAddr_of fa52_5, load_of ld32, fieldAddr_of fa52_6, load_agg ld31, fieldAddr_of fa52_4, load_of ld29, l1, g1', l52, l53, he, hp', hbq, l5, l6]
            generalize hrr : storeRow _ _ _ = rr
            obtain ⟨mr, rfl, orr, kr⟩ := store_own hrr oz4 (by simp) (by simp [one_int, one_str])
            have lr := orr.load (off := 0) 5 (by simp [over])
            have scr := (h4).keep kr (by simp; omega) (by simp; omega)
            have l5r := scr.l5
            have l6r := scr.l6
            simp only [Tok.cells] at l6r
            simp [over, window] at lr
            simp [-Int.natCast_add, -BitVec.toNat_or, -BitVec.toNat_ofInt, -BitVec.toNat_and, lres_agg ld31, alloc_of zo31, len_string u9, build_of bo31, store_of sz31, build_of bo52, box_of b52, fieldAddr_of fa52_1, load_of ld3, fieldAddr_of fa52_5, load_of ld32, fieldAddr_of fa52_6, load_agg ld31, fieldAddr_of fa52_4, load_of ld29, l1, g1', l52, l53, he, hp', hbq, l5, l6, l5r, l6r, lr]
            exact ⟨none, ⟨rfl, rfl⟩, m.next, Sl.nil _ _ _ _, Nat.le_refl _, (kk4).fresh kr (by simp)⟩
      · have hf1 : σ.fin1 = σ := by unfold St.fin1; rw [if_neg (by simp [hb0])]
        have hf2 : σ.fin1.fin2 = σ := by rw [hf1]; unfold St.fin2; rw [if_neg hb0]
        have hres : σ.res = ([], σ.w, σ.bad) := by unfold St.res; rw [if_neg hb0]
        rw [hf2, hres]
        by_cases g1 : σ.at_ < σ.s.length
        · have g1' : (σ.at_ : Int) < s.length := by rw [← hss]; omega
          have l5 := (h2).l5
          have l6 := (h2).l6
          simp only [Tok.cells] at l6
          simp [-Int.natCast_add, -BitVec.toNat_or, -BitVec.toNat_ofInt, -BitVec.toNat_and, lres_agg ld31, alloc_of zo31, len_string u9, build_of bo31, store_of sz31, build_of bo52, box_of b52, fieldAddr_of fa52_1, load_of ld3, fieldAddr_of fa52_5, load_of ld32, fieldAddr_of fa52_6, load_agg ld31, fieldAddr_of fa52_4, load_of ld29, l1, g1', hb0, l5, l6]
          generalize hrr : storeRow _ _ _ = rr
          obtain ⟨mr, rfl, orr, kr⟩ := store_own hrr oz2 (by simp) (by simp [one_int, one_str])
          have lr := orr.load (off := 0) 5 (by simp [over])
          have scr := (h2).keep kr (by simp; omega) (by simp; omega)
          have l5r := scr.l5
          have l6r := scr.l6
          simp only [Tok.cells] at l6r
          simp [over, window] at lr
          simp [-Int.natCast_add, -BitVec.toNat_or, -BitVec.toNat_ofInt, -BitVec.toNat_and, lres_agg ld31, alloc_of zo31, len_string u9, build_of bo31, store_of sz31, build_of bo52, box_of b52, fieldAddr_of fa52_1, load_of ld3, fieldAddr_of fa52_5, load_of ld32, fieldAddr_of fa52_6, load_agg ld31, fieldAddr_of fa52_4, load_of ld29, l1, g1', hb0, l5, l6, l5r, l6r, lr]
          exact ⟨none, ⟨rfl, rfl⟩, m.next, Sl.nil _ _ _ _, Nat.le_refl _, (k2).fresh kr (by simp)⟩
        · have g1' : ¬ (σ.at_ : Int) < s.length := by rw [← hss]; omega
          have l5 := (h2).l5
          have l6 := (h2).l6
          simp only [Tok.cells] at l6
          simp [-Int.natCast_add, -BitVec.toNat_or, -BitVec.toNat_ofInt, -BitVec.toNat_and, lres_agg ld31, alloc_of zo31, len_string u9, build_of bo31, store_of sz31, build_of bo52, box_of b52, fieldAddr_of fa52_1, load_of ld3, fieldAddr_of fa52_5, load_of ld32, fieldAddr_of fa52_6, load_agg ld31, fieldAddr_of fa52_4, load_of ld29, l1, g1', hb0, l5, l6]
          generalize hrr : storeRow _ _ _ = rr
          obtain ⟨mr, rfl, orr, kr⟩ := store_own hrr oz2 (by simp) (by simp [one_int, one_str])
          have lr := orr.load (off := 0) 5 (by simp [over])
          have scr := (h2).keep kr (by simp; omega) (by simp; omega)
          have l5r := scr.l5
          have l6r := scr.l6
          simp only [Tok.cells] at l6r
          simp [over, window] at lr
          simp [-Int.natCast_add, -BitVec.toNat_or, -BitVec.toNat_ofInt, -BitVec.toNat_and, lres_agg ld31, alloc_of zo31, len_string u9, build_of bo31, store_of sz31, build_of bo52, box_of b52, fieldAddr_of fa52_1, load_of ld3, fieldAddr_of fa52_5, load_of ld32, fieldAddr_of fa52_6, load_agg ld31, fieldAddr_of fa52_4, load_of ld29, l1, g1', hb0, l5, l6, l5r, l6r, lr]
          exact ⟨none, ⟨rfl, rfl⟩, m.next, Sl.nil _ _ _ _, Nat.le_refl _, (k2).fresh kr (by simp)⟩
end Go.Proofs.YtgomgdbapgibjaaDoor.base

