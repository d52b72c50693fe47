/-
  This text proves what the cache's 'Invalidate' does, over the abstract run.
  Condition: nothing is known of the calls ahead ('S f = []').
-/
import Derived.Test.YtljklfimdanmlaaCacJ
set_option maxRecDepth 100000
set_option linter.unusedSimpArgs false
set_option linter.unusedVariables false
namespace Go.Proofs.Ytljklfimdanmlaa.base
open Go.Sh gen
variable {S : Sums} {m : Mem} {cb f0 fa : Nat} {x0 x2 : Value} {a : Option Addr} {l A : List Px} {Q : Nat → Prop} {room uses : Nat}
/-- is it among them? -/
def isIn (f : Int) (l : List Int) : Bool := l.any fun y => decide (y = f)
set_option maxHeartbeats 1000000 in
theorem cont_run (hN : Nc S) {ao : Option Addr} {fam : Nat} {l : List Int} {f : Int} (hl : l.length ≤ 1000) (h : Rs m ao l.length (ic l) 3 1 fam) :
    callw Try.prog TT S 33 [.slice ao l.length l.length, .int .i64 f] m = some (.bool (isIn f l), m) := by
  have hi : ∃ v m1, callw Try.prog TT S 44 [.slice ao l.length l.length, .int .i64 f] m = some (v, m1) ∧ (∃ r : Int, v = .int .i64 r ∧ decide (0 ≤ r) = isIn f l) ∧ m1 = m := by
    refine fn_w 9 [9, 16] k44 hN.index rfl ?_
    obtain ⟨B, hB⟩ : ∃ B, isIn f l = B := ⟨_, rfl⟩
    rw [hB]
    simp [-Int.natCast_add, -BitVec.toNat_or, -BitVec.toNat_ofInt, -BitVec.toNat_and, len_slice u29, index_slice u29 sz3, load_of ld3]
    refine wsem_loop 9 [9, 16] (fun d E mF => ∃ (i : Nat), l.length - i = d ∧ i ≤ l.length ∧ mF = m ∧ isIn f (l.drop i) = B ∧
      E = [(0, .slice ao l.length l.length), (1, .int .i64 f), (7, .int .i64 (l.length : Int)), (8, .int .i64 (i : Int))]) _ ⟨_, ⟨0, rfl, by omega, rfl, by rw [List.drop_zero]; exact hB, rfl⟩, ⟨by rfl, by rfl, by rfl, by rfl, trivial⟩⟩ ?_
    rintro d E mF ih ⟨i, hd, hi, hm, ha, rfl⟩
    rw [hm]
    have im : (i : Int) ≤ 9223372036854775807 := by omega
    by_cases hlt : i < l.length
    · have hlt' : (i : Int) < l.length := by omega
      have wi : IntKind.i64.wrap ((i : Int) + 1) = ((i + 1 : Nat) : Int) := by rw [wrap_i64 (by omega) (by omega)]; omega
      obtain ⟨b, rfl, o⟩ := h.rdo (by omega)
      have l1 := o.load1 (off := i) (v := .int .i64 l[i]) (by simp [hlt])
      have ed : isIn f (l.drop i) = (decide (l[i] = f) || isIn f (l.drop (i + 1))) := by
        rw [List.drop_eq_getElem_cons hlt]; rfl
      rw [ed] at ha
      by_cases hf : f = l[i]
      · have e : decide (l[i] = f) = true := decide_eq_true hf.symm
        rw [e, Bool.true_or] at ha
        simp [-Int.natCast_add, -BitVec.toNat_or, -BitVec.toNat_ofInt, -BitVec.toNat_and, len_slice u29, index_slice u29 sz3, load_of ld3, hlt, hlt', l1, im, ← hf]
        exact ha.symm
      · have e : decide (l[i] = f) = false := decide_eq_false (fun h => hf h.symm)
        rw [e, Bool.false_or] at ha
        simp [-Int.natCast_add, -BitVec.toNat_or, -BitVec.toNat_ofInt, -BitVec.toNat_and, len_slice u29, index_slice u29 sz3, load_of ld3, hlt, hlt', l1, im, hf, wi]
        exact ih _ _ _ _ ⟨i + 1, rfl, by omega, rfl, ha, rfl⟩ (by omega) ⟨by rfl, by rfl, by rfl, by rfl, trivial⟩
    · have hlt' : ¬ (i : Int) < l.length := by omega
      have e : i = l.length := by omega
      rw [e, List.drop_length] at ha
      simp [-Int.natCast_add, -BitVec.toNat_or, -BitVec.toNat_ofInt, -BitVec.toNat_and, len_slice u29, index_slice u29 sz3, load_of ld3, hlt, hlt']
      rw [← ha]; rfl
  obtain ⟨v, m1, c1, ⟨r, rfl, hr⟩, rfl⟩ := hi
  refine fn_eq 5 [] k33 hN.cont rfl ?_
  simp [-Int.natCast_add, -BitVec.toNat_or, -BitVec.toNat_ofInt, -BitVec.toNat_and, id, c1]
  exact hr
/-- does it hang on a function? -/
def hit (f : Int) (x : Px) : Bool := decide (x.f = f) || isIn f x.needs
theorem foldl_wo (G : List Px) : ∀ A : List Px, G.foldl (fun B g => wo g.f g.pc B) A = A.filter (fun x => !(G.any fun g => mtk g.f g.pc x)) := by
  induction G with
  | nil => intro A; exact (List.filter_eq_self.2 (fun _ _ => rfl)).symm
  | cons g G ih =>
    intro A
    rw [List.foldl_cons, ih]
    simp only [wo, List.filter_filter, List.any_cons]
    congr 1
    funext x
    cases mtk g.f g.pc x <;> simp
theorem same_key (h : A.Pairwise (fun x y => ¬ (x.f = y.f ∧ x.pc = y.pc))) {x y : Px} (hx : x ∈ A) (hy : y ∈ A) (e : x.f = y.f ∧ x.pc = y.pc) : x = y := by
  obtain ⟨i, hi, rfl⟩ := List.getElem_of_mem hx
  obtain ⟨j, hj, rfl⟩ := List.getElem_of_mem hy
  rw [List.pairwise_iff_getElem] at h
  rcases Nat.lt_trichotomy i j with g | g | g
  · exact absurd e (h i j hi hj g)
  · subst g; rfl
  · exact absurd ⟨e.1.symm, e.2.symm⟩ (h j i hj hi g)
theorem drop_hits (h : A.Pairwise (fun x y => ¬ (x.f = y.f ∧ x.pc = y.pc))) (f : Int) : (A.filter (hit f)).foldl (fun B g => wo g.f g.pc B) A = A.filter (fun x => !hit f x) := by
  rw [foldl_wo]
  apply List.filter_congr
  intro x hx
  congr 1
  rw [Bool.eq_iff_iff, List.any_eq_true]
  constructor
  · rintro ⟨g, hg, hm⟩
    obtain ⟨hgA, hgh⟩ := List.mem_filter.1 hg
    have := mtk_iff.1 hm
    have e := same_key h hx hgA this
    rw [e]; exact hgh
  · intro hh
    exact ⟨x, List.mem_filter.2 ⟨hx, hh⟩, mtk_iff.2 ⟨rfl, rfl⟩⟩
set_option maxHeartbeats 4000000 in
theorem inv_run (hN : Nc S) (h : CA Q m cb room uses A f0 a l fa) (hQ : ∀ f, Q f → f < m.next) (f : Int) :
    ∃ v m1, callw Try.prog TT S 16 [.pointer (some ⟨cb, 0, none⟩), .int .i64 f] m = some (v, m1) ∧ KysR m m1 v (kys (A.filter (hit f))) ∧ (∃ l', CA Q m1 cb room uses (A.filter fun x => !hit f x) f0 a l' fa) ∧ KQ Q m m1 := by
  obtain ⟨m1, b, fam, c1, o1, hfam, k1⟩ := sorted_run hN h
  have l8 := h.len
  refine fn_w 43 [43] k16 hN.inv rfl ?_
  simp [-Int.natCast_add, -BitVec.toNat_or, -BitVec.toNat_ofInt, -BitVec.toNat_and, len_slice u59, index_slice u59 sz64, load_of ld64, fieldAddr_of fa71_0, fieldAddr_of fa41_0, fieldAddr_of fa39_0, load_of ld3, fieldAddr_of fa41_1, load_of ld29, buildSlice_of u32 bs50 rfl, append_s u32 sz50, len_slice u32, index_slice u32 sz50, load_agg ld50, alloc_of zo50, store_of sz50, fieldAddr_of fa50_0, fieldAddr_of fa50_1, c1]
  refine wsem_loop 43 [43] (fun d E mF => ∃ (i : Nat) (g : List Px) (ka : Option Addr) (kf : Nat), A.length - i = d ∧ i ≤ A.length ∧ g = (A.take i).filter (hit f) ∧ Keeps m mF [] ∧ Keeps m1 mF [] ∧ Sl mF ka g.length (mvc (kys g)) 50 2 kf ∧ (ka ≠ none → m1.next ≤ kf) ∧
    E = [(0, .pointer (some ⟨cb, 0, none⟩)), (1, .int .i64 f), (5, .slice ka g.length g.length), (11, .slice (some ⟨b, 0, none⟩) A.length A.length), (12, .int .i64 (A.length : Int)), (13, .int .i64 (i : Int))]) _ ⟨_, ⟨0, [], none, 0, rfl, by omega, by simp, k1, .refl _ _, Sl.nil _ _ _ _, by simp, rfl⟩, ⟨by rfl, by rfl, by rfl, by rfl, by rfl, by rfl, trivial⟩⟩ ?_
  rintro d E mF ih ⟨i, g, ka, kf, hd, hi, hg, kF, kF1, sF, hb, rfl⟩
  have im : (i : Int) ≤ 9223372036854775807 := by omega
  have gl : g.length ≤ 8 := by
    rw [hg]
    have h1 := List.length_filter_le (hit f) (A.take i)
    have h2 := List.length_take_le i A
    omega
  by_cases hlt : i < A.length
  · have hlt' : (i : Int) < A.length := by omega
    have wi : IntKind.i64.wrap ((i : Int) + 1) = ((i + 1 : Nat) : Int) := by rw [wrap_i64 (by omega) (by omega)]; omega
    have l1 := (o1.keep kF1 (by simp)).load1 (pc_at hlt)
    have it := (h.all _ (List.getElem_mem hlt)).keep kF (by simp) (by simp) (by simp)
    have eg : (A.take (i + 1)).filter (hit f) = if hit f A[i] = true then g ++ [A[i]] else g := by
      rw [List.take_succ_eq_append_getElem hlt, List.filter_append, ← hg]
      by_cases hh : hit f A[i] = true
      · simp [hh]
      · simp [hh]
    have hz := (h.sz _ (List.getElem_mem hlt)).2
    generalize A[i] = x at *
    have f0' := it.own.load1 (off := 0) rfl
    have f5 := it.own.load1 (off := 5) rfl
    have cc := cont_run (m := mF) hN (f := f) hz it.needs
    obtain ⟨m2, c2, k2⟩ := key_run (m := mF) hN it
    have nxt : ∀ (m3 : Mem) (nb nf : Nat), hit f x = true → Own m3 nb (mvc (kys g) ++ [.int .i64 x.f, .int .i64 x.pc]) 50 nf → Keeps m2 m3 (if ka = none then [] else [kf]) → ((ka ≠ none ∧ nf = kf) ∨ m2.next ≤ nf) →
        ∃ (i' : Nat) (g' : List Px) (ka' : Option Addr) (kf' : Nat), A.length - i' = A.length - (i + 1) ∧ i' ≤ A.length ∧ g' = (A.take i').filter (hit f) ∧ Keeps m m3 [] ∧ Keeps m1 m3 [] ∧ Sl m3 ka' g'.length (mvc (kys g')) 50 2 kf' ∧ (ka' ≠ none → m1.next ≤ kf') ∧
        [(0, Value.pointer (some ⟨cb, 0, none⟩)), (1, .int .i64 f), (5, .slice (some ⟨nb, 0, none⟩) (g.length + 1) (g.length + 1)), (11, .slice (some ⟨b, 0, none⟩) A.length A.length), (12, .int .i64 (A.length : Int)), (13, .int .i64 ((i + 1 : Nat) : Int))] = [(0, .pointer (some ⟨cb, 0, none⟩)), (1, .int .i64 f), (5, .slice ka' g'.length g'.length), (11, .slice (some ⟨b, 0, none⟩) A.length A.length), (12, .int .i64 (A.length : Int)), (13, .int .i64 (i' : Int))] := by
      intro m3 nb nf hh o3 k3 hf3
      have kb : ∀ f ∈ (if ka = none then [] else [kf]), m1.next ≤ f := by
        intro q hq
        split at hq
        · simp at hq
        · rename_i hn
          simp at hq; rw [hq]; exact hb hn
      have n1 := k1.1
      have n2 := kF1.1
      have n3 := k2.1
      refine ⟨i + 1, g ++ [x], some ⟨nb, 0, none⟩, nf, rfl, by omega, by rw [eg, if_pos hh], (kF.trans k2).fresh k3 (fun f hf => by have := kb f hf; omega), (kF1.trans k2).fresh k3 kb, ?_, fun _ => ?_, by simp⟩
      · exact Sl.of (by rw [show kys (g ++ [x]) = kys g ++ [(x.f, x.pc)] by simp [kys]]; simpa [mvc] using o3) (by rw [mvc_len]; simp [kys])
      · rcases hf3 with ⟨h, h'⟩ | h
        · rw [h']; exact hb h
        · omega
    by_cases hx : x.f = f
    · have hh : hit f x = true := by simp [hit, hx]
      simp [-Int.natCast_add, -BitVec.toNat_or, -BitVec.toNat_ofInt, -BitVec.toNat_and, len_slice u59, index_slice u59 sz64, load_of ld64, fieldAddr_of fa71_0, fieldAddr_of fa41_0, fieldAddr_of fa39_0, load_of ld3, fieldAddr_of fa41_1, load_of ld29, buildSlice_of u32 bs50 rfl, append_s u32 sz50, len_slice u32, index_slice u32 sz50, load_agg ld50, alloc_of zo50, store_of sz50, fieldAddr_of fa50_0, fieldAddr_of fa50_1, hlt, hlt', l1, im, f0', hx, c2]
      generalize hra : sappend _ _ _ _ _ _ = ra
      obtain ⟨m3, nb, nf, rfl, o3, k3, hf3, _, _⟩ := app_slz hra u32 ap50 (sF.keep k2 (by simp)) (by omega) (by simp) (by simp [one_int]) (by omega) (by omega)
      simp [-Int.natCast_add, -BitVec.toNat_or, -BitVec.toNat_ofInt, -BitVec.toNat_and, len_slice u59, index_slice u59 sz64, load_of ld64, fieldAddr_of fa71_0, fieldAddr_of fa41_0, fieldAddr_of fa39_0, load_of ld3, fieldAddr_of fa41_1, load_of ld29, buildSlice_of u32 bs50 rfl, append_s u32 sz50, len_slice u32, index_slice u32 sz50, load_agg ld50, alloc_of zo50, store_of sz50, fieldAddr_of fa50_0, fieldAddr_of fa50_1, wi]
      rw [hx] at nxt
      exact ih _ _ _ _ (nxt m3 nb nf hh o3 k3 hf3) (by omega) ⟨by rfl, by rfl, by rfl, by rfl, by rfl, by rfl, trivial⟩
    · cases hn : isIn f x.needs with
      | true =>
        have hh : hit f x = true := by simp [hit, hn]
        rw [hn] at cc
        simp [-Int.natCast_add, -BitVec.toNat_or, -BitVec.toNat_ofInt, -BitVec.toNat_and, len_slice u59, index_slice u59 sz64, load_of ld64, fieldAddr_of fa71_0, fieldAddr_of fa41_0, fieldAddr_of fa39_0, load_of ld3, fieldAddr_of fa41_1, load_of ld29, buildSlice_of u32 bs50 rfl, append_s u32 sz50, len_slice u32, index_slice u32 sz50, load_agg ld50, alloc_of zo50, store_of sz50, fieldAddr_of fa50_0, fieldAddr_of fa50_1, hlt, hlt', l1, im, f0', f5, hx, cc, c2]
        generalize hra : sappend _ _ _ _ _ _ = ra
        obtain ⟨m3, nb, nf, rfl, o3, k3, hf3, _, _⟩ := app_slz hra u32 ap50 (sF.keep k2 (by simp)) (by omega) (by simp) (by simp [one_int]) (by omega) (by omega)
        simp [-Int.natCast_add, -BitVec.toNat_or, -BitVec.toNat_ofInt, -BitVec.toNat_and, len_slice u59, index_slice u59 sz64, load_of ld64, fieldAddr_of fa71_0, fieldAddr_of fa41_0, fieldAddr_of fa39_0, load_of ld3, fieldAddr_of fa41_1, load_of ld29, buildSlice_of u32 bs50 rfl, append_s u32 sz50, len_slice u32, index_slice u32 sz50, load_agg ld50, alloc_of zo50, store_of sz50, fieldAddr_of fa50_0, fieldAddr_of fa50_1, wi]
        exact ih _ _ _ _ (nxt m3 nb nf hh o3 k3 hf3) (by omega) ⟨by rfl, by rfl, by rfl, by rfl, by rfl, by rfl, trivial⟩
      | false =>
        have hh : ¬ hit f x = true := by simp [hit, hn, hx]
        rw [hn] at cc
        simp [-Int.natCast_add, -BitVec.toNat_or, -BitVec.toNat_ofInt, -BitVec.toNat_and, len_slice u59, index_slice u59 sz64, load_of ld64, fieldAddr_of fa71_0, fieldAddr_of fa41_0, fieldAddr_of fa39_0, load_of ld3, fieldAddr_of fa41_1, load_of ld29, buildSlice_of u32 bs50 rfl, append_s u32 sz50, len_slice u32, index_slice u32 sz50, load_agg ld50, alloc_of zo50, store_of sz50, fieldAddr_of fa50_0, fieldAddr_of fa50_1, hlt, hlt', l1, im, f0', f5, hx, cc, wi]
        exact ih _ _ _ _ ⟨i + 1, g, ka, kf, rfl, by omega, by rw [eg, if_neg hh], kF, kF1, sF, hb, rfl⟩ (by omega) ⟨by rfl, by rfl, by rfl, by rfl, by rfl, by rfl, trivial⟩
  · have hlt' : ¬ (i : Int) < A.length := by omega
    have e : i = A.length := by omega
    rw [e, List.take_length] at hg
    clear ih
    simp [-Int.natCast_add, -BitVec.toNat_or, -BitVec.toNat_ofInt, -BitVec.toNat_and, len_slice u59, index_slice u59 sz64, load_of ld64, fieldAddr_of fa71_0, fieldAddr_of fa41_0, fieldAddr_of fa39_0, load_of ld3, fieldAddr_of fa41_1, load_of ld29, buildSlice_of u32 bs50 rfl, append_s u32 sz50, len_slice u32, index_slice u32 sz50, load_agg ld50, alloc_of zo50, store_of sz50, fieldAddr_of fa50_0, fieldAddr_of fa50_1, hlt, hlt']
    have hC := h.keep0 kF
    have kFn := kF.1
    have k1n := k1.1
    refine wsem_loop 43 [43] (fun d E mG => ∃ (j : Nat) (B l' : List Px) (fs : List Nat), g.length - j = d ∧ j ≤ g.length ∧ B = (g.take j).foldl (fun B g => wo g.f g.pc B) A ∧ CA Q mG cb room uses B f0 a l' fa ∧ Keeps mF mG fs ∧ (∀ q ∈ fs, Q q) ∧
      E = [(0, .pointer (some ⟨cb, 0, none⟩)), (1, .int .i64 f), (5, .slice ka g.length g.length), (40, .slice ka g.length g.length), (41, .int .i64 (g.length : Int)), (42, .int .i64 (j : Int))]) _ ⟨_, ⟨0, A, l, [], rfl, by omega, by simp, hC, .refl _ _, by simp, rfl⟩, ⟨by rfl, by rfl, by rfl, by rfl, by rfl, by rfl, trivial⟩⟩ ?_
    rintro d2 E2 mG ih ⟨j, B, l', fs, hd2, hj, hB, hCB, kG, hfs, rfl⟩
    have jm : (j : Int) ≤ 9223372036854775807 := by omega
    have hkq : ka ≠ none → kf ∉ fs := fun hn hm => by
      have := hb hn
      have := hQ _ (hfs _ hm)
      omega
    have sG := sF.keepz kG hkq
    by_cases hjl : j < g.length
    · have hjl' : (j : Int) < g.length := by omega
      have wj : IntKind.i64.wrap ((j : Int) + 1) = ((j + 1 : Nat) : Int) := by rw [wrap_i64 (by omega) (by omega)]; omega
      obtain ⟨b3, hb3, ob3⟩ := sG.own (by omega)
      have hjk : j < (kys g).length := by rw [kys_len]; exact hjl
      have g1 := ob3.load (off := j * 2) 2 (by rw [mvc_len]; omega)
      rw [mvc_win hjk] at g1
      obtain ⟨x, hx⟩ : ∃ x, g[j] = x := ⟨_, rfl⟩
      have ekj : (kys g)[j] = (x.f, x.pc) := by simp [kys, hx]
      rw [ekj] at g1
      simp only at g1
      obtain ⟨oZ, kZ, nZ⟩ := new_own (m := mG) (cs := [.int .i64 0, .int .i64 0]) (e := 50) rfl
      simp [-Int.natCast_add, -w16_11, -BitVec.toNat_or, -BitVec.toNat_ofInt, -BitVec.toNat_and, len_slice u59, index_slice u59 sz64, load_of ld64, fieldAddr_of fa71_0, fieldAddr_of fa41_0, fieldAddr_of fa39_0, load_of ld3, fieldAddr_of fa41_1, load_of ld29, buildSlice_of u32 bs50 rfl, append_s u32 sz50, len_slice u32, index_slice u32 sz50, load_agg ld50, alloc_of zo50, store_of sz50, fieldAddr_of fa50_0, fieldAddr_of fa50_1, hjl, hjl', jm, hb3, g1]
      have kGn := kG.1
      have nQ : ¬ Q mG.next := fun hq => by have := hQ _ hq; omega
      generalize mG.new _ _ = m3 at *
      generalize hra : storeRow _ _ _ = ra
      obtain ⟨m4, rfl, oZ, k4⟩ := store_own hra oZ (by simp) (by simp [one_int])
      simp [over] at oZ
      have hC4 := (hCB.keep0 kZ).keep k4 (by simpa using nQ)
      have z0 := oZ.load1 (off := 0) rfl
      have z1 := oZ.load1 (off := 1) rfl
      obtain ⟨v5, m5, c5, rfl, ⟨l5, hC5⟩, fs5, k5, hfs5⟩ := drop_run hN hC4 x.f x.pc
      simp [-Int.natCast_add, -BitVec.toNat_or, -BitVec.toNat_ofInt, -BitVec.toNat_and, len_slice u59, index_slice u59 sz64, load_of ld64, fieldAddr_of fa71_0, fieldAddr_of fa41_0, fieldAddr_of fa39_0, load_of ld3, fieldAddr_of fa41_1, load_of ld29, buildSlice_of u32 bs50 rfl, append_s u32 sz50, len_slice u32, index_slice u32 sz50, load_agg ld50, alloc_of zo50, store_of sz50, fieldAddr_of fa50_0, fieldAddr_of fa50_1, z0, z1, c5, wj]
      rw [← hb3]
      refine ih _ _ _ _ ⟨j + 1, _, l5, fs ++ fs5, rfl, by omega, ?_, hC5, ?_, ?_, rfl⟩ (by omega) ⟨by rfl, by rfl, by rfl, by rfl, by rfl, by rfl, trivial⟩
      · rw [List.take_succ_eq_append_getElem hjl, List.foldl_append, ← hB, hx]; rfl
      · have kk : Keeps mF m4 fs := kmix (kG.trans kZ.nil) k4 (by simp; omega)
        exact (kk.mono (fun q hq => List.mem_append_left _ hq)).trans (k5.mono (fun q hq => List.mem_append_right _ hq))
      · intro q hq
        rcases List.mem_append.1 hq with hq | hq
        · exact hfs q hq
        · exact hfs5 q hq
    · have hjl' : ¬ (j : Int) < g.length := by omega
      have ej : j = g.length := by omega
      rw [ej, List.take_length, hg, drop_hits h.key] at hB
      simp [-Int.natCast_add, -BitVec.toNat_or, -BitVec.toNat_ofInt, -BitVec.toNat_and, len_slice u59, index_slice u59 sz64, load_of ld64, fieldAddr_of fa71_0, fieldAddr_of fa41_0, fieldAddr_of fa39_0, load_of ld3, fieldAddr_of fa41_1, load_of ld29, buildSlice_of u32 bs50 rfl, append_s u32 sz50, len_slice u32, index_slice u32 sz50, load_agg ld50, alloc_of zo50, store_of sz50, fieldAddr_of fa50_0, fieldAddr_of fa50_1, hjl, hjl']
      rw [← hg]
      refine ⟨⟨ka, kf, by rw [kys_len], by rw [kys_len]; exact sG, fun hn => by have := hb hn; omega⟩, ⟨l', by rw [← hB]; exact hCB⟩, fs, kF.nil.trans kG, fun q hq => Or.inl (hfs q hq)⟩
end Go.Proofs.Ytljklfimdanmlaa.base

