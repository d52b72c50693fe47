/-
  This text proves what the cache's 'sorted' answers, over the abstract run: its items in the order of their use.
  Condition: nothing is known of the calls ahead ('S f = []').
-/
import Derived.Test.YtljklfimdanmlaaCacD
set_option maxRecDepth 100000
set_option linter.unusedSimpArgs false
set_option linter.unusedVariables false
namespace Go.Proofs.Ytljklfimdanmlaa.base
open Go.Sh gen
variable {S : Sums} {m : Mem} {cb f0 fa : Nat} {x0 x2 : Value} {a : Option Addr} {l : List Px}
theorem cmp_run (hN : Nc S) {x y : Px} (hx : ItAt m x) (hy : ItAt m y) : callw Try.prog TT S 41 [ptr x, ptr y] m = some (.int .i64 (if x.used < y.used then -1 else 1), m) := by
  have l1 := hx.own.load1 (off := 7) rfl
  have l2 := hy.own.load1 (off := 7) rfl
  refine fn_eq 5 [13] k41 hN.cmp rfl ?_
  by_cases h : x.used < y.used
  · simp [-Int.natCast_add, -BitVec.toNat_or, -BitVec.toNat_ofInt, -BitVec.toNat_and, fieldAddr_of fa71_1, load_of ld61, l1, l2, h]
  · simp [-Int.natCast_add, -BitVec.toNat_or, -BitVec.toNat_ofInt, -BitVec.toNat_and, fieldAddr_of fa71_1, load_of ld61, l1, l2, h]
theorem blen_run (hN : Nc S) {x : Nat} (hx : x ≤ 8) : ∃ v m1, callw Try.prog TT S 46 [.int .u64 (x : Int)] m = some (v, m1) ∧ (∃ r : Int, v = .int .i64 r) ∧ m1 = m := by
  have c1 : ∃ v m1, callw Try.prog TT S 56 [.int .u64 (x : Int)] m = some (v, m1) ∧ (∃ r : Int, v = .int .i64 r) ∧ m1 = m := by
    refine fn_w 3 [4, 8, 14] k56 hN.len64 rfl ?_
    have w0 : IntKind.u8.wrap 0 = 0 := by decide
    have w1 : IntKind.u8.wrap 1 = 1 := by decide
    have w2 : IntKind.u8.wrap 2 = 2 := by decide
    have w3 : IntKind.u8.wrap 3 = 3 := by decide
    have w4 : IntKind.u8.wrap 4 = 4 := by decide
    have w5 : IntKind.u8.wrap 5 = 5 := by decide
    have w6 : IntKind.u8.wrap 6 = 6 := by decide
    have w7 : IntKind.u8.wrap 7 = 7 := by decide
    have w8 : IntKind.u8.wrap 8 = 8 := by decide
    have : x = 0 ∨ x = 1 ∨ x = 2 ∨ x = 3 ∨ x = 4 ∨ x = 5 ∨ x = 6 ∨ x = 7 ∨ x = 8 := by omega
    rcases this with rfl | rfl | rfl | rfl | rfl | rfl | rfl | rfl | rfl <;> simp [-Int.natCast_add, -BitVec.toNat_or, -BitVec.toNat_ofInt, -BitVec.toNat_and, conv_i u61 u5, index_str u9, conv_i u5 u3, w0, w1, w2, w3, w4, w5, w6, w7, w8]
  obtain ⟨v, m1, c1, ⟨r, rfl⟩, rfl⟩ := c1
  refine fn_w 3 [] k46 hN.blen rfl ?_
  simp [-Int.natCast_add, -BitVec.toNat_or, -BitVec.toNat_ofInt, -BitVec.toNat_and, conv_i u96 u106, w_cond, lhas, lev, c1]
theorem set2 {L : List Px} {i j : Nat} (hi : i < L.length) (hj : j < L.length) : over (over (pcs L) i [ptr L[j]]) j [ptr L[i]] = pcs (swp L i j) := by
  have e := over_set (rest := []) hi L[j]
  rw [List.append_nil, List.append_nil] at e
  have e2 := over_set (l := L.set i L[j]) (rest := []) (i := j) (by simpa using hj) L[i]
  rw [List.append_nil, List.append_nil] at e2
  rw [e, e2]
  simp [swp, List.getD_eq_getElem?_getD, hi, hj]
theorem pc_at {l : List Px} {i : Nat} (h : i < l.length) : (pcs l)[i]? = some (ptr l[i]) := by simp [h]
set_option maxHeartbeats 4000000 in
theorem ins_run (hN : Nc S) {L : List Px} {b e fam : Nat} (o : Own m b (pcs L) e fam) (hit : ∀ x ∈ L, ∀ m1, Keeps m m1 [fam] → ItAt m1 x) (hl : L.length ≤ 1000) :
    ∃ v m1, callw Try.prog TT S 47 [.slice (some ⟨b, 0, none⟩) L.length L.length, .int .i64 0, .int .i64 L.length, .func (.func 41) #[] #[]] m = some (v, m1) ∧
      (∃ L', L'.Perm L ∧ Own m1 b (pcs L') e fam ∧ Srt L'.length (ku L')) ∧ Keeps m m1 [fam] := by
  refine fn_w 10 [14, 34] k47 hN.ins rfl ?_
  simp [-Int.natCast_add, -BitVec.toNat_or, -BitVec.toNat_ofInt, -BitVec.toNat_and, index_slice u59 sz64, load_of ld64, store_of sz64]
  refine wsem_loop 10 [14, 34] (fun d E mF => ∃ (i : Nat) (L1 : List Px), L.length + 1 - i = d ∧ 1 ≤ i ∧ i ≤ L.length + 1 ∧ L1.Perm L ∧ Own mF b (pcs L1) e fam ∧ Srt (min i L.length) (ku L1) ∧ Keeps m mF [fam] ∧
    E = [(0, .slice (some ⟨b, 0, none⟩) L.length L.length), (1, .int .i64 0), (2, .int .i64 L.length), (3, .func (.func 41) #[] #[]), (8, .int .i64 (i : Int))]) _ ⟨_, ⟨1, L, rfl, by omega, by omega, .refl _, o, fun a b h1 h2 => by omega, .refl _ _, rfl⟩, ⟨by rfl, by rfl, by rfl, by rfl, by rfl, trivial⟩⟩ ?_
  rintro d E mF ih ⟨i, L1, hd, hi1, hi, hp, o1, hs, kF, rfl⟩
  have hll := hp.length_eq
  have im : (i : Int) ≤ 9223372036854775807 := by omega
  have wi : IntKind.i64.wrap ((i : Int) + 1) = ((i + 1 : Nat) : Int) := by rw [wrap_i64 (by omega) (by omega)]; omega
  by_cases hlt : i < L.length
  · have hlt' : (i : Int) < L.length := by omega
    simp [-Int.natCast_add, -BitVec.toNat_or, -BitVec.toNat_ofInt, -BitVec.toNat_and, index_slice u59 sz64, load_of ld64, store_of sz64, hlt, hlt']
    rw [Nat.min_eq_left (by omega)] at hs
    refine wsem_loop 10 [14, 34] (fun d E mG => ∃ (j : Nat) (L2 : List Px), j = d ∧ j ≤ i ∧ L2.Perm L ∧ Own mG b (pcs L2) e fam ∧ SrX (i + 1) (ku L2) j ∧ Keeps m mG [fam] ∧
      E = [(0, .slice (some ⟨b, 0, none⟩) L.length L.length), (1, .int .i64 0), (2, .int .i64 L.length), (3, .func (.func 41) #[] #[]), (8, .int .i64 (i : Int)), (9, .int .i64 (j : Int))]) _ ⟨_, ⟨i, L1, rfl, by omega, hp, o1, srx_of hs, kF, rfl⟩, ⟨by rfl, by rfl, by rfl, by rfl, by rfl, by rfl, trivial⟩⟩ ?_
    rintro d2 E2 mG ih2 ⟨j, L2, rfl, hj, hp2, o2, hs2, kG, rfl⟩
    have hll2 := hp2.length_eq
    have out : (j = 0 ∨ ku L2 (j - 1) ≤ ku L2 j) → Srt (min (i + 1) L.length) (ku L2) := fun h => by
      rw [Nat.min_eq_left (by omega)]
      exact srx_end hs2 (by omega) h
    by_cases hj0 : j = 0
    · subst hj0
      simp [-Int.natCast_add, -BitVec.toNat_or, -BitVec.toNat_ofInt, -BitVec.toNat_and, index_slice u59 sz64, load_of ld64, store_of sz64, wi]
      exact ih _ _ _ _ ⟨i + 1, L2, rfl, by omega, by omega, hp2, o2, out (Or.inl rfl), kG, rfl⟩ (by omega) ⟨by rfl, by rfl, by rfl, by rfl, by rfl, trivial⟩
    · obtain ⟨q, hq⟩ : ∃ q, q + 1 = j := ⟨j - 1, by omega⟩
      have jm : (j : Int) ≤ 9223372036854775807 := by omega
      have j0 : 0 < j := by omega
      have j0' : 0 < (j : Int) := by omega
      have wq : IntKind.i64.wrap ((j : Int) - 1) = (q : Int) := by rw [wrap_i64 (by omega) (by omega)]; omega
      have qm : (q : Int) ≤ 9223372036854775807 := by omega
      have hjl : j < L.length := by omega
      have hql : q < L.length := by omega
      have hjl' : (j : Int) < L.length := by omega
      have hql' : (q : Int) < L.length := by omega
      have l1 := o2.load1 (pc_at (l := L2) (i := j) (by omega))
      have l2 := o2.load1 (pc_at (l := L2) (i := q) (by omega))
      have mx : ∀ (k : Nat) (hk : k < L2.length), ItAt mG L2[k] := fun k hk => hit _ (hp2.mem_iff.1 (List.getElem_mem hk)) _ kG
      have c1 := cmp_run (m := mG) hN (mx j (by omega)) (mx q (by omega))
      have ej : ku L2 j = (L2[j]'(by omega)).used := ku_at (by omega)
      have eq_ : ku L2 q = (L2[q]'(by omega)).used := ku_at (by omega)
      by_cases hc : ku L2 j < ku L2 q
      · rw [← ej, ← eq_, if_pos hc] at c1
        simp [-Int.natCast_add, -BitVec.toNat_or, -BitVec.toNat_ofInt, -BitVec.toNat_and, index_slice u59 sz64, load_of ld64, store_of sz64, wq, j0, jm, qm, l1, l2, c1, hjl, hql, hjl', hql', j0']
        generalize hra : storeRow _ _ _ = ra
        obtain ⟨m3, rfl, o3, k3⟩ := store_own hra o2 (by simp; omega) (by simp [one_ptr])
        simp [-Int.natCast_add, -BitVec.toNat_or, -BitVec.toNat_ofInt, -BitVec.toNat_and, index_slice u59 sz64, load_of ld64, store_of sz64, wq, j0, jm, qm, l1, l2, c1, hjl, hql, hjl', hql', j0']
        generalize hrb : storeRow _ _ _ = rb
        obtain ⟨m4, rfl, o4, k4⟩ := store_own hrb o3 (by simp [over]; omega) (by simp [one_ptr])
        rw [set2 (by omega) (by omega)] at o4
        simp [-Int.natCast_add, -BitVec.toNat_or, -BitVec.toNat_ofInt, -BitVec.toNat_and, index_slice u59 sz64, load_of ld64, store_of sz64, wq, j0, jm, qm, l1, l2, c1, hjl, hql, hjl', hql', j0']
        refine ih2 _ _ _ _ ⟨q, swp L2 j q, rfl, by omega, (swp_perm (by omega) (by omega)).trans hp2, o4, ?_, (kG.trans k3).trans k4, rfl⟩ (by omega) ⟨by rfl, by rfl, by rfl, by rfl, by rfl, by rfl, trivial⟩
        rw [ku_swp (by omega) (by omega)]
        exact srx_step hs2 hq (by omega) hc
      · rw [← ej, ← eq_, if_neg hc] at c1
        simp [-Int.natCast_add, -BitVec.toNat_or, -BitVec.toNat_ofInt, -BitVec.toNat_and, index_slice u59 sz64, load_of ld64, store_of sz64, wq, j0, jm, qm, l1, l2, c1, hjl, hql, hjl', hql', j0', wi]
        exact ih _ _ _ _ ⟨i + 1, L2, rfl, by omega, by omega, hp2, o2, out (Or.inr (by rw [show j - 1 = q by omega]; omega)), kG, rfl⟩ (by omega) ⟨by rfl, by rfl, by rfl, by rfl, by rfl, trivial⟩
  · have hlt' : ¬ (i : Int) < L.length := by omega
    simp [-Int.natCast_add, -BitVec.toNat_or, -BitVec.toNat_ofInt, -BitVec.toNat_and, index_slice u59 sz64, load_of ld64, store_of sz64, hlt, hlt']
    refine ⟨⟨L1, hp, o1, ?_⟩, kF⟩
    rw [Nat.min_eq_right (by omega)] at hs
    rw [hll]; exact hs
/-- what stands in a slice behind the sort -/
def SortR (m1 : Mem) (b e fam : Nat) (L : List Px) : Prop := ∃ L', L'.Perm L ∧ Own m1 b (pcs L') e fam ∧ Srt L'.length (ku L')
theorem sort_run (hN : Nc S) {L : List Px} {b e fam : Nat} (o : Own m b (pcs L) e fam) (hit : ∀ x ∈ L, ∀ m1, Keeps m m1 [fam] → ItAt m1 x) (hl : L.length ≤ 8) :
    ∃ v m1, callw Try.prog TT S 40 [.slice (some ⟨b, 0, none⟩) L.length L.length, .func (.func 41) #[] #[]] m = some (v, m1) ∧
      SortR m1 b e fam L ∧ Keeps m m1 [fam] := by
  obtain ⟨v1, m1, c1, hr, k1⟩ := ins_run hN o hit (by omega)
  obtain ⟨v0, m0, c0, ⟨r, rfl⟩, hm0⟩ := blen_run (m := m) hN hl
  rw [hm0] at c0
  have wl : IntKind.u64.wrap (L.length : Int) = L.length := wrap_u64 (by omega) (by omega)
  have wi : IntKind.i64.wrap (L.length : Int) = L.length := wrap_i64 (by omega) (by omega)
  have h12 : (L.length : Int) ≤ 12 := by omega
  have h12' : L.length ≤ 12 := by omega
  have c2 : ∃ v2 m2, callw Try.prog TT S 45 [.slice (some ⟨b, 0, none⟩) L.length L.length, .int .i64 0, .int .i64 L.length, .int .i64 r, .func (.func 41) #[] #[]] m = some (v2, m2) ∧ SortR m2 b e fam L ∧ Keeps m m2 [fam] := by
    refine fn_w 21 [25, 32, 39, 56, 75, 80, 97, 125] k45 hN.pdq rfl ?_
    simp [-Int.natCast_add, -BitVec.toNat_or, -BitVec.toNat_ofInt, -BitVec.toNat_and, index_slice u59 sz64, load_of ld64]
    refine wsem_loop 21 [25, 32, 39, 56, 75, 80, 97, 125] (fun d E mF => d = 0 ∧ mF = m ∧
      E = [(0, .slice (some ⟨b, 0, none⟩) L.length L.length), (1, .int .i64 0), (2, .int .i64 L.length), (3, .int .i64 r), (4, .func (.func 41) #[] #[])]) _ ⟨_, ⟨rfl, rfl, rfl⟩, ⟨by rfl, by rfl, by rfl, by rfl, by rfl, trivial⟩⟩ ?_
    rintro d E mF ih ⟨rfl, hmF, rfl⟩
    rw [hmF]
    clear ih
    simp [-Int.natCast_add, -BitVec.toNat_or, -BitVec.toNat_ofInt, -BitVec.toNat_and, index_slice u59 sz64, load_of ld64, wi, h12, h12', c1]
    exact ⟨hr, k1⟩
  obtain ⟨v2, m2, c2, hr2, k2⟩ := c2
  refine fn_w 5 [] k40 hN.sort rfl ?_
  simp [-Int.natCast_add, -BitVec.toNat_or, -BitVec.toNat_ofInt, -BitVec.toNat_and, len_slice u59, conv_i u3 u96, wl, c0, c2]
  exact ⟨hr2, k2⟩
end Go.Proofs.Ytljklfimdanmlaa.base

