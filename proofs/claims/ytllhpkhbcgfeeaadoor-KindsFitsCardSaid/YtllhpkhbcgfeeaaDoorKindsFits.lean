/-
  This text proves 'Rows.KindsFitsCardSaid': the law 'KindsFits' returns true at any table, any two numbers, in whatever memory and on every tape, and its input reads as it did.
  The condition is the card's own: the listed package-level variables hold what the program's text lays.
-/
import Derived.Test.YtllhpkhbcgfeeaaDoorCards
import Derived.Test.YtllhpkhbcgfeeaaDoorTie
import Derived.Deep.DeepHandedRow
import Derived.Lib.LaidTab
import Derived.Test.YtllhpkhbcgfeeaaDoorKinI
set_option maxRecDepth 100000
set_option linter.unusedSimpArgs false
set_option linter.unusedVariables false
namespace Go.Proofs.YtllhpkhbcgfeeaaDoor.kindsFits
open Go.Sh gen base
variable {S : Sums} {m : Mem}
/-- what is wanted -/
def want0 (a b : Nat) (y : TypeT.D) : Bool := if a = 4 then decide (y.1 = 5 ∨ y.1 = 6 ∨ y.1 = 7) else decide (a = b ∧ a ≠ 0 ∧ a ≠ 4)
def wantF (a b : Nat) (x y : TypeT.D) : Bool := if x.1 = 5 ∧ y.1 = 7 then y.2.2.2.2.1.all (okM x.2.2.2.2.1) else want0 a b y
theorem want_eq {L : List TypeT.D} (hK : Kinds5 L L.length) {a b : Nat} (ha : a < L.length) (hb : b < L.length) : fitsF L a b L[a] L[b] = wantF a b L[a] L[b] := by
  have ka := hK a ha ha
  have kb := hK b hb hb
  unfold fitsF wantF want0
  by_cases e : a = b
  · subst e
    rw [if_pos rfl]
    by_cases h5 : a < 5
    · have k1 := ka.1 h5
      have n1 : ¬ (L[a].1 = 5 ∧ L[a].1 = 7) := fun h => by have := h.1.symm.trans h.2; exact absurd this (by decide)
      rw [if_neg n1, k1]
      by_cases h4 : a = 4
      · subst h4; simp
      · rw [if_neg h4]
        have h4' : ¬ (a : Int) = 4 := by omega
        by_cases h0 : a = 0
        · subst h0; simp
        · have h0' : ¬ (a : Int) = 0 := by omega
          simp [h0, h4, h0', h4']
    · have k1 := ka.2 (by omega)
      have h4 : ¬ a = 4 := by omega
      have h0 : ¬ a = 0 := by omega
      rw [if_neg h4]
      rcases k1 with k | k | k <;> rw [k] <;> simp [h0, h4]
  · rw [if_neg e]
    by_cases h4 : a = 4
    · subst h4
      have k1 := ka.1 (by omega)
      rw [k1]
      simp
    · have n4 : ¬ L[a].1 = 4 := by
        by_cases h5 : a < 5
        · rw [ka.1 h5]; exact fun h => h4 (by have h' : (a : Int) = 4 := h; omega)
        · rcases ka.2 (by omega) with k | k | k <;> rw [k] <;> decide
      rw [if_neg n4, if_neg h4]
      by_cases c1 : L[a].1 = 5 <;> by_cases c2 : L[b].1 = 7 <;> simp [c1, c2, e]
structure Nf (S : Sums) : Prop where
  k : Nk S
  s : Ns S
  h : Nh S
  one : S 22 = []
  base : S 21 = []
  right : S 10 = []
  fits : S 12 = []
set_option maxHeartbeats 8000000 in
theorem law_run (hN : Nf S) (hK : S 7 = [([], .bool true)]) (hS : S 4 = []) (hT : S 5 = []) (hB : S 13 = []) (hO : S 14 = []) (hP : S 6 = [])
    {l : List RawT.D} {cl : List Value} (hl : RawsT.wf l) (ha : At m RawsT l cl) {x0 x1 : Int} (hi : (Lit.int .i64 x0).wf = true) (hk : (Lit.int .i64 x1).wf = true)
    {e : TypeId} (hg : Rdo m 0 nmsC e 0) :
    ∃ v m', callw Tryd.prog TT S 4 [tyVal RawsT cl, .int .i64 x0, .int .i64 x1] m = some (v, m') ∧ v = .bool true := by
  have hkn := fun m' => sum_ok (P := Tryd.prog) (T := TT) (m := m') hK
  obtain ⟨ao, css0, fam0, rfl, hcl0, hce0, hrs⟩ := ha
  show ∃ v m', callw Tryd.prog TT S 4 [.slice ao l.length l.length, .int .i64 x0, .int .i64 x1] m = some (v, m') ∧ v = .bool true
  refine fn_w 14 [22, 49, 69, 77, 140, 152] k4 hS rfl ?_
  obtain ⟨vt, m1, ht, bo, ob, L, css, rfl, hL5, hL13, hLw, hcss, hat, oC, hob, k1⟩ := types_run (m := m) hT hB hO hP hg hl.2 hcl0 hce0 hrs
  have hTb : Tb m1 (some ⟨bo, 0, none⟩) L := ⟨⟨css, ob, hcss, fun i d c h1 h2 => (hat i d c h1 h2).at_, Sl.rs (Sl.of oC (flat_len hcss hat).symm)⟩, by omega, hLw⟩
  obtain ⟨_, m2, hr, ⟨b, rfl, hb⟩, k2⟩ := right_run hN.k hN.s hN.one hN.base hN.right hTb
  have hT2 := hTb.keep k2
  cases b
  case false => simp [-Int.natCast_add, -BitVec.toNat_or, -BitVec.toNat_ofInt, -BitVec.toNat_and, len_slice u27, index_slice u27 sz25, fieldAddr_of fa25_0, load_of ld3, fieldAddr_of fa25_4, load_of ld23, len_slice u23, index_slice u23 sz38, fieldAddr_of fa38_0, load_of ld9, fieldAddr_of fa38_2, fieldAddr_of fa38_1, load_of ld36, len_slice u36, index_slice u36 sz3, bin_bool u4 .eql (Or.inl rfl), ht, hr, hkn]
  obtain ⟨_, hKi⟩ := hb rfl
  have pk1 := pick_run (m := m2) hP x0 L.length (by omega) (by omega)
  have pk2 := pick_run (m := m2) hP x1 L.length (by omega) (by omega)
  obtain ⟨a, ha0, ha⟩ : ∃ q : Nat, x0 % (L.length : Int) = q ∧ q < L.length := by
    have h1 := Int.emod_nonneg x0 (by omega : (L.length : Int) ≠ 0)
    have h2 := Int.emod_lt_of_pos x0 (by omega : 0 < (L.length : Int))
    exact ⟨(x0 % (L.length : Int)).toNat, by omega, by omega⟩
  obtain ⟨b, hb0, hb⟩ : ∃ q : Nat, x1 % (L.length : Int) = q ∧ q < L.length := by
    have h1 := Int.emod_nonneg x1 (by omega : (L.length : Int) ≠ 0)
    have h2 := Int.emod_lt_of_pos x1 (by omega : 0 < (L.length : Int))
    exact ⟨(x1 % (L.length : Int)).toNat, by omega, by omega⟩
  rw [ha0] at pk1
  rw [hb0] at pk2
  have ema : (a : Int) ≤ 9223372036854775807 := by omega
  have emb : (b : Int) ≤ 9223372036854775807 := by omega
  obtain ⟨tb, bM, het, hMb, ldb⟩ := hT2.meths hb
  cases het
  obtain ⟨_, aM, het, hMa, lda⟩ := hT2.meths ha
  cases het
  have lb0 := (ldb _ (keeps_refl _)).1
  have la0 := (lda _ (keeps_refl _)).1
  have weq := want_eq hKi ha hb
  have pos : ∀ (i : Nat) (hi : i < L.length), (0 : Int) ≤ L[i].1 := by
    intro i hi
    have h := hKi i hi hi
    by_cases h5 : i < 5
    · rw [h.1 h5]; omega
    · rcases h.2 (by omega) with k | k | k <;> rw [k] <;> decide
  have fits := fun m' (k : Keeps m2 m' []) => fits_run (m := m') hN.h hN.fits (hT2.keep k) ha hb (pos a ha) (pos b hb)
  rw [weq] at fits
  obtain ⟨x, hx⟩ : ∃ x, L[a] = x := ⟨_, rfl⟩
  obtain ⟨y, hy⟩ : ∃ x, L[b] = x := ⟨_, rfl⟩
  simp only [hx, hy] at lb0 la0 fits hMa hMb lda ldb
  simp [-Int.natCast_add, -w4_7, -w4_10, -BitVec.toNat_or, -BitVec.toNat_ofInt, -BitVec.toNat_and, len_slice u27, index_slice u27 sz25, fieldAddr_of fa25_0, load_of ld3, fieldAddr_of fa25_4, load_of ld23, len_slice u23, index_slice u23 sz38, fieldAddr_of fa38_0, load_of ld9, fieldAddr_of fa38_2, fieldAddr_of fa38_1, load_of ld36, len_slice u36, index_slice u36 sz3, bin_bool u4 .eql (Or.inl rfl), ht, hr, hkn, pk1, pk2, ema, emb, ha, hb, lb0]
  apply cut1_ (fun (w : Bool) => w = want0 a b y)
  case main =>
    intro meth
    obtain ⟨w, hw⟩ : ∃ w, want0 a b y = w := ⟨_, rfl⟩
    have hw2 := hw
    unfold want0 at hw2
    by_cases h4 : a = 4
    · rw [if_pos h4] at hw2
      by_cases y5 : y.1 = 5 <;> by_cases y6 : y.1 = 6 <;> by_cases y7 : y.1 = 7
      all_goals (try exact absurd (y5.symm.trans y6) (by decide))
      all_goals (try exact absurd (y5.symm.trans y7) (by decide))
      all_goals (try exact absurd (y6.symm.trans y7) (by decide))
      all_goals
        simp only [y5, y6, y7, or_true, true_or, or_self, or_false, false_or, decide_true, decide_false] at hw2
        have h4' : (a : Int) = 4 := by omega
        by_cases e1 : b = 4
        · have e1' : (b : Int) = 4 := by omega
          simp [-Int.natCast_add, -w4_10, -BitVec.toNat_or, -BitVec.toNat_ofInt, -BitVec.toNat_and, len_slice u27, index_slice u27 sz25, fieldAddr_of fa25_0, load_of ld3, fieldAddr_of fa25_4, load_of ld23, len_slice u23, index_slice u23 sz38, fieldAddr_of fa38_0, load_of ld9, fieldAddr_of fa38_2, fieldAddr_of fa38_1, load_of ld36, len_slice u36, index_slice u36 sz3, bin_bool u4 .eql (Or.inl rfl), h4', e1', y5, y6, y7]
          exact w_sub (E := [(1, .int .i64 a), (2, .int .i64 b), (7, .slice (some ⟨bo, 0, none⟩) L.length L.length), (8, .int .i64 y.1), (9, .bool w)]) (meth w hw.symm) ⟨by simp [lget, h4'], by simp [lget, e1'], by rfl, by simp [lget, y5, y6, y7], by simp [lget, ← hw2], trivial⟩
        · have e1' : ¬ (4 : Int) = b := by omega
          simp [-Int.natCast_add, -w4_10, -BitVec.toNat_or, -BitVec.toNat_ofInt, -BitVec.toNat_and, len_slice u27, index_slice u27 sz25, fieldAddr_of fa25_0, load_of ld3, fieldAddr_of fa25_4, load_of ld23, len_slice u23, index_slice u23 sz38, fieldAddr_of fa38_0, load_of ld9, fieldAddr_of fa38_2, fieldAddr_of fa38_1, load_of ld36, len_slice u36, index_slice u36 sz3, bin_bool u4 .eql (Or.inl rfl), h4', e1', y5, y6, y7]
          exact w_sub (E := [(1, .int .i64 a), (2, .int .i64 b), (7, .slice (some ⟨bo, 0, none⟩) L.length L.length), (8, .int .i64 y.1), (9, .bool w)]) (meth w hw.symm) ⟨by simp [lget, h4'], by rfl, by rfl, by simp [lget, y5, y6, y7], by simp [lget, ← hw2], trivial⟩
    · rw [if_neg h4] at hw2
      have h4' : ¬ (a : Int) = 4 := by omega
      by_cases e1 : a = b
      · have e1' : (a : Int) = b := by omega
        by_cases e0 : a = 0
        · have e0' : (b : Int) = 0 := by omega
          have hb0 : b = 0 := by omega
          simp [e1, hb0] at hw2
          simp [-Int.natCast_add, -w4_10, -BitVec.toNat_or, -BitVec.toNat_ofInt, -BitVec.toNat_and, len_slice u27, index_slice u27 sz25, fieldAddr_of fa25_0, load_of ld3, fieldAddr_of fa25_4, load_of ld23, len_slice u23, index_slice u23 sz38, fieldAddr_of fa38_0, load_of ld9, fieldAddr_of fa38_2, fieldAddr_of fa38_1, load_of ld36, len_slice u36, index_slice u36 sz3, bin_bool u4 .eql (Or.inl rfl), e1', e0']
          exact w_sub (E := [(1, .int .i64 a), (2, .int .i64 b), (7, .slice (some ⟨bo, 0, none⟩) L.length L.length), (8, .int .i64 y.1), (9, .bool w)]) (meth w hw.symm) ⟨by simp [lget, e1', e0'], by simp [lget, e0'], by rfl, by rfl, by simp [lget, hw2], trivial⟩
        · have e0' : ¬ (b : Int) = 0 := by omega
          have e4' : ¬ (b : Int) = 4 := by omega
          have e0n : ¬ b = 0 := by omega
          have e4n : ¬ b = 4 := by omega
          simp [e1, e0n, e4n] at hw2
          simp [-Int.natCast_add, -w4_10, -BitVec.toNat_or, -BitVec.toNat_ofInt, -BitVec.toNat_and, len_slice u27, index_slice u27 sz25, fieldAddr_of fa25_0, load_of ld3, fieldAddr_of fa25_4, load_of ld23, len_slice u23, index_slice u23 sz38, fieldAddr_of fa38_0, load_of ld9, fieldAddr_of fa38_2, fieldAddr_of fa38_1, load_of ld36, len_slice u36, index_slice u36 sz3, bin_bool u4 .eql (Or.inl rfl), e1', e0', e4', e0n, e4n]
          exact w_sub (E := [(1, .int .i64 a), (2, .int .i64 b), (7, .slice (some ⟨bo, 0, none⟩) L.length L.length), (8, .int .i64 y.1), (9, .bool w)]) (meth w hw.symm) ⟨by simp [lget, e1'], by rfl, by rfl, by rfl, by simp [lget, hw2], trivial⟩
      · have e1' : ¬ (a : Int) = b := by omega
        simp [e1] at hw2
        simp [-Int.natCast_add, -w4_10, -BitVec.toNat_or, -BitVec.toNat_ofInt, -BitVec.toNat_and, len_slice u27, index_slice u27 sz25, fieldAddr_of fa25_0, load_of ld3, fieldAddr_of fa25_4, load_of ld23, len_slice u23, index_slice u23 sz38, fieldAddr_of fa38_0, load_of ld9, fieldAddr_of fa38_2, fieldAddr_of fa38_1, load_of ld36, len_slice u36, index_slice u36 sz3, bin_bool u4 .eql (Or.inl rfl), e1', h4']
        exact w_sub (E := [(1, .int .i64 a), (2, .int .i64 b), (7, .slice (some ⟨bo, 0, none⟩) L.length L.length), (8, .int .i64 y.1), (9, .bool w)]) (meth w hw.symm) ⟨by rfl, by rfl, by rfl, by rfl, by simp [lget, hw2], trivial⟩
  intro w hw
  have done : ∀ (w' : Bool), w' = wantF a b x y → ∀ m', Keeps m2 m' [] → ∃ m3, callw Tryd.prog TT S 12 [.slice (some ⟨bo, 0, none⟩) L.length L.length, .int .i64 a, .int .i64 b] m' = some (.bool w', m3) := by
    intro w' hw' m' k
    obtain ⟨_, m3, h, rfl, _⟩ := fits m' k
    exact ⟨m3, by rw [hw']; exact h⟩
  by_cases c12 : x.1 = 5 ∧ y.1 = 7
  case neg =>
    obtain ⟨m3, hf⟩ := done w (by unfold wantF; rw [if_neg c12]; exact hw) m2 (keeps_refl _)
    by_cases c1 : x.1 = 5
    · have c2 : ¬ y.1 = 7 := fun h => c12 ⟨c1, h⟩
      simp [-Int.natCast_add, -BitVec.toNat_or, -BitVec.toNat_ofInt, -BitVec.toNat_and, len_slice u27, index_slice u27 sz25, fieldAddr_of fa25_0, load_of ld3, fieldAddr_of fa25_4, load_of ld23, len_slice u23, index_slice u23 sz38, fieldAddr_of fa38_0, load_of ld9, fieldAddr_of fa38_2, fieldAddr_of fa38_1, load_of ld36, len_slice u36, index_slice u36 sz3, bin_bool u4 .eql (Or.inl rfl), ema, ha, la0, c1, c2, hf]
    · simp [-Int.natCast_add, -BitVec.toNat_or, -BitVec.toNat_ofInt, -BitVec.toNat_and, len_slice u27, index_slice u27 sz25, fieldAddr_of fa25_0, load_of ld3, fieldAddr_of fa25_4, load_of ld23, len_slice u23, index_slice u23 sz38, fieldAddr_of fa38_0, load_of ld9, fieldAddr_of fa38_2, fieldAddr_of fa38_1, load_of ld36, len_slice u36, index_slice u36 sz3, bin_bool u4 .eql (Or.inl rfl), ema, ha, la0, c1, hf]
  obtain ⟨c1, c2⟩ := c12
  simp [-Int.natCast_add, -w4_13, -BitVec.toNat_or, -BitVec.toNat_ofInt, -BitVec.toNat_and, len_slice u27, index_slice u27 sz25, fieldAddr_of fa25_0, load_of ld3, fieldAddr_of fa25_4, load_of ld23, len_slice u23, index_slice u23 sz38, fieldAddr_of fa38_0, load_of ld9, fieldAddr_of fa38_2, fieldAddr_of fa38_1, load_of ld36, len_slice u36, index_slice u36 sz3, bin_bool u4 .eql (Or.inl rfl), ema, ha, la0, c1, c2]
  have hall : y.2.2.2.2.1.all (okM x.2.2.2.2.1) = wantF a b x y := by unfold wantF; rw [if_pos ⟨c1, c2⟩]
  obtain ⟨A, hA⟩ : ∃ A, x.2.2.2.2.1 = A := ⟨_, rfl⟩
  obtain ⟨B, hB⟩ : ∃ A, y.2.2.2.2.1 = A := ⟨_, rfl⟩
  simp only [hA, hB] at hMa hMb lda ldb hall
  refine wsem_loop 14 [22, 49, 69, 77, 140, 152] (fun dd E mC => ∃ (i : Nat), B.length - i = dd ∧ i ≤ B.length ∧ Keeps m2 mC [] ∧
    E = [(1, .int .i64 a), (2, .int .i64 b), (7, .slice (some ⟨bo, 0, none⟩) L.length L.length), (9, .bool ((B.take i).all (okM A))), (10, .int .i64 i)]) _ ⟨_, ⟨0, rfl, by omega, keeps_refl _, rfl⟩, ⟨by rfl, by rfl, by rfl, by rfl, by rfl, trivial⟩⟩ ?_
  rintro dd E mC ih ⟨i, hdi, hi, kC, rfl⟩
  have lb4 := (ldb _ kC).2
  have la4 := (lda _ kC).2
  by_cases hlt : i < B.length
  · have i1 : (i : Int) < B.length := by omega
    have hle := hMb.le
    have emi : (i : Int) ≤ 9223372036854775807 := by omega
    have wi : IntKind.i64.wrap ((i : Int) + 1) = ((i + 1 : Nat) : Int) := by rw [wrap_i64 (by omega) (by omega)]; omega
    obtain ⟨mb, po, pf, rfl, hp, hld1⟩ := (hMb.keep kC).one hlt
    have z0 := (hld1 _ (keeps_refl _)).2.1
    obtain ⟨z, hz⟩ : ∃ x, B[i] = x := ⟨_, rfl⟩
    rw [hz] at z0 hp hld1
    have hxk : L[a].1 = 5 := by rw [hx]; exact c1
    obtain ⟨v, mF, hmt, hcase, kF⟩ := method1_run hN.h.meth hN.h.of hN.h.idx hN.h.is (hT2.keep kC) ha hxk z.1
    rw [hx, hA] at hcase
    have KF := kC.trans kF
    rcases hcase with ⟨j, hj, hfj, rfl⟩ | ⟨hfn, rfl⟩
    case inr =>
      have hno : B.all (okM A) = false := all_no hlt (by rw [hz]; exact okM_no hfn)
      obtain ⟨m3, hf⟩ := done false (by rw [← hall, hno]) mF KF
      simp [-Int.natCast_add, -BitVec.toNat_or, -BitVec.toNat_ofInt, -BitVec.toNat_and, len_slice u27, index_slice u27 sz25, fieldAddr_of fa25_0, load_of ld3, fieldAddr_of fa25_4, load_of ld23, len_slice u23, index_slice u23 sz38, fieldAddr_of fa38_0, load_of ld9, fieldAddr_of fa38_2, fieldAddr_of fa38_1, load_of ld36, len_slice u36, index_slice u36 sz3, bin_bool u4 .eql (Or.inl rfl), i1, emi, emb, ema, hb, ha, hlt, lb4, la4, z0, hmt, hf]
    have emj : (j : Int) ≤ 9223372036854775807 := by have := hMa.le; omega
    obtain ⟨ma, qo, qf, rfl, hq, hld2⟩ := (hMa.keep KF).one hj
    have hok := okM_at hj hfj
    obtain ⟨u, hu⟩ : ∃ x, A[j] = x := ⟨_, rfl⟩
    rw [hu] at hq hok hld2
    have u1 := (hld2 _ (keeps_refl _)).2.2.1
    have u2 := (hld2 _ (keeps_refl _)).2.2.2
    have z1 := (hld1 _ kF).2.2.1
    have z2 := (hld1 _ kF).2.2.2
    have la5 := (lda _ KF).2
    have lb5 := (ldb _ KF).2
    by_cases er : u.2.2.1 = z.2.2.1
    case neg =>
      have hno : B.all (okM A) = false := all_no hlt (by rw [hz, hok]; simp [er])
      obtain ⟨m3, hf⟩ := done false (by rw [← hall, hno]) mF KF
      simp [-Int.natCast_add, -BitVec.toNat_or, -BitVec.toNat_ofInt, -BitVec.toNat_and, len_slice u27, index_slice u27 sz25, fieldAddr_of fa25_0, load_of ld3, fieldAddr_of fa25_4, load_of ld23, len_slice u23, index_slice u23 sz38, fieldAddr_of fa38_0, load_of ld9, fieldAddr_of fa38_2, fieldAddr_of fa38_1, load_of ld36, len_slice u36, index_slice u36 sz3, bin_bool u4 .eql (Or.inl rfl), i1, emi, emb, ema, emj, hb, ha, hj, hlt, lb4, la4, lb5, la5, z0, z1, z2, u1, u2, hmt, hf, er]
    by_cases el : u.2.1.length = z.2.1.length
    case neg =>
      have hne : ¬ (show List Int from u.2.1) = z.2.1 := fun h => el (by exact congrArg List.length h)
      have hno : B.all (okM A) = false := all_no hlt (by rw [hz, hok]; simp [hne])
      have el' : ¬ ((u.2.1.length : Nat) : Int) = ((z.2.1.length : Nat) : Int) := by omega
      obtain ⟨m3, hf⟩ := done false (by rw [← hall, hno]) mF KF
      simp [-Int.natCast_add, -BitVec.toNat_or, -BitVec.toNat_ofInt, -BitVec.toNat_and, len_slice u27, index_slice u27 sz25, fieldAddr_of fa25_0, load_of ld3, fieldAddr_of fa25_4, load_of ld23, len_slice u23, index_slice u23 sz38, fieldAddr_of fa38_0, load_of ld9, fieldAddr_of fa38_2, fieldAddr_of fa38_1, load_of ld36, len_slice u36, index_slice u36 sz3, bin_bool u4 .eql (Or.inl rfl), i1, emi, emb, ema, emj, hb, ha, hj, hlt, lb4, la4, lb5, la5, z0, z1, z2, u1, u2, hmt, hf, er, el, el']
    have el' : ((u.2.1.length : Nat) : Int) = ((z.2.1.length : Nat) : Int) := by omega
    simp [-Int.natCast_add, -w4_18, -BitVec.toNat_or, -BitVec.toNat_ofInt, -BitVec.toNat_and, len_slice u27, index_slice u27 sz25, fieldAddr_of fa25_0, load_of ld3, fieldAddr_of fa25_4, load_of ld23, len_slice u23, index_slice u23 sz38, fieldAddr_of fa38_0, load_of ld9, fieldAddr_of fa38_2, fieldAddr_of fa38_1, load_of ld36, len_slice u36, index_slice u36 sz3, bin_bool u4 .eql (Or.inl rfl), i1, emi, emb, ema, emj, hb, ha, hj, hlt, lb4, la4, lb5, la5, z0, z1, z2, u1, u2, hmt, er, el, el']
    obtain ⟨P, hP0⟩ : ∃ P : List Int, u.2.1 = P := ⟨_, rfl⟩
    obtain ⟨R, hR0⟩ : ∃ P : List Int, z.2.1 = P := ⟨_, rfl⟩
    have hpR := hp.keep (fs := []) kF (by simp)
    rw [hR0] at hpR
    rw [hP0] at hq hok el el' u1
    rw [hR0] at hok el el' z1
    rw [el] at u1 hq
    have u1 : loadRow mF ⟨ma, j * 4 + 1, none⟩ 1 = some [.slice qo R.length R.length] := u1
    have z1 : loadRow mF ⟨mb, i * 4 + 1, none⟩ 1 = some [.slice po R.length R.length] := z1
    have hq : Rs mF qo R.length (P.map (Value.int .i64)) 3 1 qf := hq
    have hpR : Rs mF po R.length (R.map (Value.int .i64)) 3 1 pf := hpR
    have el : P.length = R.length := el
    have hok : okM A z = decide (P = R) := by
      rw [hok, er, decide_eq_true rfl, Bool.true_and]
    have hwR : R.length ≤ 9223372036854775807 := by
      have := (hMb.wf _ (List.getElem_mem hlt)).2.1.1
      rw [hz, hR0] at this
      exact this
    obtain ⟨w0, hw0⟩ : ∃ w0, (B.take i).all (okM A) = w0 := ⟨_, rfl⟩
    rw [hw0]
    refine wsem_loop 14 [22, 49, 69, 77, 140, 152] (fun de E mD => ∃ (q : Nat), R.length - q = de ∧ q ≤ R.length ∧ mD = mF ∧
      E = [(1, .int .i64 a), (2, .int .i64 b), (7, .slice (some ⟨bo, 0, none⟩) L.length L.length), (9, .bool (w0 && decide (P.take q = R.take q))), (10, .int .i64 i), (11, .int .i64 j), (13, .int .i64 q)]) _ ⟨_, ⟨0, rfl, by omega, rfl, rfl⟩, ⟨by rfl, by rfl, by rfl, by simp [lget], by rfl, by rfl, by rfl, trivial⟩⟩ ?_
    rintro de E mD ihM ⟨q, hdq, hq1, rfl, rfl⟩
    by_cases hlq : q < R.length
    · have i2 : (q : Int) < R.length := by omega
      have emq : (q : Int) ≤ 9223372036854775807 := by omega
      have wq : IntKind.i64.wrap ((q : Int) + 1) = ((q + 1 : Nat) : Int) := by rw [wrap_i64 (by omega) (by omega)]; omega
      have hlq' : q < P.length := by omega
      obtain ⟨bx, rfl, ox⟩ := hq.rdo (by omega)
      obtain ⟨bY, rfl, oy⟩ := hpR.rdo (by omega)
      have lx : loadRow mD ⟨bx, q, none⟩ 1 = some [.int .i64 P[q]] := by
        rw [ox.load (off := q) 1 (by simp; omega)]
        simp only [window, ← List.map_drop, ← List.map_take]
        rw [List.drop_eq_getElem_cons hlq']
        rfl
      have ly : loadRow mD ⟨bY, q, none⟩ 1 = some [.int .i64 R[q]] := by
        rw [oy.load (off := q) 1 (by simp; omega)]
        simp only [window, ← List.map_drop, ← List.map_take]
        rw [List.drop_eq_getElem_cons hlq]
        rfl
      have step : decide (P.take (q + 1) = R.take (q + 1)) = (decide (P.take q = R.take q) && decide (P[q] = R[q])) := by
        rw [List.take_succ_eq_append_getElem hlq', List.take_succ_eq_append_getElem hlq]
        by_cases g1 : P.take q = R.take q
        · have g2 : (R.take q ++ [P[q]] = R.take q ++ [R[q]]) ↔ P[q] = R[q] := ⟨fun h => (List.cons.inj (List.append_cancel_left h)).1, fun h => by rw [h]⟩
          rw [g1, decide_eq_true (rfl : R.take q = R.take q), Bool.true_and]
          exact decide_eq_decide.2 g2
        · have : ¬ (P.take q ++ [P[q]] = R.take q ++ [R[q]]) := fun h => g1 (List.append_inj_left h (by simp; omega))
          rw [decide_eq_false this, decide_eq_false g1, Bool.false_and]
      obtain ⟨v1, hv1⟩ : ∃ x, P[q] = x := ⟨_, rfl⟩
      obtain ⟨v2, hv2⟩ : ∃ x, R[q] = x := ⟨_, rfl⟩
      rw [hv1] at lx step
      rw [hv2] at ly step
      obtain ⟨w1, hw1⟩ : ∃ w1, (w0 && decide (P.take q = R.take q)) = w1 := ⟨_, rfl⟩
      have hw2 : (w0 && decide (P.take (q + 1) = R.take (q + 1))) = (w1 && decide (v1 = v2)) := by rw [step, ← hw1, Bool.and_assoc]
      rw [hw1]
      cases w1
      · simp [-Int.natCast_add, -BitVec.toNat_or, -BitVec.toNat_ofInt, -BitVec.toNat_and, len_slice u27, index_slice u27 sz25, fieldAddr_of fa25_0, load_of ld3, fieldAddr_of fa25_4, load_of ld23, len_slice u23, index_slice u23 sz38, fieldAddr_of fa38_0, load_of ld9, fieldAddr_of fa38_2, fieldAddr_of fa38_1, load_of ld36, len_slice u36, index_slice u36 sz3, bin_bool u4 .eql (Or.inl rfl), i2, emi, emb, ema, emj, emq, hb, ha, hj, hlt, hlq, lb5, la5, z1, u1, wq]
        exact ihM _ _ _ _ ⟨q + 1, rfl, by omega, rfl, rfl⟩ (by omega) ⟨by rfl, by rfl, by rfl, by simp [lget, hw2], by rfl, by rfl, by simp [lget], trivial⟩
      · simp [-Int.natCast_add, -BitVec.toNat_or, -BitVec.toNat_ofInt, -BitVec.toNat_and, len_slice u27, index_slice u27 sz25, fieldAddr_of fa25_0, load_of ld3, fieldAddr_of fa25_4, load_of ld23, len_slice u23, index_slice u23 sz38, fieldAddr_of fa38_0, load_of ld9, fieldAddr_of fa38_2, fieldAddr_of fa38_1, load_of ld36, len_slice u36, index_slice u36 sz3, bin_bool u4 .eql (Or.inl rfl), i2, emi, emb, ema, emj, emq, hb, ha, hj, hlt, hlq, lb5, la5, z1, u1, lx, ly, wq]
        exact ihM _ _ _ _ ⟨q + 1, rfl, by omega, rfl, rfl⟩ (by omega) ⟨by rfl, by rfl, by rfl, by simp [lget, hw2], by rfl, by rfl, by simp [lget], trivial⟩
    · have i2 : ¬ (q : Int) < R.length := by omega
      have emi : (i : Int) ≤ 9223372036854775807 := emi
      have e1 : P.take q = P := List.take_of_length_le (by omega)
      have e2 : R.take q = R := List.take_of_length_le (by omega)
      have e3 : (w0 && decide (P = R)) = (B.take (i + 1)).all (okM A) := by
        rw [List.take_succ_eq_append_getElem hlt, List.all_append, hw0, ← hok, hz]
        simp
      rw [e1, e2, e3]
      simp [-Int.natCast_add, -BitVec.toNat_or, -BitVec.toNat_ofInt, -BitVec.toNat_and, len_slice u27, index_slice u27 sz25, fieldAddr_of fa25_0, load_of ld3, fieldAddr_of fa25_4, load_of ld23, len_slice u23, index_slice u23 sz38, fieldAddr_of fa38_0, load_of ld9, fieldAddr_of fa38_2, fieldAddr_of fa38_1, load_of ld36, len_slice u36, index_slice u36 sz3, bin_bool u4 .eql (Or.inl rfl), i2, emi, emb, hb, hlt, lb5, z1, wi]
      exact ih _ _ _ _ ⟨i + 1, rfl, by omega, KF, rfl⟩ (by omega) ⟨by rfl, by rfl, by rfl, by rfl, by simp [lget], trivial⟩
  · have i1 : ¬ (i : Int) < B.length := by omega
    obtain ⟨m3, hf⟩ := done _ hall mC kC
    have ht : B.take i = B := List.take_of_length_le (by omega)
    simp [-Int.natCast_add, -BitVec.toNat_or, -BitVec.toNat_ofInt, -BitVec.toNat_and, len_slice u27, index_slice u27 sz25, fieldAddr_of fa25_0, load_of ld3, fieldAddr_of fa25_4, load_of ld23, len_slice u23, index_slice u23 sz38, fieldAddr_of fa38_0, load_of ld9, fieldAddr_of fa38_2, fieldAddr_of fa38_1, load_of ld36, len_slice u36, index_slice u36 sz3, bin_bool u4 .eql (Or.inl rfl), emb, hb, lb4, i1, ht, hf]

/- the row -/
open Go.ChangeShapes Go.WideShapes Go.ChangeAt Go.RowKit
theorem own : ownKnob Tryd.prog.godebug = none := by kernel_rfl
theorem mixed : Tryd.prog.follows .mixedOrders = true := by kernel_rfl
theorem tab : Sh.tabCheck Tryd.prog fns = true := by kernel_rfl
theorem known : Sh.isVal (.bool true) (Sh.call Tryd.prog (Sh.tabOf Tryd.prog fns) Sh.noSums 100000 7 [] (Sh.memG Tryd.prog [])) = true := by kernel_rfl
def sums : Sums := fun f => if f = 7 then [([], .bool true)] else []
theorem sumsOk : SumsOk Tryd.prog sums := by
  intro f p hp
  unfold sums at hp
  split at hp
  · rename_i hf
    subst hf
    simp only [List.mem_cons, List.not_mem_nil, or_false] at hp
    subst hp
    exact ⟨rfl, rfl, ⟨Tryd.f7, Tryd.func7, by kernel_rfl, by kernel_rfl⟩, fun w => Sh.closed_val mixed (Sh.tab_ok tab) (Sh.noSums_ok _) 100000 7 Tryd.func7 (by kernel_rfl) (gs := []) (by kernel_rfl) (by kernel_rfl) known w (fun p hp => by simp at hp)⟩
  · simp at hp

theorem tab0 {w : World} (h : laidMetH Tryd.prog Rows.kindsFitsRow.laid w) : 0 < w.heap.size ∧ ∀ (i : Nat) v, ((Sh.tabLits (Rows.laid_turnstone_turnstonelaw2_names : DataW Unit)).map Lit.value)[i]? = some v → w.cell? ⟨0, i, none⟩ = some v :=
  Sh.laid_lits (name := "turnstone/turnstonelaw2.names") (t := 47) (e := 9) (n := 8) (by kernel_rfl) h (by
    have e : (("turnstone/turnstonelaw2.names", (.agg ((Sh.tabLits (Rows.laid_turnstone_turnstonelaw2_names : DataW Unit)).map .lit) : DataW Unit)) : String × DataW Unit) = ("turnstone/turnstonelaw2.names", Rows.laid_turnstone_turnstonelaw2_names) := by kernel_rfl
    rw [e]
    simp [Rows.kindsFitsRow]) (by kernel_rfl) (by kernel_rfl) Tryd.underlying47 (by first | exact Or.inr (Or.inl Tryd.underlying9) | exact Or.inl ⟨_, Tryd.underlying9⟩ | exact Or.inr (Or.inr Tryd.underlying9)) (by kernel_rfl) (by kernel_rfl) (of_decide_eq_true (by kernel_rfl))
def tables : List (Nat × List Value) := [(0, (Sh.tabLits (Rows.laid_turnstone_turnstonelaw2_names : DataW Unit)).map Lit.value)]
theorem rd0 : Rdo (memG Tryd.prog tables) 0 base.nmsC (gtype Tryd.prog 0) 0 := ⟨by kernel_rfl, ⟨⟨none, 0⟩, by kernel_rfl, Nat.zero_le _⟩, of_decide_eq_true (by kernel_rfl), of_decide_eq_true (by kernel_rfl)⟩
theorem startT (w : World) (h : laidMetH Tryd.prog Rows.kindsFitsRow.laid w) : MRel Tryd.prog (inj0 Tryd.prog) (memG Tryd.prog tables) (allF w) w w := by
  refine memG_rel Tryd.prog w tables fun p hp => ?_
  simp only [tables, List.mem_cons, List.not_mem_nil, or_false] at hp
  rcases hp with rfl
  · exact ⟨of_decide_eq_true (by kernel_rfl), (tab0 h).1, by kernel_rfl, by kernel_rfl, (tab0 h).2⟩

theorem walk (w : World) (hL : laidMetH Tryd.prog Rows.kindsFitsRow.laid w) {v0 : Value} (h0 : DatArg Tryd.prog w (Ty.slice 46 (Ty.pair (Ty.int .i64) (Ty.pair (Ty.int .i64) (Ty.pair (Ty.int .i64) (Ty.pair (Ty.slice 3 (Ty.int .i64)) (Ty.pair (Ty.slice 36 (Ty.slice 3 (Ty.int .i64))) (Ty.pair (Ty.int .i64) Ty.unit))))))) v0) (x1 : Int) (hx1 : (Lit.int .i64 x1).wf = true) (x2 : Int) (hx2 : (Lit.int .i64 x2).wf = true) :
    Calls Tryd.prog 4 #[v0, .int .i64 x1, .int .i64 x2] w fun e w' => e = .returned (.bool true) ∧ Below w.heap.size w w' := by
  have hM := startT w hL
  obtain ⟨rs0, J0, m0, cs0, hw0, le0, hM0, vr0, hr0, hk0⟩ := h0 _ _ hM
  obtain ⟨v', m', h, rfl⟩ := law_run (S := sums) (m := m0) ⟨⟨rfl, rfl, rfl, rfl, rfl, rfl⟩, ⟨rfl, rfl, rfl, rfl, rfl⟩, ⟨rfl, rfl, rfl, rfl, rfl, rfl, rfl⟩, rfl, rfl, rfl, rfl⟩ rfl rfl rfl rfl rfl rfl hw0 hr0 hx1 hx2 (rd0.keep hk0 (by simp))
  exact calls_of mixed (Sh.tab_ok tab) sumsOk Tryd.func4 (by kernel_rfl) h rfl hM0 (.cons vr0 (.cons (.clo _ rfl) (.cons (.clo _ rfl) LRel.nil)))

theorem laidOut : laidOutB Tryd.prog = true := by kernel_rfl

theorem contract (H : Type) (enc : TypeId × Value → H) (W : World) (base : Nat) (args : Array Value) (ds gs : List (DataW H)) (before : List MemPlace)
    (hval : ∀ (j : Nat) t v, Tryd.f4.params[j]? = some t → args[j]? = some v → Value.okWide Tryd.prog W .any base t v)
    (hW : DataW.Whole enc Tryd.prog Tryd.f4.params.toList Rows.kindsFitsSpec.vars false W args.toList ds gs before) (hL : laidMetH Tryd.prog Rows.kindsFitsRow.laid W) :
    Calls Tryd.prog 4 args W fun e W' => ∃ v, e = .returned v ∧ Rows.kindsFitsSpec.post enc Tryd.prog Tryd.f4 false true false false W args v W' := by
  have hW' := hW
  obtain ⟨p, q, hA0, hV, rfl, hfz, hnd⟩ := hW
  have hA : DataW.TrodAll enc Tryd.prog W 0 (fun _ => true) true Tryd.f4.params.toList args.toList ds p := hA0
  rw [Tryd.params4] at hA hval
  obtain ⟨v0, v1, v2, d0, d1, d2, p0, p1, p2, rfl, rfl, rfl, t0, t1, t2⟩ := trodAll_three hA
  obtain ⟨rfl, rfl⟩ := trodVars_none hV
  have hv0 := dat_arg (ty := (Ty.slice 46 (Ty.pair (Ty.int .i64) (Ty.pair (Ty.int .i64) (Ty.pair (Ty.int .i64) (Ty.pair (Ty.slice 3 (Ty.int .i64)) (Ty.pair (Ty.slice 36 (Ty.slice 3 (Ty.int .i64))) (Ty.pair (Ty.int .i64) Ty.unit)))))))) (t := 26) (by kernel_rfl) (hval 0 _ _ rfl rfl) t0
  obtain ⟨x1, rfl, rfl, rfl, hx1⟩ := open_int u3 (hval 1 _ _ rfl rfl) t1
  obtain ⟨x2, rfl, rfl, rfl, hx2⟩ := open_int u3 (hval 2 _ _ rfl rfl) t2
  clear hA0
  simp only [List.append_nil, List.nil_append] at hW'
  refine (walk W hL hv0 x1 hx1 x2 hx2).mono fun e W' ⟨he, hg⟩ => ?_
  subst he
  have hlt0 : ∀ z ∈ p0, z.block < W.heap.size := fun z hz => hW'.lt z (by simp [hz])
  exact ⟨_, rfl, Sh.law_post (pa := (p0 ++ ([] ++ []))) (pv := []) hW' hg (by simp) (fun sp hsp => trodAll_mk3 (WideElems.Trod_stays laidOut (by kernel_rfl) (of_decide_eq_true (by kernel_rfl)) t0 (fun z hz => hg.same (hlt0 z hz)) (fun z hz => hsp z (by simp [hz]))) (shut_int u3 hx1) (shut_int u3 hx2)) (fun _ _ => rfl) (fun _ _ _ => (trodAll_cons_mk (shut_bool u4 _) trodAll_mk0))
    (ok_one (by kernel_rfl) rfl (okWide_bool_mk u4 _))⟩
/-- A world for the witness: the settled one, the listed variables holding what is laid. -/
noncomputable def laidWorld (os : Os) : World :=
  { World.holding Tryd.prog os ⟨#[], #[], []⟩ with heap := ((World.holding Tryd.prog os ⟨#[], #[], []⟩).heap).modify 0 (Sh.laidBlock (Rows.laid_turnstone_turnstonelaw2_names : DataW Unit)) }
theorem laid_met (os : Os) : laidMet Tryd.prog Rows.kindsFitsRow.laid ((laidWorld os).forCall (fun _ _ => 0) ⟨#[], #[(tyVal (Ty.slice 46 (Ty.pair (Ty.int .i64) (Ty.pair (Ty.int .i64) (Ty.pair (Ty.int .i64) (Ty.pair (Ty.slice 3 (Ty.int .i64)) (Ty.pair (Ty.slice 36 (Ty.slice 3 (Ty.int .i64))) (Ty.pair (Ty.int .i64) Ty.unit))))))) ((Ty.slice 46 (Ty.pair (Ty.int .i64) (Ty.pair (Ty.int .i64) (Ty.pair (Ty.int .i64) (Ty.pair (Ty.slice 3 (Ty.int .i64)) (Ty.pair (Ty.slice 36 (Ty.slice 3 (Ty.int .i64))) (Ty.pair (Ty.int .i64) Ty.unit)))))))).zeros), .int .i64 0, .int .i64 0], []⟩).memory :=
  laidMet_of_run' 8 (by kernel_rfl) (by kernel_rfl)
theorem reads (os : Os) {H : Type} (enc : TypeId × Value → H) : ∃ places, DataW.whole enc Tryd.prog ((laidWorld os).forCall (fun _ _ => 0) ⟨#[], #[(tyVal (Ty.slice 46 (Ty.pair (Ty.int .i64) (Ty.pair (Ty.int .i64) (Ty.pair (Ty.int .i64) (Ty.pair (Ty.slice 3 (Ty.int .i64)) (Ty.pair (Ty.slice 36 (Ty.slice 3 (Ty.int .i64))) (Ty.pair (Ty.int .i64) Ty.unit))))))) ((Ty.slice 46 (Ty.pair (Ty.int .i64) (Ty.pair (Ty.int .i64) (Ty.pair (Ty.int .i64) (Ty.pair (Ty.slice 3 (Ty.int .i64)) (Ty.pair (Ty.slice 36 (Ty.slice 3 (Ty.int .i64))) (Ty.pair (Ty.int .i64) Ty.unit)))))))).zeros), .int .i64 0, .int .i64 0], []⟩).memory Tryd.f4.params.toList Rows.kindsFitsSpec.vars false (#[(tyVal (Ty.slice 46 (Ty.pair (Ty.int .i64) (Ty.pair (Ty.int .i64) (Ty.pair (Ty.int .i64) (Ty.pair (Ty.slice 3 (Ty.int .i64)) (Ty.pair (Ty.slice 36 (Ty.slice 3 (Ty.int .i64))) (Ty.pair (Ty.int .i64) Ty.unit))))))) ((Ty.slice 46 (Ty.pair (Ty.int .i64) (Ty.pair (Ty.int .i64) (Ty.pair (Ty.int .i64) (Ty.pair (Ty.slice 3 (Ty.int .i64)) (Ty.pair (Ty.slice 36 (Ty.slice 3 (Ty.int .i64))) (Ty.pair (Ty.int .i64) Ty.unit)))))))).zeros), .int .i64 0, .int .i64 0] : Array Value).toList 8 = some ([(((Ty.slice 46 (Ty.pair (Ty.int .i64) (Ty.pair (Ty.int .i64) (Ty.pair (Ty.int .i64) (Ty.pair (Ty.slice 3 (Ty.int .i64)) (Ty.pair (Ty.slice 36 (Ty.slice 3 (Ty.int .i64))) (Ty.pair (Ty.int .i64) Ty.unit)))))))).zdata), .lit (.int .i64 0), .lit (.int .i64 0)], [], places) :=
  ⟨[], by kernel_rfl⟩

theorem lifted (os : Os) (started : os.Started) (H : Type) (enc : TypeId × Value → H) (F : Stop.Interp) :
    ReturnsInHanded {} Tryd.checked os 4 .any ((OpenSpec.ofChange Rows.kindsFitsSpec).preRow enc Tryd.prog Tryd.f4 Rows.kindsFitsRow.domain false Rows.kindsFitsRow.laid) (((OpenSpec.ofChange Rows.kindsFitsSpec).at F).post enc Tryd.prog Tryd.f4 false true false false) := by
  obtain ⟨places, hx⟩ := reads os enc
  refine returnsInHanded_of_row (C := Tryd.checked) (s := OpenSpec.ofChange Rows.kindsFitsSpec) own started (by kernel_rfl) Tryd.func4
    (witness_row_at (enc := enc) (C := Tryd.checked) false (laidWorld os) #[(tyVal (Ty.slice 46 (Ty.pair (Ty.int .i64) (Ty.pair (Ty.int .i64) (Ty.pair (Ty.int .i64) (Ty.pair (Ty.slice 3 (Ty.int .i64)) (Ty.pair (Ty.slice 36 (Ty.slice 3 (Ty.int .i64))) (Ty.pair (Ty.int .i64) Ty.unit))))))) ((Ty.slice 46 (Ty.pair (Ty.int .i64) (Ty.pair (Ty.int .i64) (Ty.pair (Ty.int .i64) (Ty.pair (Ty.slice 3 (Ty.int .i64)) (Ty.pair (Ty.slice 36 (Ty.slice 3 (Ty.int .i64))) (Ty.pair (Ty.int .i64) Ty.unit)))))))).zeros), .int .i64 0, .int .i64 0] rfl (by kernel_rfl) (by kernel_rfl) (by kernel_rfl)
      (OpenSpec.preRow_of_cond 8 hx (by kernel_rfl) (fun k hk => by cases hk) (by kernel_rfl) (laid_met os))) ?_
  intro W base args ds gs before hval hW _ _ hwt hL _ _
  exact contract H enc W base args ds gs before hval hW hL

theorem said : Rows.KindsFitsSaid :=
  OpenClaim.holds_of_cond 4 Tryd.f4 rfl rfl rfl rfl rfl rfl rfl ⟨rfl, rfl, rfl, rfl, rfl⟩ rfl rfl rfl rfl rfl (by kernel_rfl) Tryd.func4 (by kernel_rfl)
    (of_decide_eq_true (by kernel_rfl)) (by unfold Func.isWrapper; first | (rw [if_pos (by decide +kernel)]; kernel_rfl) | (rw [if_neg (by decide +kernel)]; exact ⟨rfl, rfl⟩))
    (fun os started H enc _ F => by rw [OpenClaim.pre_eq_preRow]; exact lifted os started H enc F)

theorem plain (f : FuncId) (fn : Func) (hf : Tryd.pinned.checked.prog.funcNamed "turnstone/turnstonelaw2.KindsFits" = some f) (hfn : Tryd.pinned.checked.prog.funcs[f]? = some fn) :
    false = Tryd.pinned.checked.prog.looks [] ∧ ∀ (j : Nat) t, fn.params[j]? = some t → Tryd.pinned.checked.prog.wantsStandIn t = false := by
  obtain rfl : f = 4 := Option.some.inj ((show Tryd.prog.funcNamed "turnstone/turnstonelaw2.KindsFits" = some 4 by kernel_rfl).symm.trans hf) |>.symm
  obtain rfl : fn = Tryd.f4 := (Option.some.inj (Tryd.func4.symm.trans hfn)).symm
  refine ⟨by kernel_rfl, fun j t ht => ?_⟩
  rw [Tryd.params4] at ht
  rcases j with _ | _ | _ | _
  all_goals first
    | (simp at ht; done)
    | (obtain rfl := Option.some.inj ht; kernel_rfl)
    | (simp at ht; subst ht; kernel_rfl)

theorem proved : Rows.KindsFitsCardSaid :=
  Claim7.holds_tied_plain_at .later [] _ _ _ _ said (fun _ h => by cases h) (by kernel_rfl) (fun _ h => by cases h) kindsFits_row_tie rfl ⟨rfl, rfl⟩ (by kernel_rfl) rfl plain (by kernel_rfl)
#print axioms proved
end Go.Proofs.YtllhpkhbcgfeeaaDoor.kindsFits

