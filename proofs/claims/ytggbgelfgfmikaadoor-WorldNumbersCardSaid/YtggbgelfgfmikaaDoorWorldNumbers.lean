/-
  This text proves 'Rows.WorldNumbersCardSaid': the law 'WorldNumbers' returns true at any numbers, in whatever memory and on every tape, and its input reads as it did.
  The condition is the card's own: the listed package-level variables hold what the program's text lays.
-/
import Derived.Test.YtggbgelfgfmikaaDoorCards
import Derived.Test.YtggbgelfgfmikaaDoorTie
import Derived.Deep.DeepHandedRow
import Derived.Lib.LaidTab
import Derived.Test.YtggbgelfgfmikaaDoorWorD
set_option maxRecDepth 100000
set_option linter.unusedSimpArgs false
set_option linter.unusedVariables false
namespace Go.Proofs.YtggbgelfgfmikaaDoor.worldNumbers
open Go.Sh gen base
variable {S : Sums} {m : Mem}
/-- what is printed of a number: itself, and whether it is odd -/
def lineOf (x : Int) : List (List UInt8) := [fmt x, if x % 2 = 0 then fls else tru]
theorem wrap_u64_mod (x : Int) : IntKind.u64.wrap x = x % 18446744073709551616 := by
  have e1 : (2 : Int) ^ IntKind.u64.bits = 18446744073709551616 := by decide
  have e3 : IntKind.u64.signed = false := rfl
  simp only [IntKind.wrap, e1, e3, Bool.false_and]
  simp
theorem i64of_id {x : Int} (h1 : -9223372036854775808 ≤ x) (h2 : x ≤ 9223372036854775807) : i64of (IntKind.u64.wrap x) = x := by
  rw [wrap_u64_mod]
  have e1 : (2 : Int) ^ IntKind.i64.bits = 18446744073709551616 := by decide
  have e2 : (2 : Int) ^ (IntKind.i64.bits - 1) = 9223372036854775808 := by decide
  have e3 : IntKind.i64.signed = true := rfl
  unfold i64of
  simp only [IntKind.wrap, e1, e2, e3, Bool.true_and, decide_eq_true_eq]
  split <;> omega
theorem line_at {L : List Int} {i : Nat} (h : i < L.length) : (L.flatMap lineOf)[2 * i]? = some (fmt L[i]) ∧ (L.flatMap lineOf)[2 * i + 1]? = some (if L[i] % 2 = 0 then fls else tru) := by
  induction L generalizing i with
  | nil => simp at h
  | cons x r ih =>
    cases i with
    | zero => simp [lineOf]
    | succ i =>
      have h1 := ih (i := i) (by simpa using h)
      simp only [List.flatMap_cons, lineOf, List.getElem_cons_succ]
      rw [show 2 * (i + 1) = 2 * i + 2 by omega, show 2 * i + 2 + 1 = 2 * i + 1 + 2 by omega]
      simpa using h1
theorem lines_len (L : List Int) : (L.flatMap lineOf).length = 2 * L.length := by
  induction L with
  | nil => rfl
  | cons x r ih => simp [lineOf, ih]; omega
set_option maxHeartbeats 4000000 in
theorem law_run (hN : Nw S) (hS : S 4 = []) (hD : S 15 = []) (hB : S 45 = []) (hF1 : S 58 = []) (hF2 : S 66 = [])
    {rs : List Int} {ao : Option Addr} {fr : Nat} (hr : Rs m ao rs.length (rs.flatMap fun n => [Value.int .i64 n]) 2 1 fr) (hfr : fr < m.next) (hz : rs.length ≤ 9223372036854775807) (hw : ∀ n ∈ rs, (Lit.int .i64 n).wf = true)
    {e : TypeId} (hg : Rdo m 0 powC e 0) :
    ∃ r m', callw Tryd.prog TT S 4 [.slice ao rs.length rs.length] m = some (r, m') ∧ r = .bool true := by
  have hi64 : ∀ n ∈ rs, -9223372036854775808 ≤ n ∧ n ≤ 9223372036854775807 := by
    intro n hn
    have := hw n hn
    simp only [Lit.wf, Bool.and_eq_true, decide_eq_true_eq] at this
    have e1 : IntKind.i64.min = -9223372036854775808 := by decide
    have e2 : IntKind.i64.max = 9223372036854775807 := by decide
    omega
  refine fn_w 10 [24, 30, 54, 57, 66, 87] k4 hS rfl ?_
  obtain ⟨p, m1, m2, xb, hb, wb, wb', lo, lf, c1, c2, W2, g1, g2, g3, g4, k2⟩ := made_run (m := m) hN (ts := []) (room := 50) (to := none) (to_f := 0) (Sl.nil _ _ _ _).rs (by omega) (by simp) (by simp) (by simp)
  obtain ⟨_, m3, ck, rfl, k3⟩ := known_run (m := m2) hN (hg.keep k2 (by simp))
  have W3 := W2.keep0 k3
  have K3 := k2.trans k3
  have c1' : callw Tryd.prog TT S 9 [.slice none 0 0] m = some (p, m1) := c1
  obtain ⟨N, hN1, hN2⟩ : ∃ N : Nat, (if (60 : Int) < (rs.length : Int) then (60 : Int) else (rs.length : Int)) = N ∧ N ≤ rs.length ∧ N ≤ 60 := by
    by_cases h : (60 : Int) < (rs.length : Int)
    · exact ⟨60, by rw [if_pos h]; rfl, by omega, by omega⟩
    · exact ⟨rs.length, by rw [if_neg h], by omega, by omega⟩
  simp [-Int.natCast_add, -BitVec.toNat_or, -BitVec.toNat_ofInt, -BitVec.toNat_and, bin_ptr u23, len_slice u29, index_slice u29 sz2, load_of ld2, conv_i u2 u22, len_slice u28, index_slice u28 sz9, load_of ld9, c1', c2, ck, hN1]
  have row : ∀ {m' : Mem} (i : Nat) (hi : i < rs.length), Keeps m m' [] → ∃ ab, ao = some ⟨ab, 0, none⟩ ∧ loadRow m' ⟨ab, i, none⟩ 1 = some [.int .i64 rs[i]] := by
    intro m' i hi hk
    obtain ⟨ab, h1, h2⟩ := (hr.keep hk (by simp)).rdo (by omega)
    refine ⟨ab, h1, ?_⟩
    have e1 : (rs.flatMap fun n => [Value.int .i64 n]) = rs.map (Value.int .i64) := List.map_eq_flatMap.symm
    rw [h2.load (off := i) 1 (by rw [e1]; simp; omega), e1]
    simp only [window, ← List.map_drop, ← List.map_take]
    rw [List.drop_eq_getElem_cons hi]
    rfl
  refine wsem_loop 10 [24, 30, 54, 57, 66, 87] (fun d E mC => ∃ (i : Nat) (no : Option Addr) (nf : Nat), N - i = d ∧ i ≤ N ∧ WAt mC xb xb hb hb wb' wb (0 :: flatT []) 50 lo no lf nf (refsT 1 []) ((rs.take i).flatMap lineOf) ∧ (no ≠ none → m.next ≤ nf) ∧ Keeps m mC [] ∧
    E = [(0, .slice ao rs.length rs.length), (3, .pointer (some ⟨xb, 0, none⟩)), (5, .int .i64 N), (6, .int .i64 i)]) _ ⟨_, ⟨0, none, 0, rfl, by omega, by simpa using W3, fun h => absurd rfl h, K3, rfl⟩, ⟨by rfl, by rfl, by rfl, by rfl, trivial⟩⟩ ?_
  rintro d E mC ih ⟨i, no, nf, hd, hi, WC, hnf, kC, rfl⟩
  have ll : ((rs.take i).flatMap lineOf).length = 2 * i := by rw [lines_len, List.length_take]; omega
  by_cases hlt : i < N
  · have i1 : (i : Int) < N := by omega
    have i2 : (i : Int) < rs.length := by omega
    have i3 : i < rs.length := by omega
    have em : (i : Int) ≤ 9223372036854775807 := by omega
    have wi : IntKind.i64.wrap ((i : Int) + 1) = ((i + 1 : Nat) : Int) := by rw [wrap_i64 (by omega) (by omega)]; omega
    obtain ⟨x, hx⟩ : ∃ x, rs[i] = x := ⟨_, rfl⟩
    have hxr := hi64 x (by rw [← hx]; exact List.getElem_mem _)
    obtain ⟨y, hy⟩ : ∃ y : Nat, IntKind.u64.wrap x = (y : Int) := ⟨(IntKind.u64.wrap x).toNat, by have := wrap_u64_nonneg x; omega⟩
    have hyx := hy
    rw [wrap_u64_mod] at hyx
    obtain ⟨z, hz2⟩ : ∃ z : Nat, y % 2 = z := ⟨_, rfl⟩
    have ht : Int.tmod (y : Int) 2 = (z : Int) := by rw [show Int.tmod (y : Int) 2 = ((y % 2 : Nat) : Int) from rfl, hz2]
    have ht' : (y : Int) % 2 = (z : Int) := by omega
    obtain ⟨ab, rfl, l0⟩ := row (m' := mC) i i3 kC
    rw [hx] at l0
    obtain ⟨_, m4, s4, rfl, j4⟩ := say_int (m := mC) hN.say hN.f (hg.keep kC (by simp)) (p := .pointer (some ⟨xb, 0, none⟩)) (y : Int)
    have ey : i64of (y : Int) = x := by rw [← hy]; exact i64of_id hxr.1 hxr.2
    rw [ey] at s4
    obtain ⟨r5, m5, c5, ⟨no5, nf5, W5, hnf5⟩, nq5, k5, hnq5⟩ := print_run hN.print hN.full WC (by omega) s4 j4
    rw [if_pos (by omega)] at W5
    have s5 := say_bool (m := m5) hN.say hF1 hF2 (p := .pointer (some ⟨xb, 0, none⟩)) (z : Int)
    obtain ⟨r6, m6, c6, ⟨no6, nf6, W6, hnf6⟩, nq6, k6, hnq6⟩ := print_run hN.print hN.full W5 (by rw [List.length_append, ll]; simp only [List.length_cons, List.length_nil]; omega) s5 (keeps_refl _)
    rw [if_pos (by rw [List.length_append, ll]; simp only [List.length_cons, List.length_nil]; omega)] at W6
    have h5n : no5 ≠ none → m.next ≤ nf5 := fun h => by
      rcases hnf5 h with ⟨h1, h2⟩ | h1
      · rw [h2]; exact hnf h1
      · have := kC.1; omega
    have K5 : Keeps m m5 [] := kC.fresh k5 (by
      intro f hf
      simp at hf
      rcases hf with rfl | rfl
      · exact g1
      · rcases hnq5 with h | ⟨h, h2⟩
        · rw [h]; exact g1
        · rw [h2]; exact hnf h)
    have K6 : Keeps m m6 [] := K5.fresh k6 (by
      intro f hf
      simp at hf
      rcases hf with rfl | rfl
      · exact g1
      · rcases hnq6 with h | ⟨h, h2⟩
        · rw [h]; exact g1
        · rw [h2]; exact h5n h)
    obtain ⟨ab2, hab, l1⟩ := row (m' := m5) i i3 K5
    cases hab
    rw [hx] at l1
    simp [-Int.natCast_add, -BitVec.toNat_or, -BitVec.toNat_ofInt, -BitVec.toNat_and, bin_ptr u23, len_slice u29, index_slice u29 sz2, load_of ld2, conv_i u2 u22, len_slice u28, index_slice u28 sz9, load_of ld9, i1, i2, i3, em, l0, l1, hy, ht, ht', c5, c6, wi]
    refine ih _ _ _ _ ⟨i + 1, no6, nf6, rfl, by omega, ?_, ?_, K6, rfl⟩ (by omega) ⟨by rfl, by rfl, by rfl, by simp [lget], trivial⟩
    · have e : (rs.take (i + 1)).flatMap lineOf = (rs.take i).flatMap lineOf ++ [fmt x] ++ [if (z : Int) = 0 then fls else tru] := by
        rw [List.take_succ_eq_append_getElem i3, List.flatMap_append, hx]
        have ez : ((z : Int) = 0) = (x % 2 = 0) := by
          apply propext
          omega
        simp only [List.flatMap_cons, List.flatMap_nil, lineOf, List.append_nil, List.append_assoc, List.cons_append, List.nil_append, ez]
      rw [e]
      exact W6
    · intro h
      rcases hnf6 h with ⟨h1, h2⟩ | h1
      · rw [h2]; exact h5n h1
      · have := K5.1; omega
  · clear ih
    have i1 : ¬ (i : Int) < N := by omega
    have eN : i = N := by omega
    subst eN
    obtain ⟨_, m7, c7, ⟨tb, rfl, tf, oT, htf⟩, k7⟩ := trace_run hN.trace WC (by omega)
    rw [ll] at c7
    have K7 := kC.trans k7
    have w2 : IntKind.i64.wrap (2 * (i : Int)) = ((2 * i : Nat) : Int) := by rw [wrap_i64 (by omega) (by omega)]; omega
    have w2' : IntKind.i64.wrap ((i : Int) * 2) = ((2 * i : Nat) : Int) := by rw [wrap_i64 (by omega) (by omega)]; omega
    simp [-Int.natCast_add, -Int.natCast_mul, -BitVec.toNat_or, -BitVec.toNat_ofInt, -BitVec.toNat_and, bin_ptr u23, len_slice u29, index_slice u29 sz2, load_of ld2, conv_i u2 u22, len_slice u28, index_slice u28 sz9, load_of ld9, i1, c7, w2, w2']
    refine wsem_loop 10 [24, 30, 54, 57, 66, 87] (fun d E mD => ∃ (k : Nat), i - k = d ∧ k ≤ i ∧ Keeps m7 mD [] ∧
      E = [(0, .slice ao rs.length rs.length), (5, .int .i64 i), (7, .slice (some ⟨tb, 0, none⟩) (2 * i) (2 * i)), (8, .int .i64 k)]) _ ⟨_, ⟨0, rfl, by omega, keeps_refl _, rfl⟩, ⟨by rfl, by rfl, by rfl, by rfl, trivial⟩⟩ ?_
    rintro d E mD ih ⟨k, hdk, hk, kD, rfl⟩
    by_cases hkl : k < i
    · have j1 : (k : Int) < i := by omega
      have j2 : (k : Int) < rs.length := by omega
      have j3 : k < rs.length := by omega
      have jm : (k : Int) ≤ 9223372036854775807 := by omega
      have wk : IntKind.i64.wrap ((k : Int) + 1) = ((k + 1 : Nat) : Int) := by rw [wrap_i64 (by omega) (by omega)]; omega
      obtain ⟨x, hx⟩ : ∃ x, rs[k] = x := ⟨_, rfl⟩
      have hxr := hi64 x (by rw [← hx]; exact List.getElem_mem _)
      obtain ⟨y, hy⟩ : ∃ y : Nat, IntKind.u64.wrap x = (y : Int) := ⟨(IntKind.u64.wrap x).toNat, by have := wrap_u64_nonneg x; omega⟩
      have hyx := hy
      rw [wrap_u64_mod] at hyx
      obtain ⟨z, hz2⟩ : ∃ z : Nat, y % 2 = z := ⟨_, rfl⟩
      have ht : Int.tmod (y : Int) 2 = (z : Int) := by rw [show Int.tmod (y : Int) 2 = ((y % 2 : Nat) : Int) from rfl, hz2]
      have ht' : (y : Int) % 2 = (z : Int) := by omega
      obtain ⟨ab, hao, l0⟩ := row (m' := mD) k j3 (K7.trans kD)
      rw [hx] at l0
      obtain ⟨_, m8, c8, rfl, k8⟩ := digs_run (m := mD) hD hB hxr.1 hxr.2
      obtain ⟨ab2, hao2, l1⟩ := row (m' := m8) k j3 ((K7.trans kD).trans k8)
      rw [hao] at hao2
      cases hao2
      rw [hx] at l1
      have lat := line_at (L := rs.take i) (i := k) (by rw [List.length_take]; omega)
      rw [List.getElem_take, hx] at lat
      obtain ⟨la, lb⟩ := lat
      obtain ⟨k2', hk2⟩ : ∃ q, 2 * k = q := ⟨_, rfl⟩
      obtain ⟨k3', hk3⟩ : ∃ q, k2' + 1 = q := ⟨_, rfl⟩
      rw [hk2] at la lb
      rw [hk3] at lb
      have v2 : IntKind.i64.wrap (2 * (k : Int)) = (k2' : Int) := by rw [wrap_i64 (by omega) (by omega)]; omega
      have v2' : IntKind.i64.wrap ((k : Int) * 2) = (k2' : Int) := by rw [wrap_i64 (by omega) (by omega)]; omega
      have v3 : IntKind.i64.wrap ((k2' : Int) + 1) = (k3' : Int) := by rw [wrap_i64 (by omega) (by omega)]; omega
      have b2 : (k2' : Int) ≤ 9223372036854775807 ∧ (k3' : Int) ≤ 9223372036854775807 ∧ k2' < 2 * i ∧ k3' < 2 * i ∧ (k2' : Int) < ((2 * i : Nat) : Int) ∧ (k3' : Int) < ((2 * i : Nat) : Int) := by omega
      have oD := oT.keep kD (by simp)
      have o8 := oD.keep k8 (by simp)
      have ta : loadRow mD ⟨tb, k2', none⟩ 1 = some [.string ⟨(fmt x).toArray⟩] := oD.load1 (by rw [List.getElem?_map, la]; rfl)
      have ta8 : loadRow m8 ⟨tb, k2', none⟩ 1 = some [.string ⟨(fmt x).toArray⟩] := o8.load1 (by rw [List.getElem?_map, la]; rfl)
      have tbb : loadRow mD ⟨tb, k3', none⟩ 1 = some [.string ⟨(if x % 2 = 0 then fls else tru).toArray⟩] := oD.load1 (by rw [List.getElem?_map, lb]; rfl)
      have tb8 : loadRow m8 ⟨tb, k3', none⟩ 1 = some [.string ⟨(if x % 2 = 0 then fls else tru).toArray⟩] := o8.load1 (by rw [List.getElem?_map, lb]; rfl)
      rw [hao]
      rw [hao] at ih
      by_cases hz1 : z = 1
      · have z1 : (z : Int) = 1 := by omega
        have xo : ¬ x % 2 = 0 := by omega
        rw [if_neg xo] at tbb tb8
        simp [tru] at tbb tb8
        simp [-Int.natCast_add, -Int.natCast_mul, -BitVec.toNat_or, -BitVec.toNat_ofInt, -BitVec.toNat_and, bin_ptr u23, len_slice u29, index_slice u29 sz2, load_of ld2, conv_i u2 u22, len_slice u28, index_slice u28 sz9, load_of ld9, j1, j2, j3, jm, l0, l1, hy, ht, ht', hz1, z1, c8, v2, v2', v3, b2, ta, ta8, tbb, tb8, wk]
        exact ih _ _ _ _ ⟨k + 1, rfl, by omega, kD.trans k8, rfl⟩ (by omega) ⟨by rfl, by rfl, by rfl, by simp [lget], trivial⟩
      · have z1 : ¬ (z : Int) = 1 := by omega
        have xo : x % 2 = 0 := by omega
        rw [if_pos xo] at tbb tb8
        simp [fls] at tbb tb8
        simp [-Int.natCast_add, -Int.natCast_mul, -BitVec.toNat_or, -BitVec.toNat_ofInt, -BitVec.toNat_and, bin_ptr u23, len_slice u29, index_slice u29 sz2, load_of ld2, conv_i u2 u22, len_slice u28, index_slice u28 sz9, load_of ld9, j1, j2, j3, jm, l0, l1, hy, ht, ht', hz1, z1, c8, v2, v2', v3, b2, ta, ta8, tbb, tb8, wk]
        exact ih _ _ _ _ ⟨k + 1, rfl, by omega, kD.trans k8, rfl⟩ (by omega) ⟨by rfl, by rfl, by rfl, by simp [lget], trivial⟩
    · have j1 : ¬ (k : Int) < i := by omega
      simp [-Int.natCast_add, -BitVec.toNat_or, -BitVec.toNat_ofInt, -BitVec.toNat_and, bin_ptr u23, len_slice u29, index_slice u29 sz2, load_of ld2, conv_i u2 u22, len_slice u28, index_slice u28 sz9, load_of ld9, j1]

/- the row -/
open Go.ChangeShapes Go.WideShapes Go.ChangeAt Go.RowKit
theorem own : ownKnob Tryd.prog.godebug = none := by kernel_rfl
theorem tab : Sh.tabCheck Tryd.prog fns = true := by kernel_rfl
theorem tab0 {w : World} (h : laidMetH Tryd.prog Rows.worldNumbersRow.laid w) : 0 < w.heap.size ∧ ∀ (i : Nat) v, ((Sh.tabLits (Rows.laid_internal_strconv_uint64pow10 : DataW Unit)).map Lit.value)[i]? = some v → w.cell? ⟨0, i, none⟩ = some v :=
  Sh.laid_lits (name := "internal/strconv.uint64pow10") (t := 103) (e := 22) (n := 20) (by kernel_rfl) h (by
    have e : (("internal/strconv.uint64pow10", (.agg ((Sh.tabLits (Rows.laid_internal_strconv_uint64pow10 : DataW Unit)).map .lit) : DataW Unit)) : String × DataW Unit) = ("internal/strconv.uint64pow10", Rows.laid_internal_strconv_uint64pow10) := by kernel_rfl
    rw [e]
    simp [Rows.worldNumbersRow]) (by kernel_rfl) (by kernel_rfl) Tryd.underlying103 (by first | exact Or.inr (Or.inl Tryd.underlying22) | exact Or.inl ⟨_, Tryd.underlying22⟩ | exact Or.inr (Or.inr Tryd.underlying22)) (by kernel_rfl) (by kernel_rfl) (of_decide_eq_true (by kernel_rfl))
def tables : List (Nat × List Value) := [(0, (Sh.tabLits (Rows.laid_internal_strconv_uint64pow10 : DataW Unit)).map Lit.value)]
theorem rd0 : Rdo (memG Tryd.prog tables) 0 base.powC (gtype Tryd.prog 0) 0 := ⟨by kernel_rfl, ⟨⟨none, 0⟩, by kernel_rfl, Nat.zero_le _⟩, of_decide_eq_true (by kernel_rfl), of_decide_eq_true (by kernel_rfl)⟩
theorem startT (w : World) (h : laidMetH Tryd.prog Rows.worldNumbersRow.laid w) : MRel Tryd.prog (inj0 Tryd.prog) (memG Tryd.prog tables) (allF w) w w := by
  refine memG_rel Tryd.prog w tables fun p hp => ?_
  simp only [tables, List.mem_cons, List.not_mem_nil, or_false] at hp
  rcases hp with rfl
  · exact ⟨of_decide_eq_true (by kernel_rfl), (tab0 h).1, by kernel_rfl, by kernel_rfl, (tab0 h).2⟩

theorem walk (w : World) (hL : laidMetH Tryd.prog Rows.worldNumbersRow.laid w) {v0 : Value} (h0 : RowArg Tryd.prog w (fun n : Int => [Value.int .i64 n]) (fun n => (Lit.int .i64 n).wf = true) 2 1 v0) :
    Calls Tryd.prog 4 #[v0] w fun e w' => e = .returned (.bool true) ∧ Below w.heap.size w w' := by
  have hM := startT w hL
  obtain ⟨rs0, J0, m0, ao0, fr0, le0, hM0, vr0, hr0, hg0, hl0, hk0, hz0, hw0⟩ := row_in hM sz2 (by omega) (fun _ => rfl) h0
  obtain ⟨v', m', h, rfl⟩ := law_run (S := sums) (m := m0) ⟨⟨rfl, rfl, rfl, rfl, rfl, rfl, rfl, rfl, rfl, rfl, rfl⟩, ⟨rfl, rfl, rfl, rfl, rfl, rfl, rfl, rfl⟩, rfl, rfl, rfl, rfl, rfl, rfl, rfl, rfl, rfl, rfl, rfl⟩ rfl rfl rfl rfl rfl hr0 hl0 hz0 hw0 (rd0.keep hk0 (by simp))
  exact calls_of mixed (Sh.tab_ok tab) sumsOk Tryd.func4 (by kernel_rfl) h rfl hM0 (.cons vr0 LRel.nil)

theorem laidOut : laidOutB Tryd.prog = true := by kernel_rfl

theorem contract (H : Type) (enc : TypeId × Value → H) (W : World) (base : Nat) (args : Array Value) (ds gs : List (DataW H)) (before : List MemPlace)
    (hval : ∀ (j : Nat) t v, Tryd.f4.params[j]? = some t → args[j]? = some v → Value.okWide Tryd.prog W .any base t v)
    (hW : DataW.Whole enc Tryd.prog Tryd.f4.params.toList Rows.worldNumbersSpec.vars false W args.toList ds gs before) (hL : laidMetH Tryd.prog Rows.worldNumbersRow.laid W) :
    Calls Tryd.prog 4 args W fun e W' => ∃ v, e = .returned v ∧ Rows.worldNumbersSpec.post enc Tryd.prog Tryd.f4 false true false false W args v W' := by
  have hW' := hW
  obtain ⟨p, q, hA0, hV, rfl, hfz, hnd⟩ := hW
  have hA : DataW.TrodAll enc Tryd.prog W 0 (fun _ => true) true Tryd.f4.params.toList args.toList ds p := hA0
  rw [Tryd.params4] at hA hval
  obtain ⟨v0, d0, rfl, rfl, t0⟩ := trodAll_one hA
  obtain ⟨rfl, rfl⟩ := trodVars_none hV
  have hv0 := ints_row u29 u2 sz2 (hval 0 _ _ rfl rfl) t0
  clear hA0
  simp only [List.append_nil, List.nil_append] at hW'
  refine (walk W hL hv0).mono fun e W' ⟨he, hg⟩ => ?_
  subst he
  have hlt0 : ∀ z ∈ p, z.block < W.heap.size := fun z hz => hW'.lt z (by simp [hz])
  exact ⟨_, rfl, Sh.law_post (pa := p) (pv := []) hW' hg (by simp) (fun sp hsp => trodAll_mk1 (WideElems.Trod_stays laidOut (by kernel_rfl) (of_decide_eq_true (by kernel_rfl)) t0 (fun z hz => hg.same (hlt0 z hz)) (fun z hz => hsp z (by simp [hz])))) (fun _ _ => rfl) (fun _ _ _ => (trodAll_cons_mk (shut_bool u4 _) trodAll_mk0))
    (ok_one (by kernel_rfl) rfl (okWide_bool_mk u4 _))⟩
/-- A world for the witness: the settled one, the listed variables holding what is laid. -/
noncomputable def laidWorld (os : Os) : World :=
  { World.holding Tryd.prog os ⟨#[], #[], []⟩ with heap := ((((World.holding Tryd.prog os ⟨#[], #[], []⟩).heap).modify 1 (Sh.laidBlock (Rows.laid_math_bits_deBruijn32tab : DataW Unit))).modify 2 (Sh.laidBlock (Rows.laid_math_bits_deBruijn64tab : DataW Unit))).modify 0 (Sh.laidBlock (Rows.laid_internal_strconv_uint64pow10 : DataW Unit)) }
theorem laid_met (os : Os) : laidMet Tryd.prog Rows.worldNumbersRow.laid ((laidWorld os).forCall (fun _ _ => 0) ⟨#[], #[.slice none 0 0], []⟩).memory :=
  laidMet_of_run' 8 (by kernel_rfl) (by kernel_rfl)
theorem reads (os : Os) {H : Type} (enc : TypeId × Value → H) : ∃ places, DataW.whole enc Tryd.prog ((laidWorld os).forCall (fun _ _ => 0) ⟨#[], #[.slice none 0 0], []⟩).memory Tryd.f4.params.toList Rows.worldNumbersSpec.vars false (#[.slice none 0 0] : Array Value).toList 8 = some ([.nil], [], places) :=
  ⟨[], by kernel_rfl⟩

theorem lifted (os : Os) (started : os.Started) (H : Type) (enc : TypeId × Value → H) (F : Stop.Interp) :
    ReturnsInHanded {} Tryd.checked os 4 .any ((OpenSpec.ofChange Rows.worldNumbersSpec).preRow enc Tryd.prog Tryd.f4 Rows.worldNumbersRow.domain false Rows.worldNumbersRow.laid) (((OpenSpec.ofChange Rows.worldNumbersSpec).at F).post enc Tryd.prog Tryd.f4 false true false false) := by
  obtain ⟨places, hx⟩ := reads os enc
  refine returnsInHanded_of_row (C := Tryd.checked) (s := OpenSpec.ofChange Rows.worldNumbersSpec) own started (by kernel_rfl) Tryd.func4
    (witness_row_at (enc := enc) (C := Tryd.checked) false (laidWorld os) #[.slice none 0 0] rfl (by kernel_rfl) (by kernel_rfl) (by kernel_rfl)
      (OpenSpec.preRow_of_cond 8 hx (by kernel_rfl) (fun k hk => by cases hk) (by kernel_rfl) (laid_met os))) ?_
  intro W base args ds gs before hval hW _ _ hwt hL _ _
  exact contract H enc W base args ds gs before hval hW hL

theorem said : Rows.WorldNumbersSaid :=
  OpenClaim.holds_of_cond 4 Tryd.f4 rfl rfl rfl rfl rfl rfl rfl ⟨rfl, rfl, rfl, rfl, rfl⟩ rfl rfl rfl rfl rfl (by kernel_rfl) Tryd.func4 (by kernel_rfl)
    (of_decide_eq_true (by kernel_rfl)) (by unfold Func.isWrapper; first | (rw [if_pos (by decide +kernel)]; kernel_rfl) | (rw [if_neg (by decide +kernel)]; exact ⟨rfl, rfl⟩))
    (fun os started H enc _ F => by rw [OpenClaim.pre_eq_preRow]; exact lifted os started H enc F)

theorem plain (f : FuncId) (fn : Func) (hf : Tryd.pinned.checked.prog.funcNamed "turnstone/turnstonelaw10.WorldNumbers" = some f) (hfn : Tryd.pinned.checked.prog.funcs[f]? = some fn) :
    false = Tryd.pinned.checked.prog.looks [] ∧ ∀ (j : Nat) t, fn.params[j]? = some t → Tryd.pinned.checked.prog.wantsStandIn t = false := by
  obtain rfl : f = 4 := Option.some.inj ((show Tryd.prog.funcNamed "turnstone/turnstonelaw10.WorldNumbers" = some 4 by kernel_rfl).symm.trans hf) |>.symm
  obtain rfl : fn = Tryd.f4 := (Option.some.inj (Tryd.func4.symm.trans hfn)).symm
  refine ⟨by kernel_rfl, fun j t ht => ?_⟩
  rw [Tryd.params4] at ht
  rcases j with _ | _
  all_goals first
    | (simp at ht; done)
    | (obtain rfl := Option.some.inj ht; kernel_rfl)
    | (simp at ht; subst ht; kernel_rfl)

theorem proved : Rows.WorldNumbersCardSaid :=
  Claim7.holds_tied_plain_at .later [] _ _ _ _ said (fun _ h => by cases h) (by kernel_rfl) (fun _ h => by cases h) worldNumbers_row_tie rfl ⟨rfl, rfl⟩ (by kernel_rfl) rfl plain (by kernel_rfl)
#print axioms proved
end Go.Proofs.YtggbgelfgfmikaaDoor.worldNumbers

