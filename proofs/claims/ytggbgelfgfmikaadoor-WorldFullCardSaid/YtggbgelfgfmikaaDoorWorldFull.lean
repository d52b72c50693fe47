/-
  This text proves 'Rows.WorldFullCardSaid': the law 'WorldFull' returns true at any numbers, in whatever memory and on every tape, and its input reads as it did.
  The condition is the card's own: the listed package-level variables hold what the program's text lays.
-/
import Derived.Test.YtggbgelfgfmikaaDoorCards
import Derived.Test.YtggbgelfgfmikaaDoorTie
import Derived.Deep.DeepHandedRow
import Derived.Lib.LaidTab
import Derived.Test.YtggbgelfgfmikaaDoorWorD
set_option maxRecDepth 100000
set_option linter.unusedSimpArgs false
set_option linter.unusedVariables false
namespace Go.Proofs.YtggbgelfgfmikaaDoor.worldFull
open Go.Sh gen base
variable {S : Sums} {m : Mem}
set_option maxHeartbeats 4000000 in
theorem law_run (hN : Nw S) (hS : S 3 = []) (hP : S 11 = []) (hD : S 15 = []) (hB : S 45 = []) {n v : Int} (hn : (Lit.int .i64 n).wf = true) (hv : (Lit.int .u64 v).wf = true)
    {e : TypeId} (hg : Rdo m 0 powC e 0) :
    ∃ r m', callw Tryd.prog TT S 3 [.int .i64 n, .int .u64 v] m = some (r, m') ∧ r = .bool true := by
  have hv2 : 0 ≤ v ∧ v ≤ 18446744073709551615 := by
    simp only [Lit.wf, Bool.and_eq_true, decide_eq_true_eq] at hv
    have e1 : IntKind.u64.min = 0 := by decide
    have e2 : IntKind.u64.max = 18446744073709551615 := by decide
    omega
  refine fn_w 9 [23, 29] k3 hS rfl ?_
  obtain ⟨p, m1, m2, xb, hb, wb, wb', lo, lf, c1, c2, W2, g1, g2, g3, g4, k2⟩ := made_run (m := m) hN (ts := []) (room := 50) (to := none) (to_f := 0) (Sl.nil _ _ _ _).rs (by omega) (by simp) (by simp) (by simp)
  obtain ⟨_, m3, ck, rfl, k3⟩ := known_run (m := m2) hN (hg.keep k2 (by simp))
  have c1' : callw Tryd.prog TT S 9 [.slice none 0 0] m = some (p, m1) := c1
  have W3 := W2.keep0 k3
  have K3 := k2.trans k3
  have pk := fun m' => pick_run (m := m') hP n 7 (by omega) (by omega)
  obtain ⟨q, hq, hq2⟩ : ∃ q : Nat, n % 7 = q ∧ q < 7 := ⟨(n % 7).toNat, by omega, by omega⟩
  rw [hq] at pk
  obtain ⟨N, hN1, hN2⟩ : ∃ N : Nat, 4093 + q = N ∧ N ≤ 4099 := ⟨_, rfl, by omega⟩
  have wN : IntKind.i64.wrap (4093 + (q : Int)) = (N : Int) := by rw [wrap_i64 (by omega) (by omega)]; omega
  simp [-Int.natCast_add, -BitVec.toNat_or, -BitVec.toNat_ofInt, -BitVec.toNat_and, bin_ptr u23, conv_i u3 u22, len_slice u28, bin_bool u4 .eql (Or.inl rfl), index_slice u28 sz9, load_of ld9, conv_i u22 u2, c1', c2, ck, pk, wN]
  refine wsem_loop 9 [23, 29] (fun d E mC => ∃ (i : Nat) (no : Option Addr) (nf : Nat) (lines : List (List UInt8)), N - i = d ∧ i ≤ N ∧ WAt mC xb xb hb hb wb' wb (0 :: flatT []) 50 lo no lf nf (refsT 1 []) lines ∧ lines.length = (if i < 4096 then i else 4096) ∧ (0 < i → lines[0]? = some (fmt (i64of v))) ∧ (no ≠ none → m.next ≤ nf) ∧ Keeps m mC [] ∧
    E = [(0, .int .i64 N), (1, .int .u64 v), (5, .pointer (some ⟨xb, 0, none⟩)), (7, .int .i64 i)]) _ ⟨_, ⟨0, none, 0, [], rfl, by omega, W3, rfl, fun h => absurd h (by omega), fun h => absurd rfl h, K3, rfl⟩, ⟨by rfl, by rfl, by rfl, by rfl, trivial⟩⟩ ?_
  rintro d E mC ih ⟨i, no, nf, lines, hd, hi, WC, hl, h0, hnf, kC, rfl⟩
  have ll : lines.length ≤ 4096 := by rw [hl]; split <;> omega
  by_cases hlt : i < N
  · have i1 : (i : Int) < N := by omega
    have wi : IntKind.i64.wrap ((i : Int) + 1) = ((i + 1 : Nat) : Int) := by rw [wrap_i64 (by omega) (by omega)]; omega
    have wu : IntKind.u64.wrap (i : Int) = (i : Int) := wrap_u64 (by omega) (by omega)
    obtain ⟨y, hy⟩ : ∃ y, IntKind.u64.wrap (v + (i : Int)) = y := ⟨_, rfl⟩
    obtain ⟨_, m4, s4, rfl, j4⟩ := say_int (m := mC) hN.say hN.f (hg.keep kC (by simp)) (p := .pointer (some ⟨xb, 0, none⟩)) y
    obtain ⟨r5, m5, c5, ⟨no', nf', W5, hnf'⟩, nq, k5, hnq⟩ := print_run hN.print hN.full WC ll s4 j4
    have K5 : Keeps m m5 [] := kC.fresh k5 (by
      intro f hf
      simp at hf
      rcases hf with rfl | rfl
      · exact g1
      · rcases hnq with h | ⟨h, h2⟩
        · rw [h]; exact g1
        · rw [h2]; exact hnf h)
    simp [-Int.natCast_add, -BitVec.toNat_or, -BitVec.toNat_ofInt, -BitVec.toNat_and, bin_ptr u23, conv_i u3 u22, len_slice u28, bin_bool u4 .eql (Or.inl rfl), index_slice u28 sz9, load_of ld9, conv_i u22 u2, i1, wu, hy, c5, wi]
    refine ih _ _ _ _ ⟨i + 1, no', nf', _, rfl, by omega, W5, ?_, ?_, ?_, K5, rfl⟩ (by omega) ⟨by rfl, by rfl, by rfl, by simp [lget], trivial⟩
    · by_cases hi4 : i < 4096
      · rw [if_pos hi4] at hl
        rw [if_pos (by omega), List.length_append, hl]
        simp only [List.length_cons, List.length_nil]
        by_cases h5 : i + 1 < 4096
        · rw [if_pos h5]
        · rw [if_neg h5]; omega
      · rw [if_neg hi4] at hl
        rw [if_neg (by omega), if_neg (by omega), hl]
    · intro _
      by_cases hi0 : i = 0
      · subst hi0
        have e0 : lines = [] := List.length_eq_zero_iff.1 (by rw [hl]; rfl)
        have ey : y = v := by rw [← hy]; simp only [Int.natCast_zero, Int.add_zero]; exact wrap_u64 hv2.1 hv2.2
        rw [e0, ey]
        rfl
      · have h1 := h0 (by omega)
        split
        · rw [List.getElem?_append_left (by rw [hl]; split <;> omega)]
          exact h1
        · exact h1
    · intro h
      rcases hnf' h with ⟨h1, h2⟩ | h1
      · rw [h2]; exact hnf h1
      · have := kC.1; omega
  · have i1 : ¬ (i : Int) < N := by omega
    have eN : i = N := by omega
    subst eN
    obtain ⟨_, m7, c7, ⟨tb, rfl, tf, oT, htf⟩, k7⟩ := trace_run hN.trace WC (by omega)
    have W7 := WC.keep0 k7
    have cF := full_run hN.full W7
    obtain ⟨_, m8, c8, rfl, k8⟩ := digs_run (m := m7) hD hB (i64of_in v).1 (i64of_in v).2
    unfold i64of at c8
    have hh := h0 (by omega)
    have lt0 : loadRow m7 ⟨tb, 0, none⟩ 1 = some [.string ⟨(fmt (i64of v)).toArray⟩] := oT.load1 (by rw [List.getElem?_map, hh]; rfl)
    have lt1 : loadRow m8 ⟨tb, 0, none⟩ 1 = some [.string ⟨(fmt (i64of v)).toArray⟩] := (oT.keep k8 (by simp)).load1 (by rw [List.getElem?_map, hh]; rfl)
    have lp : 0 < lines.length := by rw [hl]; split <;> omega
    unfold i64of at lt0 lt1
    by_cases c : i < 4096
    · have el : lines.length = i := by rw [hl, if_pos c]
      have cm : ¬ (4096 : Int) < i := by omega
      have cm2 : ¬ 4096 ≤ i := by omega
      have cm3 : ¬ (4096 : Int) ≤ i := by omega
      rw [el] at c7 cF lp
      simp [-Int.natCast_add, -BitVec.toNat_or, -BitVec.toNat_ofInt, -BitVec.toNat_and, bin_ptr u23, conv_i u3 u22, len_slice u28, bin_bool u4 .eql (Or.inl rfl), index_slice u28 sz9, load_of ld9, conv_i u22 u2, i1, c7, cF, c8, lt0, lt1, cm, cm2, cm3, lp]
    · have el : lines.length = 4096 := by rw [hl, if_neg c]
      have cm2 : 4096 ≤ i := by omega
      have cm3 : (4096 : Int) ≤ i := by omega
      rw [el] at c7 cF lp
      by_cases c4 : i = 4096
      · subst c4
        simp [-Int.natCast_add, -BitVec.toNat_or, -BitVec.toNat_ofInt, -BitVec.toNat_and, bin_ptr u23, conv_i u3 u22, len_slice u28, bin_bool u4 .eql (Or.inl rfl), index_slice u28 sz9, load_of ld9, conv_i u22 u2, i1, c7, cF, c8, lt0, lt1]
      · have cm : (4096 : Int) < i := by omega
        simp [-Int.natCast_add, -BitVec.toNat_or, -BitVec.toNat_ofInt, -BitVec.toNat_and, bin_ptr u23, conv_i u3 u22, len_slice u28, bin_bool u4 .eql (Or.inl rfl), index_slice u28 sz9, load_of ld9, conv_i u22 u2, i1, c7, cF, c8, lt0, lt1, cm, cm2, cm3]

/- the row -/
open Go.ChangeShapes Go.WideShapes Go.ChangeAt Go.RowKit
theorem own : ownKnob Tryd.prog.godebug = none := by kernel_rfl
theorem tab : Sh.tabCheck Tryd.prog fns = true := by kernel_rfl
theorem tab0 {w : World} (h : laidMetH Tryd.prog Rows.worldFullRow.laid w) : 0 < w.heap.size ∧ ∀ (i : Nat) v, ((Sh.tabLits (Rows.laid_internal_strconv_uint64pow10 : DataW Unit)).map Lit.value)[i]? = some v → w.cell? ⟨0, i, none⟩ = some v :=
  Sh.laid_lits (name := "internal/strconv.uint64pow10") (t := 103) (e := 22) (n := 20) (by kernel_rfl) h (by
    have e : (("internal/strconv.uint64pow10", (.agg ((Sh.tabLits (Rows.laid_internal_strconv_uint64pow10 : DataW Unit)).map .lit) : DataW Unit)) : String × DataW Unit) = ("internal/strconv.uint64pow10", Rows.laid_internal_strconv_uint64pow10) := by kernel_rfl
    rw [e]
    simp [Rows.worldFullRow]) (by kernel_rfl) (by kernel_rfl) Tryd.underlying103 (by first | exact Or.inr (Or.inl Tryd.underlying22) | exact Or.inl ⟨_, Tryd.underlying22⟩ | exact Or.inr (Or.inr Tryd.underlying22)) (by kernel_rfl) (by kernel_rfl) (of_decide_eq_true (by kernel_rfl))
def tables : List (Nat × List Value) := [(0, (Sh.tabLits (Rows.laid_internal_strconv_uint64pow10 : DataW Unit)).map Lit.value)]
theorem rd0 : Rdo (memG Tryd.prog tables) 0 base.powC (gtype Tryd.prog 0) 0 := ⟨by kernel_rfl, ⟨⟨none, 0⟩, by kernel_rfl, Nat.zero_le _⟩, of_decide_eq_true (by kernel_rfl), of_decide_eq_true (by kernel_rfl)⟩
theorem startT (w : World) (h : laidMetH Tryd.prog Rows.worldFullRow.laid w) : MRel Tryd.prog (inj0 Tryd.prog) (memG Tryd.prog tables) (allF w) w w := by
  refine memG_rel Tryd.prog w tables fun p hp => ?_
  simp only [tables, List.mem_cons, List.not_mem_nil, or_false] at hp
  rcases hp with rfl
  · exact ⟨of_decide_eq_true (by kernel_rfl), (tab0 h).1, by kernel_rfl, by kernel_rfl, (tab0 h).2⟩

theorem walk (w : World) (hL : laidMetH Tryd.prog Rows.worldFullRow.laid w) (x0 : Int) (hx0 : (Lit.int .i64 x0).wf = true) (x1 : Int) (hx1 : (Lit.int .u64 x1).wf = true) :
    Calls Tryd.prog 3 #[.int .i64 x0, .int .u64 x1] w fun e w' => e = .returned (.bool true) ∧ Below w.heap.size w w' := by
  have hM := startT w hL
  obtain ⟨v', m', h, rfl⟩ := law_run (S := sums) (m := memG Tryd.prog tables) ⟨⟨rfl, rfl, rfl, rfl, rfl, rfl, rfl, rfl, rfl, rfl, rfl⟩, ⟨rfl, rfl, rfl, rfl, rfl, rfl, rfl, rfl⟩, rfl, rfl, rfl, rfl, rfl, rfl, rfl, rfl, rfl, rfl, rfl⟩ rfl rfl rfl rfl hx0 hx1 rd0
  exact calls_of mixed (Sh.tab_ok tab) sumsOk Tryd.func3 (by kernel_rfl) h rfl hM (.cons (.clo _ rfl) (.cons (.clo _ rfl) LRel.nil))

theorem laidOut : laidOutB Tryd.prog = true := by kernel_rfl

theorem contract (H : Type) (enc : TypeId × Value → H) (W : World) (base : Nat) (args : Array Value) (ds gs : List (DataW H)) (before : List MemPlace)
    (hval : ∀ (j : Nat) t v, Tryd.f3.params[j]? = some t → args[j]? = some v → Value.okWide Tryd.prog W .any base t v)
    (hW : DataW.Whole enc Tryd.prog Tryd.f3.params.toList Rows.worldFullSpec.vars false W args.toList ds gs before) (hL : laidMetH Tryd.prog Rows.worldFullRow.laid W) :
    Calls Tryd.prog 3 args W fun e W' => ∃ v, e = .returned v ∧ Rows.worldFullSpec.post enc Tryd.prog Tryd.f3 false true false false W args v W' := by
  have hW' := hW
  obtain ⟨p, q, hA0, hV, rfl, hfz, hnd⟩ := hW
  have hA : DataW.TrodAll enc Tryd.prog W 0 (fun _ => true) true Tryd.f3.params.toList args.toList ds p := hA0
  rw [Tryd.params3] at hA hval
  obtain ⟨v0, v1, d0, d1, p0, p1, rfl, rfl, rfl, t0, t1⟩ := trodAll_two hA
  obtain ⟨rfl, rfl⟩ := trodVars_none hV
  obtain ⟨x0, rfl, rfl, rfl, hx0⟩ := open_int u3 (hval 0 _ _ rfl rfl) t0
  obtain ⟨x1, rfl, rfl, rfl, hx1⟩ := open_int u22 (hval 1 _ _ rfl rfl) t1
  clear hA0
  simp only [List.append_nil, List.nil_append] at hW'
  refine (walk W hL x0 hx0 x1 hx1).mono fun e W' ⟨he, hg⟩ => ?_
  subst he
  exact ⟨_, rfl, Sh.law_post (pa := ([] ++ [])) (pv := []) hW' hg (by simp) (fun sp hsp => trodAll_mk2 (shut_int u3 hx0) (shut_int u22 hx1)) (fun _ _ => rfl) (fun _ _ _ => (trodAll_cons_mk (shut_bool u4 _) trodAll_mk0))
    (ok_one (by kernel_rfl) rfl (okWide_bool_mk u4 _))⟩
/-- A world for the witness: the settled one, the listed variables holding what is laid. -/
noncomputable def laidWorld (os : Os) : World :=
  { World.holding Tryd.prog os ⟨#[], #[], []⟩ with heap := ((((World.holding Tryd.prog os ⟨#[], #[], []⟩).heap).modify 1 (Sh.laidBlock (Rows.laid_math_bits_deBruijn32tab : DataW Unit))).modify 2 (Sh.laidBlock (Rows.laid_math_bits_deBruijn64tab : DataW Unit))).modify 0 (Sh.laidBlock (Rows.laid_internal_strconv_uint64pow10 : DataW Unit)) }
theorem laid_met (os : Os) : laidMet Tryd.prog Rows.worldFullRow.laid ((laidWorld os).forCall (fun _ _ => 0) ⟨#[], #[.int .i64 0, .int .u64 0], []⟩).memory :=
  laidMet_of_run' 8 (by kernel_rfl) (by kernel_rfl)
theorem reads (os : Os) {H : Type} (enc : TypeId × Value → H) : ∃ places, DataW.whole enc Tryd.prog ((laidWorld os).forCall (fun _ _ => 0) ⟨#[], #[.int .i64 0, .int .u64 0], []⟩).memory Tryd.f3.params.toList Rows.worldFullSpec.vars false (#[.int .i64 0, .int .u64 0] : Array Value).toList 8 = some ([.lit (.int .i64 0), .lit (.int .u64 0)], [], places) :=
  ⟨[], by kernel_rfl⟩

theorem lifted (os : Os) (started : os.Started) (H : Type) (enc : TypeId × Value → H) (F : Stop.Interp) :
    ReturnsInHanded {} Tryd.checked os 3 .any ((OpenSpec.ofChange Rows.worldFullSpec).preRow enc Tryd.prog Tryd.f3 Rows.worldFullRow.domain false Rows.worldFullRow.laid) (((OpenSpec.ofChange Rows.worldFullSpec).at F).post enc Tryd.prog Tryd.f3 false true false false) := by
  obtain ⟨places, hx⟩ := reads os enc
  refine returnsInHanded_of_row (C := Tryd.checked) (s := OpenSpec.ofChange Rows.worldFullSpec) own started (by kernel_rfl) Tryd.func3
    (witness_row_at (enc := enc) (C := Tryd.checked) false (laidWorld os) #[.int .i64 0, .int .u64 0] rfl (by kernel_rfl) (by kernel_rfl) (by kernel_rfl)
      (OpenSpec.preRow_of_cond 8 hx (by kernel_rfl) (fun k hk => by cases hk) (by kernel_rfl) (laid_met os))) ?_
  intro W base args ds gs before hval hW _ _ hwt hL _ _
  exact contract H enc W base args ds gs before hval hW hL

theorem said : Rows.WorldFullSaid :=
  OpenClaim.holds_of_cond 3 Tryd.f3 rfl rfl rfl rfl rfl rfl rfl ⟨rfl, rfl, rfl, rfl, rfl⟩ rfl rfl rfl rfl rfl (by kernel_rfl) Tryd.func3 (by kernel_rfl)
    (of_decide_eq_true (by kernel_rfl)) (by unfold Func.isWrapper; first | (rw [if_pos (by decide +kernel)]; kernel_rfl) | (rw [if_neg (by decide +kernel)]; exact ⟨rfl, rfl⟩))
    (fun os started H enc _ F => by rw [OpenClaim.pre_eq_preRow]; exact lifted os started H enc F)

theorem plain (f : FuncId) (fn : Func) (hf : Tryd.pinned.checked.prog.funcNamed "turnstone/turnstonelaw10.WorldFull" = some f) (hfn : Tryd.pinned.checked.prog.funcs[f]? = some fn) :
    false = Tryd.pinned.checked.prog.looks [] ∧ ∀ (j : Nat) t, fn.params[j]? = some t → Tryd.pinned.checked.prog.wantsStandIn t = false := by
  obtain rfl : f = 3 := Option.some.inj ((show Tryd.prog.funcNamed "turnstone/turnstonelaw10.WorldFull" = some 3 by kernel_rfl).symm.trans hf) |>.symm
  obtain rfl : fn = Tryd.f3 := (Option.some.inj (Tryd.func3.symm.trans hfn)).symm
  refine ⟨by kernel_rfl, fun j t ht => ?_⟩
  rw [Tryd.params3] at ht
  rcases j with _ | _ | _
  all_goals first
    | (simp at ht; done)
    | (obtain rfl := Option.some.inj ht; kernel_rfl)
    | (simp at ht; subst ht; kernel_rfl)

theorem proved : Rows.WorldFullCardSaid :=
  Claim7.holds_tied_plain_at .later [] _ _ _ _ said (fun _ h => by cases h) (by kernel_rfl) (fun _ h => by cases h) worldFull_row_tie rfl ⟨rfl, rfl⟩ (by kernel_rfl) rfl plain (by kernel_rfl)
#print axioms proved
end Go.Proofs.YtggbgelfgfmikaaDoor.worldFull

