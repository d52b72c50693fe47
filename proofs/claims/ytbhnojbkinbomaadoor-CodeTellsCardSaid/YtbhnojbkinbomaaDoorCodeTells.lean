/-
  This text proves 'Rows.CodeTellsCardSaid': the law 'CodeTells' returns true at any numbers, in whatever memory and on every tape, and its input reads as it did.
  The condition is the card's own: the listed package-level variables hold what the program's text lays.
-/
import Derived.Test.YtbhnojbkinbomaaDoorCards
import Derived.Test.YtbhnojbkinbomaaDoorTie
import Derived.Deep.DeepHandedRow
import Derived.Lib.LaidTab
import Derived.Test.YtbhnojbkinbomaaDoorCodeTl
set_option maxRecDepth 100000
set_option linter.unusedSimpArgs false
set_option linter.unusedVariables false
namespace Go.Proofs.YtbhnojbkinbomaaDoor.codeTells
open Go.Sh gen base
variable {S : Sums} {m : Mem}
theorem len_le (op a pc : Int) : (tgtF op a pc).length ≤ 2 := by
  unfold tgtF
  split
  · simp
  · split
    · simp
    · split <;> simp
theorem law_run (hK : S 12 = [([], .bool true)]) (hS : S 3 = []) (hNm : S 13 = nmL) (hRn : S 14 = []) (hP : S 7 = []) (hM : S 8 = []) (hRM : S 9 = []) (hT : S 10 = []) (hRT : S 11 = []) (hL : S 15 = []) (hRL : S 16 = [])
    {x0 x1 x2 x3 : Int} {x4 : Bool} (hx0 : (Lit.int .i64 x0).wf = true) (hx1 : (Lit.int .i64 x1).wf = true) (hx2 : (Lit.int .i64 x2).wf = true) (hx3 : (Lit.int .i64 x3).wf = true)
    {e : TypeId} (hg : Rdo m 0 opsC e 0) :
    ∃ v m', callw Tryd.prog TT S 3 [.int .i64 x0, .int .i64 x1, .int .i64 x2, .int .i64 x3, .bool x4] m = some (v, m') ∧ v = .bool true := by
  have hkn := fun m' => sum_ok (P := Tryd.prog) (T := TT) (m := m') hK
  have pk := fun m' => pick_run (m := m') hP x0 45 (by omega) (by omega)
  have wn : IntKind.i64.wrap (x0 % 45 - 1) = x0 % 45 - 1 := wrap_i64 (by omega) (by omega)
  obtain ⟨op, hop⟩ : ∃ op, (if x4 = true then x0 % 45 - 1 else x0) = op := ⟨_, rfl⟩
  refine fn_w 21 [21, 51, 55, 66] k3 hS rfl ?_
  have mv := fun m' => moves_run (m := m') hM op
  have rmv := fun m' => rmoves_run (m := m') hRM op
  have nm := fun m' => name_run (m := m') hNm op
  have lv := fun m' => leaves_run (m := m') hL op
  have rlv := fun m' => rleaves_run (m := m') hRL op
  cases x4
  case' false =>
    simp at hop
    rw [hop]
    simp [-Int.natCast_add, -BitVec.toNat_or, -BitVec.toNat_ofInt, -BitVec.toNat_and, build_of bo26, alloc_of zo26, store_of sz26, load_agg ld26, len_slice u27, index_slice u27 sz3, load_of ld3, bin_bool u4 .eql (Or.inl rfl), mv, rmv]
  case' true =>
    simp at hop
    rw [hop] at wn
    simp [-Int.natCast_add, -BitVec.toNat_or, -BitVec.toNat_ofInt, -BitVec.toNat_and, build_of bo26, alloc_of zo26, store_of sz26, load_agg ld26, len_slice u27, index_slice u27 sz3, load_of ld3, bin_bool u4 .eql (Or.inl rfl), pk, wn, hop, mv, rmv]
  all_goals
    obtain ⟨oz, kz, nz⟩ := new_own (m := m) (cs := [Value.int .i64 0, .int .i64 0, .int .i64 0]) (e := 26) rfl
    generalize hr : storeRow _ _ _ = r
    obtain ⟨m2, rfl, ox, k2⟩ := store_own hr oz (by simp) (by simp [one_int])
    have kk2 : Keeps m m2 [] := kz.mono2 k2 (Nat.le_refl _)
    simp only [over, List.take_zero, List.nil_append, List.length_cons, List.length_nil, List.drop_succ_cons, List.drop_zero, List.drop_nil, List.append_nil] at ox
    obtain ⟨v3, m3, h3, a3, f3, rfl, s3, hf3, k3⟩ := tgt_run (m := m2) hT op x1 x2 x3
    obtain ⟨v4, m4, h4, a4, f4, rfl, s4, hf4, k4⟩ := rtgt_run (m := m3) hRT op x1 x2 x3
    have s34 := s3.keep k4 (by simp)
    have lx2 := ox.load (off := 0) 3 (by simp)
    have ox3 := ox.keep k3 (by simp)
    have lx3 := ox3.load (off := 0) 3 (by simp)
    simp [window] at lx2 lx3
    have hlen := len_le op x1 x3
    have rnm := rname_run (m := m4) hRn (hg.keep ((kk2.trans k3).trans k4) (by simp)) op
    generalize tgtF op x1 x3 = L at h3 h4 s34 s4 hlen
    generalize movesF op = mf
    generalize leavesF op = lf at lv rlv
    generalize nameF op = nf at nm rnm
    simp [-Int.natCast_add, -BitVec.toNat_or, -BitVec.toNat_ofInt, -BitVec.toNat_and, build_of bo26, alloc_of zo26, store_of sz26, load_agg ld26, len_slice u27, index_slice u27 sz3, load_of ld3, bin_bool u4 .eql (Or.inl rfl), lx2, lx3, h3, h4]
    obtain ⟨ma, mb, mc⟩ := mf
    clear mv rmv
    refine wsem_loop 21 [21, 51, 55, 66] (fun d E m6 => ∃ q : Nat, L.length - q = d ∧ q ≤ L.length ∧ E = [(0, .int .i64 op), (10, .bool false), (11, .int .i64 ma), (12, .int .i64 mb), (13, .bool mc), (14, .int .i64 ma), (15, .int .i64 mb), (16, .bool mc), (18, .slice a3 L.length L.length), (19, .slice a4 L.length L.length), (20, .int .i64 q)] ∧ m6 = m4) _ ⟨_, ⟨0, rfl, by omega, rfl, rfl⟩, ⟨by rfl, by rfl, by rfl, by rfl, by rfl, by rfl, by rfl, by rfl, by rfl, by rfl, by rfl, trivial⟩⟩ ?_
    rintro d E m6 ih ⟨q, hq, hqx, rfl, rfl⟩
    by_cases hlt : q < L.length
    · obtain ⟨bx, rfl, o3⟩ := s34.own (by omega)
      obtain ⟨bY, rfl, o4⟩ := s4.own (by omega)
      have e1 : (q : Int) < L.length := by omega
      have em : (q : Int) ≤ 9223372036854775807 := by omega
      have w1 : IntKind.i64.wrap ((q : Int) + 1) = ((q + 1 : Nat) : Int) := by rw [wrap_i64 (by omega) (by omega)]; omega
      have l3 := o3.load1 (off := q) (v := .int .i64 L[q]) (by simp [hlt])
      have l4 := o4.load1 (off := q) (v := .int .i64 L[q]) (by simp [hlt])
      generalize L[q] = y at l3 l4
      simp [-Int.natCast_add, -BitVec.toNat_or, -BitVec.toNat_ofInt, -BitVec.toNat_and, build_of bo26, alloc_of zo26, store_of sz26, load_agg ld26, len_slice u27, index_slice u27 sz3, load_of ld3, bin_bool u4 .eql (Or.inl rfl), e1, em, hlt, l3, l4, w1]
      exact ih _ _ _ _ ⟨q + 1, rfl, by omega, rfl, rfl⟩ (by omega) ⟨by rfl, by rfl, by rfl, by rfl, by rfl, by rfl, by rfl, by rfl, by rfl, by rfl, by simp [lget], trivial⟩
    · have e1 : ¬ (q : Int) < L.length := by omega
      cases mc <;> cases lf <;> simp [-Int.natCast_add, -BitVec.toNat_or, -BitVec.toNat_ofInt, -BitVec.toNat_and, build_of bo26, alloc_of zo26, store_of sz26, load_agg ld26, len_slice u27, index_slice u27 sz3, load_of ld3, bin_bool u4 .eql (Or.inl rfl), e1, hlt, hkn, nm, rnm, lv, rlv]

/- the row -/
open Go.ChangeShapes Go.WideShapes Go.ChangeAt Go.RowKit
theorem own : ownKnob Tryd.prog.godebug = none := by kernel_rfl
theorem tab : Sh.tabCheck Tryd.prog fns = true := by kernel_rfl
theorem tab0 {w : World} (h : laidMetH Tryd.prog Rows.codeTellsRow.laid w) : 0 < w.heap.size ∧ ∀ (i : Nat) v, ((Sh.tabLits (Rows.laid_turnstone_turnstoneref9_names : DataW Unit)).map Lit.value)[i]? = some v → w.cell? ⟨0, i, none⟩ = some v :=
  Sh.laid_lits (name := "turnstone/turnstoneref9.names") (t := 41) (e := 9) (n := 42) (by kernel_rfl) h (by
    have e : (("turnstone/turnstoneref9.names", (.agg ((Sh.tabLits (Rows.laid_turnstone_turnstoneref9_names : DataW Unit)).map .lit) : DataW Unit)) : String × DataW Unit) = ("turnstone/turnstoneref9.names", Rows.laid_turnstone_turnstoneref9_names) := by kernel_rfl
    rw [e]
    simp [Rows.codeTellsRow]) (by kernel_rfl) (by kernel_rfl) Tryd.underlying41 (by first | exact Or.inr (Or.inl Tryd.underlying9) | exact Or.inl ⟨_, Tryd.underlying9⟩ | exact Or.inr (Or.inr Tryd.underlying9)) (by kernel_rfl) (by kernel_rfl) (of_decide_eq_true (by kernel_rfl))
def tables : List (Nat × List Value) := [(0, (Sh.tabLits (Rows.laid_turnstone_turnstoneref9_names : DataW Unit)).map Lit.value)]
theorem rd0 : Rdo (memG Tryd.prog tables) 0 base.opsC (gtype Tryd.prog 0) 0 := ⟨by kernel_rfl, ⟨⟨none, 0⟩, by kernel_rfl, Nat.zero_le _⟩, of_decide_eq_true (by kernel_rfl), of_decide_eq_true (by kernel_rfl)⟩
theorem startT (w : World) (h : laidMetH Tryd.prog Rows.codeTellsRow.laid w) : MRel Tryd.prog (inj0 Tryd.prog) (memG Tryd.prog tables) (allF w) w w := by
  refine memG_rel Tryd.prog w tables fun p hp => ?_
  simp only [tables, List.mem_cons, List.not_mem_nil, or_false] at hp
  rcases hp with rfl
  · exact ⟨of_decide_eq_true (by kernel_rfl), (tab0 h).1, by kernel_rfl, by kernel_rfl, (tab0 h).2⟩

theorem walk (w : World) (hL : laidMetH Tryd.prog Rows.codeTellsRow.laid w) (x0 : Int) (hx0 : (Lit.int .i64 x0).wf = true) (x1 : Int) (hx1 : (Lit.int .i64 x1).wf = true) (x2 : Int) (hx2 : (Lit.int .i64 x2).wf = true) (x3 : Int) (hx3 : (Lit.int .i64 x3).wf = true) (x4 : Bool) :
    Calls Tryd.prog 3 #[.int .i64 x0, .int .i64 x1, .int .i64 x2, .int .i64 x3, .bool x4] w fun e w' => e = .returned (.bool true) ∧ Below w.heap.size w w' := by
  have hM := startT w hL
  obtain ⟨v', m', h, rfl⟩ := law_run (S := sums) (m := memG Tryd.prog tables) rfl rfl rfl rfl rfl rfl rfl rfl rfl rfl rfl hx0 hx1 hx2 hx3 rd0
  exact calls_of mixed (Sh.tab_ok tab) sumsOk Tryd.func3 (by kernel_rfl) h rfl hM (.cons (.clo _ rfl) (.cons (.clo _ rfl) (.cons (.clo _ rfl) (.cons (.clo _ rfl) (.cons (.clo _ rfl) LRel.nil)))))

theorem laidOut : laidOutB Tryd.prog = true := by kernel_rfl
theorem trodAll_many {H : Type} {enc : TypeId × Value → H} {P : Program} {w : World} {base : Nat} {spare : Nat → Bool} {held : Bool} {y0 y1 y2 y3 y4 : TypeId} {args : Array Value} {ds : List (DataW H)} {ps : List MemPlace} (h : DataW.TrodAll enc P w base spare held [y0, y1, y2, y3, y4] args.toList ds ps) :
    ∃ v0 v1 v2 v3 v4 d0 d1 d2 d3 d4 p0 p1 p2 p3 p4, args = #[v0, v1, v2, v3, v4] ∧ ds = [d0, d1, d2, d3, d4] ∧ ps = p0 ++ p1 ++ p2 ++ p3 ++ p4 ∧ DataW.Trod enc P w base spare held y0 v0 d0 p0 ∧ DataW.Trod enc P w base spare held y1 v1 d1 p1 ∧ DataW.Trod enc P w base spare held y2 v2 d2 p2 ∧ DataW.Trod enc P w base spare held y3 v3 d3 p3 ∧ DataW.Trod enc P w base spare held y4 v4 d4 p4 := by
  obtain ⟨v0, vs0, d0, es0, p0, q0, hargs, rfl, rfl, a0, b0⟩ := trodAll_cons h
  obtain ⟨v1, vs1, d1, es1, p1, q1, rfl, rfl, rfl, a1, b1⟩ := trodAll_cons b0
  obtain ⟨v2, vs2, d2, es2, p2, q2, rfl, rfl, rfl, a2, b2⟩ := trodAll_cons b1
  obtain ⟨v3, vs3, d3, es3, p3, q3, rfl, rfl, rfl, a3, b3⟩ := trodAll_cons b2
  obtain ⟨v4, vs4, d4, es4, p4, q4, rfl, rfl, rfl, a4, b4⟩ := trodAll_cons b3
  obtain ⟨rfl, rfl, rfl⟩ := trodAll_nil b4
  exact ⟨v0, v1, v2, v3, v4, d0, d1, d2, d3, d4, p0, p1, p2, p3, p4, by cases args; simp_all, rfl, by simp, a0, a1, a2, a3, a4⟩
theorem trodAll_mkmany {H : Type} {enc : TypeId × Value → H} {P : Program} {w : World} {base : Nat} {spare : Nat → Bool} {held : Bool} {y0 y1 y2 y3 y4 : TypeId} {v0 v1 v2 v3 v4 : Value} {d0 d1 d2 d3 d4 : DataW H} {p0 p1 p2 p3 p4 : List MemPlace} (a0 : DataW.Trod enc P w base spare held y0 v0 d0 p0) (a1 : DataW.Trod enc P w base spare held y1 v1 d1 p1) (a2 : DataW.Trod enc P w base spare held y2 v2 d2 p2) (a3 : DataW.Trod enc P w base spare held y3 v3 d3 p3) (a4 : DataW.Trod enc P w base spare held y4 v4 d4 p4) : DataW.TrodAll enc P w base spare held [y0, y1, y2, y3, y4] [v0, v1, v2, v3, v4] [d0, d1, d2, d3, d4] (p0 ++ (p1 ++ (p2 ++ (p3 ++ (p4 ++ []))))) := (trodAll_cons_mk a0 (trodAll_cons_mk a1 (trodAll_cons_mk a2 (trodAll_cons_mk a3 (trodAll_cons_mk a4 trodAll_mk0)))))

theorem contract (H : Type) (enc : TypeId × Value → H) (W : World) (base : Nat) (args : Array Value) (ds gs : List (DataW H)) (before : List MemPlace)
    (hval : ∀ (j : Nat) t v, Tryd.f3.params[j]? = some t → args[j]? = some v → Value.okWide Tryd.prog W .any base t v)
    (hW : DataW.Whole enc Tryd.prog Tryd.f3.params.toList Rows.codeTellsSpec.vars false W args.toList ds gs before) (hL : laidMetH Tryd.prog Rows.codeTellsRow.laid W) :
    Calls Tryd.prog 3 args W fun e W' => ∃ v, e = .returned v ∧ Rows.codeTellsSpec.post enc Tryd.prog Tryd.f3 false true false false W args v W' := by
  have hW' := hW
  obtain ⟨p, q, hA0, hV, rfl, hfz, hnd⟩ := hW
  have hA : DataW.TrodAll enc Tryd.prog W 0 (fun _ => true) true Tryd.f3.params.toList args.toList ds p := hA0
  rw [Tryd.params3] at hA hval
  obtain ⟨v0, v1, v2, v3, v4, d0, d1, d2, d3, d4, p0, p1, p2, p3, p4, rfl, rfl, rfl, t0, t1, t2, t3, t4⟩ := trodAll_many hA
  obtain ⟨rfl, rfl⟩ := trodVars_none hV
  obtain ⟨x0, rfl, rfl, rfl, hx0⟩ := open_int u3 (hval 0 _ _ rfl rfl) t0
  obtain ⟨x1, rfl, rfl, rfl, hx1⟩ := open_int u3 (hval 1 _ _ rfl rfl) t1
  obtain ⟨x2, rfl, rfl, rfl, hx2⟩ := open_int u3 (hval 2 _ _ rfl rfl) t2
  obtain ⟨x3, rfl, rfl, rfl, hx3⟩ := open_int u3 (hval 3 _ _ rfl rfl) t3
  obtain ⟨x4, rfl, rfl, rfl⟩ := open_bool u4 (hval 4 _ _ rfl rfl) t4
  clear hA0
  simp only [List.append_nil, List.nil_append] at hW'
  refine (walk W hL x0 hx0 x1 hx1 x2 hx2 x3 hx3 x4).mono fun e W' ⟨he, hg⟩ => ?_
  subst he
  exact ⟨_, rfl, Sh.law_post (pa := ([] ++ ([] ++ ([] ++ ([] ++ ([] ++ [])))))) (pv := []) hW' hg (by simp) (fun sp hsp => trodAll_mkmany (shut_int u3 hx0) (shut_int u3 hx1) (shut_int u3 hx2) (shut_int u3 hx3) (shut_bool u4 _)) (fun _ _ => rfl) (fun _ _ _ => (trodAll_cons_mk (shut_bool u4 _) trodAll_mk0))
    (ok_one (by kernel_rfl) rfl (okWide_bool_mk u4 _))⟩
/-- A world for the witness: the settled one, the listed variables holding what is laid. -/
noncomputable def laidWorld (os : Os) : World :=
  { World.holding Tryd.prog os ⟨#[], #[], []⟩ with heap := ((((World.holding Tryd.prog os ⟨#[], #[], []⟩).heap).modify 4 (Sh.laidBlock (Rows.laid_unicode_utf8_acceptRanges : DataW Unit))).modify 0 (Sh.laidBlock (Rows.laid_turnstone_turnstoneref9_names : DataW Unit))).modify 3 (Sh.laidBlock (Rows.laid_unicode_utf8_first : DataW Unit)) }
theorem laid_met (os : Os) : laidMet Tryd.prog Rows.codeTellsRow.laid ((laidWorld os).forCall (fun _ _ => 0) ⟨#[], #[.int .i64 0, .int .i64 0, .int .i64 0, .int .i64 0, .bool false], []⟩).memory :=
  laidMet_of_run' 8 (by kernel_rfl) (by kernel_rfl)
theorem reads (os : Os) {H : Type} (enc : TypeId × Value → H) : ∃ places, DataW.whole enc Tryd.prog ((laidWorld os).forCall (fun _ _ => 0) ⟨#[], #[.int .i64 0, .int .i64 0, .int .i64 0, .int .i64 0, .bool false], []⟩).memory Tryd.f3.params.toList Rows.codeTellsSpec.vars false (#[.int .i64 0, .int .i64 0, .int .i64 0, .int .i64 0, .bool false] : Array Value).toList 8 = some ([.lit (.int .i64 0), .lit (.int .i64 0), .lit (.int .i64 0), .lit (.int .i64 0), .lit (.bool false)], [], places) :=
  ⟨[], by kernel_rfl⟩

theorem lifted (os : Os) (started : os.Started) (H : Type) (enc : TypeId × Value → H) (F : Stop.Interp) :
    ReturnsInHanded {} Tryd.checked os 3 .any ((OpenSpec.ofChange Rows.codeTellsSpec).preRow enc Tryd.prog Tryd.f3 Rows.codeTellsRow.domain false Rows.codeTellsRow.laid) (((OpenSpec.ofChange Rows.codeTellsSpec).at F).post enc Tryd.prog Tryd.f3 false true false false) := by
  obtain ⟨places, hx⟩ := reads os enc
  refine returnsInHanded_of_row (C := Tryd.checked) (s := OpenSpec.ofChange Rows.codeTellsSpec) own started (by kernel_rfl) Tryd.func3
    (witness_row_at (enc := enc) (C := Tryd.checked) false (laidWorld os) #[.int .i64 0, .int .i64 0, .int .i64 0, .int .i64 0, .bool false] rfl (by kernel_rfl) (by kernel_rfl) (by kernel_rfl)
      (OpenSpec.preRow_of_cond 8 hx (by kernel_rfl) (fun k hk => by cases hk) (by kernel_rfl) (laid_met os))) ?_
  intro W base args ds gs before hval hW _ _ hwt hL _ _
  exact contract H enc W base args ds gs before hval hW hL

theorem said : Rows.CodeTellsSaid :=
  OpenClaim.holds_of_cond 3 Tryd.f3 rfl rfl rfl rfl rfl rfl rfl ⟨rfl, rfl, rfl, rfl, rfl⟩ rfl rfl rfl rfl rfl (by kernel_rfl) Tryd.func3 (by kernel_rfl)
    (of_decide_eq_true (by kernel_rfl)) (by unfold Func.isWrapper; first | (rw [if_pos (by decide +kernel)]; kernel_rfl) | (rw [if_neg (by decide +kernel)]; exact ⟨rfl, rfl⟩))
    (fun os started H enc _ F => by rw [OpenClaim.pre_eq_preRow]; exact lifted os started H enc F)

theorem plain (f : FuncId) (fn : Func) (hf : Tryd.pinned.checked.prog.funcNamed "turnstone/turnstonelaw7.CodeTells" = some f) (hfn : Tryd.pinned.checked.prog.funcs[f]? = some fn) :
    false = Tryd.pinned.checked.prog.looks [] ∧ ∀ (j : Nat) t, fn.params[j]? = some t → Tryd.pinned.checked.prog.wantsStandIn t = false := by
  obtain rfl : f = 3 := Option.some.inj ((show Tryd.prog.funcNamed "turnstone/turnstonelaw7.CodeTells" = some 3 by kernel_rfl).symm.trans hf) |>.symm
  obtain rfl : fn = Tryd.f3 := (Option.some.inj (Tryd.func3.symm.trans hfn)).symm
  refine ⟨by kernel_rfl, fun j t ht => ?_⟩
  rw [Tryd.params3] at ht
  rcases j with _ | _ | _ | _ | _ | _
  all_goals first
    | (simp at ht; done)
    | (obtain rfl := Option.some.inj ht; kernel_rfl)
    | (simp at ht; subst ht; kernel_rfl)

theorem proved : Rows.CodeTellsCardSaid :=
  Claim7.holds_tied_plain_at .later [] _ _ _ _ said (fun _ h => by cases h) (by kernel_rfl) (fun _ h => by cases h) codeTells_row_tie rfl ⟨rfl, rfl⟩ (by kernel_rfl) rfl plain (by kernel_rfl)
#print axioms proved
end Go.Proofs.YtbhnojbkinbomaaDoor.codeTells

