/-
  This text proves 'Rows.CodeNamesCardSaid': the law 'CodeNames' returns true at any numbers, in whatever memory and on every tape, and its input reads as it did.
  The condition is the card's own: the listed package-level variables hold what the program's text lays.
-/
import Derived.Test.YtbhnojbkinbomaaDoorCards
import Derived.Test.YtbhnojbkinbomaaDoorTie
import Derived.Deep.DeepHandedRow
import Derived.Lib.LaidTab
import Derived.Test.YtbhnojbkinbomaaDoorCodS
set_option maxRecDepth 100000
set_option linter.unusedSimpArgs false
set_option linter.unusedVariables false
namespace Go.Proofs.YtbhnojbkinbomaaDoor.codeNames
open Go.Sh gen base
variable {S : Sums} {m : Mem}
theorem name_inj : ∀ a b : Fin 41, (opsL.getD (a.val + 1) [] = opsL.getD (b.val + 1) []) = (a.val = b.val) := by decide
theorem name_ne : ∀ a : Fin 41, opsL.getD (a.val + 1) [] ≠ [] := by decide
theorem nameF_in {op : Int} (h : 1 ≤ op ∧ op ≤ 41) : nameF op = opsL.getD op.toNat [] := by unfold nameF; rw [if_pos h]
theorem name_eq {a b : Int} (ha : 1 ≤ a ∧ a ≤ 41) (hb : 1 ≤ b ∧ b ≤ 41) : nameF a = nameF b ↔ a = b := by
  rw [nameF_in ha, nameF_in hb]
  have := name_inj ⟨a.toNat - 1, by omega⟩ ⟨b.toNat - 1, by omega⟩
  simp only at this
  rw [show a.toNat - 1 + 1 = a.toNat by omega, show b.toNat - 1 + 1 = b.toNat by omega] at this
  rw [this]
  omega
theorem name_some {a : Int} (ha : 1 ≤ a ∧ a ≤ 41) : nameF a ≠ [] := by
  rw [nameF_in ha]
  have := name_ne ⟨a.toNat - 1, by omega⟩
  simp only at this
  rw [show a.toNat - 1 + 1 = a.toNat by omega] at this
  exact this
set_option maxHeartbeats 4000000 in
theorem law_run (hq : Nq S) (hK : S 12 = [([], .bool true)]) (hS : S 5 = []) (hPk : S 7 = [])
    {x0 x1 : Int} (hx0 : (Lit.int .i64 x0).wf = true) (hx1 : (Lit.int .i64 x1).wf = true)
    {e1 : TypeId} (hg1 : Rdo m 2 powC e1 2) :
    ∃ v m', callw Tryd.prog TT S 5 [.int .i64 x0, .int .i64 x1] m = some (v, m') ∧ v = .bool true := by
  have hkn := fun m' => sum_ok (P := Tryd.prog) (T := TT) (m := m') hK
  have pk0 := fun m' => pick_run (m := m') hPk x0 41 (by omega) (by omega)
  have pk1 := fun m' => pick_run (m := m') hPk x1 41 (by omega) (by omega)
  obtain ⟨a, ha⟩ : ∃ a, 1 + x0 % 41 = a := ⟨_, rfl⟩
  obtain ⟨b, hb⟩ : ∃ b, 1 + x1 % 41 = b := ⟨_, rfl⟩
  have ha2 : 1 ≤ a ∧ a ≤ 41 := by omega
  have hb2 : 1 ≤ b ∧ b ≤ 41 := by omega
  have w0 : IntKind.i64.wrap (1 + x0 % 41) = a := by rw [wrap_i64 (by omega) (by omega)]; exact ha
  have w1 : IntKind.i64.wrap (1 + x1 % 41) = b := by rw [wrap_i64 (by omega) (by omega)]; exact hb
  have nma := fun m' => name_run (m := m') hq.name a
  have nmb := fun m' => name_run (m := m') hq.name b
  obtain ⟨oN, kN, nN⟩ := new_own (m := m) (cs := ixv [(a, 0, 0)]) (e := 26) rfl
  obtain ⟨m1, hm1⟩ : ∃ m1, m.new (ixv [(a, 0, 0)]) 26 = m1 := ⟨_, rfl⟩
  have hm1' : m.new [.int .i64 a, .int .i64 0, .int .i64 0] 26 = m1 := hm1
  rw [hm1] at oN kN nN
  obtain ⟨_, m2, c2, rfl, k2⟩ := show_run (m := m1) hq (hg1.keep kN (by simp)) (l := [(a, 0, 0)]) (ao := some ⟨m.next, 0, none⟩) ⟨by simp, Or.inr ⟨_, rfl, oN.rdo⟩⟩ (by intro x hx; simp at hx; subst hx; exact ⟨⟨by show _ ≤ a; omega, by show a ≤ _; omega⟩, ⟨by show _ ≤ (0 : Int); omega, by show (0 : Int) ≤ _; omega⟩, ⟨by show _ ≤ (0 : Int); omega, by show (0 : Int) ≤ _; omega⟩⟩) (by simp)
  have hn := name_some ha2
  have hne := name_eq ha2 hb2
  have hl := name_len a
  have hT : showT [(a, 0, 0)] 1 = 48 :: 32 :: (nameF a ++ (tailF a 0 0 ++ [10])) := by
    have f0 : fmt 0 = [48] := by decide +kernel
    unfold showT lineF headF nmF
    simp [f0, hn]
  have htl : (tailF a 0 0).length ≤ 60 := by
    unfold tailF
    have f0 : fmt 0 = [48] := by decide +kernel
    split
    · simp
    · split <;> simp [f0]
  simp at c2
  rw [hT] at c2
  refine fn_w 7 [] k5 hS rfl ?_
  generalize tailF a 0 0 = tl at *
  have fo : (Array.foldl (fun (cs : Array Value) (x : Value × Nat) => cs.setIfInBounds x.snd x.fst) #[Value.int .i64 0, Value.int .i64 0, Value.int .i64 0] #[(Value.int .i64 a, 0), (Value.int .i64 0, 1), (Value.int .i64 0, 2)] 0 3).toList = [.int .i64 a, .int .i64 0, .int .i64 0] := rfl
  have hie : (nameF a).isEmpty = false := by simpa using hn
  by_cases hab : a = b
  · subst hab
    generalize nameF a = na at *
    have wl : IntKind.i64.wrap ((na.length : Int) + 2) = ((na.length + 2 : Nat) : Int) := by rw [wrap_i64 (by omega) (by omega)]; rfl
    have hlt : ((na.length + 2 : Nat) : Int) < ((48 :: 32 :: (na ++ (tl ++ [10]))).length : Int) := by simp; omega
    have hle : na.length + 2 ≤ (48 :: 32 :: (na ++ (tl ++ [10]))).length := by simp
    have h63 : ((na.length + 2 : Nat) : Int) ≤ 9223372036854775807 := by omega
    have htk : List.take (na.length + 2) (48 :: 32 :: (na ++ (tl ++ [10]))) = 48 :: 32 :: na := by simp
    obtain ⟨s, hs⟩ : ∃ s, 48 :: 32 :: (na ++ (tl ++ [10])) = s := ⟨_, rfl⟩
    rw [hs] at c2 hlt hle htk
    obtain ⟨k, hk⟩ : ∃ k, na.length + 2 = k := ⟨_, rfl⟩
    rw [hk] at wl hlt hle htk h63
    simp (disch := first | omega | (simp only [List.length_append, List.length_cons, List.length_nil]; omega) | rfl) [-Int.natCast_add, -strOp, add_short, fold_k, fold_0, -BitVec.toNat_or, -BitVec.toNat_ofInt, -BitVec.toNat_and, build_of bo26, buildSlice_of u33 bs26 rfl, build_of bo36, bin_bool u4 .eql (Or.inl rfl), len_string u9, slice_str u9, bin_str u9 .add (Or.inl rfl), pk0, pk1, w0, w1, nma, nmb, fo, hm1', c2, hkn, hie, wl, hlt, hle, h63, htk]
  · have hnn : ¬ nameF a = nameF b := fun e => hab (hne.1 e)
    generalize nameF a = na at *
    generalize nameF b = nb at *
    have hbq : (na == nb) = false := by simpa using hnn
    have wl : IntKind.i64.wrap ((na.length : Int) + 2) = ((na.length + 2 : Nat) : Int) := by rw [wrap_i64 (by omega) (by omega)]; rfl
    have hlt : ((na.length + 2 : Nat) : Int) < ((48 :: 32 :: (na ++ (tl ++ [10]))).length : Int) := by simp; omega
    have hle : na.length + 2 ≤ (48 :: 32 :: (na ++ (tl ++ [10]))).length := by simp
    have h63 : ((na.length + 2 : Nat) : Int) ≤ 9223372036854775807 := by omega
    have htk : List.take (na.length + 2) (48 :: 32 :: (na ++ (tl ++ [10]))) = 48 :: 32 :: na := by simp
    obtain ⟨s, hs⟩ : ∃ s, 48 :: 32 :: (na ++ (tl ++ [10])) = s := ⟨_, rfl⟩
    rw [hs] at c2 hlt hle htk
    obtain ⟨k, hk⟩ : ∃ k, na.length + 2 = k := ⟨_, rfl⟩
    rw [hk] at wl hlt hle htk h63
    simp (disch := first | omega | (simp only [List.length_append, List.length_cons, List.length_nil]; omega) | rfl) [-Int.natCast_add, -strOp, add_short, fold_k, fold_0, -BitVec.toNat_or, -BitVec.toNat_ofInt, -BitVec.toNat_and, build_of bo26, buildSlice_of u33 bs26 rfl, build_of bo36, bin_bool u4 .eql (Or.inl rfl), len_string u9, slice_str u9, bin_str u9 .add (Or.inl rfl), pk0, pk1, w0, w1, nma, nmb, fo, hm1', c2, hkn, hie, hab, hbq, wl, hlt, hle, h63, htk]

/- the row -/
open Go.ChangeShapes Go.WideShapes Go.ChangeAt Go.RowKit
theorem own : ownKnob Tryd.prog.godebug = none := by kernel_rfl
theorem tab : Sh.tabCheck Tryd.prog fns = true := by kernel_rfl
theorem tab0 {w : World} (h : laidMetH Tryd.prog Rows.codeNamesRow.laid w) : 2 < w.heap.size ∧ ∀ (i : Nat) v, ((Sh.tabLits (Rows.laid_internal_strconv_uint64pow10 : DataW Unit)).map Lit.value)[i]? = some v → w.cell? ⟨2, i, none⟩ = some v :=
  Sh.laid_lits (name := "internal/strconv.uint64pow10") (t := 72) (e := 65) (n := 20) (by kernel_rfl) h (by
    have e : (("internal/strconv.uint64pow10", (.agg ((Sh.tabLits (Rows.laid_internal_strconv_uint64pow10 : DataW Unit)).map .lit) : DataW Unit)) : String × DataW Unit) = ("internal/strconv.uint64pow10", Rows.laid_internal_strconv_uint64pow10) := by kernel_rfl
    rw [e]
    simp [Rows.codeNamesRow]) (by kernel_rfl) (by kernel_rfl) Tryd.underlying72 (by first | exact Or.inr (Or.inl Tryd.underlying65) | exact Or.inl ⟨_, Tryd.underlying65⟩ | exact Or.inr (Or.inr Tryd.underlying65)) (by kernel_rfl) (by kernel_rfl) (of_decide_eq_true (by kernel_rfl))
def tables : List (Nat × List Value) := [(2, (Sh.tabLits (Rows.laid_internal_strconv_uint64pow10 : DataW Unit)).map Lit.value)]
theorem rd0 : Rdo (memG Tryd.prog tables) 2 base.powC (gtype Tryd.prog 2) 2 := ⟨by kernel_rfl, ⟨⟨none, 0⟩, by kernel_rfl, Nat.zero_le _⟩, of_decide_eq_true (by kernel_rfl), of_decide_eq_true (by kernel_rfl)⟩
theorem startT (w : World) (h : laidMetH Tryd.prog Rows.codeNamesRow.laid w) : MRel Tryd.prog (inj0 Tryd.prog) (memG Tryd.prog tables) (allF w) w w := by
  refine memG_rel Tryd.prog w tables fun p hp => ?_
  simp only [tables, List.mem_cons, List.not_mem_nil, or_false] at hp
  rcases hp with rfl
  · exact ⟨of_decide_eq_true (by kernel_rfl), (tab0 h).1, by kernel_rfl, by kernel_rfl, (tab0 h).2⟩

theorem walk (w : World) (hL : laidMetH Tryd.prog Rows.codeNamesRow.laid w) (x0 : Int) (hx0 : (Lit.int .i64 x0).wf = true) (x1 : Int) (hx1 : (Lit.int .i64 x1).wf = true) :
    Calls Tryd.prog 5 #[.int .i64 x0, .int .i64 x1] w fun e w' => e = .returned (.bool true) ∧ Below w.heap.size w w' := by
  have hM := startT w hL
  obtain ⟨v', m', h, rfl⟩ := law_run (S := sums) (m := memG Tryd.prog tables) ⟨⟨rfl, rfl, rfl, rfl, rfl, rfl, rfl⟩, ⟨rfl, rfl, rfl, rfl, rfl⟩, rfl, rfl, rfl, rfl, rfl⟩ rfl rfl rfl hx0 hx1 rd0
  exact calls_of mixed (Sh.tab_ok tab) sumsOk Tryd.func5 (by kernel_rfl) h rfl hM (.cons (.clo _ rfl) (.cons (.clo _ rfl) LRel.nil))

theorem laidOut : laidOutB Tryd.prog = true := by kernel_rfl

theorem contract (H : Type) (enc : TypeId × Value → H) (W : World) (base : Nat) (args : Array Value) (ds gs : List (DataW H)) (before : List MemPlace)
    (hval : ∀ (j : Nat) t v, Tryd.f5.params[j]? = some t → args[j]? = some v → Value.okWide Tryd.prog W .any base t v)
    (hW : DataW.Whole enc Tryd.prog Tryd.f5.params.toList Rows.codeNamesSpec.vars false W args.toList ds gs before) (hL : laidMetH Tryd.prog Rows.codeNamesRow.laid W) :
    Calls Tryd.prog 5 args W fun e W' => ∃ v, e = .returned v ∧ Rows.codeNamesSpec.post enc Tryd.prog Tryd.f5 false true false false W args v W' := by
  have hW' := hW
  obtain ⟨p, q, hA0, hV, rfl, hfz, hnd⟩ := hW
  have hA : DataW.TrodAll enc Tryd.prog W 0 (fun _ => true) true Tryd.f5.params.toList args.toList ds p := hA0
  rw [Tryd.params5] at hA hval
  obtain ⟨v0, v1, d0, d1, p0, p1, rfl, rfl, rfl, t0, t1⟩ := trodAll_two hA
  obtain ⟨rfl, rfl⟩ := trodVars_none hV
  obtain ⟨x0, rfl, rfl, rfl, hx0⟩ := open_int u3 (hval 0 _ _ rfl rfl) t0
  obtain ⟨x1, rfl, rfl, rfl, hx1⟩ := open_int u3 (hval 1 _ _ rfl rfl) t1
  clear hA0
  simp only [List.append_nil, List.nil_append] at hW'
  refine (walk W hL x0 hx0 x1 hx1).mono fun e W' ⟨he, hg⟩ => ?_
  subst he
  exact ⟨_, rfl, Sh.law_post (pa := ([] ++ [])) (pv := []) hW' hg (by simp) (fun sp hsp => trodAll_mk2 (shut_int u3 hx0) (shut_int u3 hx1)) (fun _ _ => rfl) (fun _ _ _ => (trodAll_cons_mk (shut_bool u4 _) trodAll_mk0))
    (ok_one (by kernel_rfl) rfl (okWide_bool_mk u4 _))⟩
/-- A world for the witness: the settled one, the listed variables holding what is laid. -/
noncomputable def laidWorld (os : Os) : World :=
  { World.holding Tryd.prog os ⟨#[], #[], []⟩ with heap := ((((((World.holding Tryd.prog os ⟨#[], #[], []⟩).heap).modify 5 (Sh.laidBlock (Rows.laid_math_bits_deBruijn32tab : DataW Unit))).modify 6 (Sh.laidBlock (Rows.laid_math_bits_deBruijn64tab : DataW Unit))).modify 2 (Sh.laidBlock (Rows.laid_internal_strconv_uint64pow10 : DataW Unit))).modify 4 (Sh.laidBlock (Rows.laid_unicode_utf8_acceptRanges : DataW Unit))).modify 3 (Sh.laidBlock (Rows.laid_unicode_utf8_first : DataW Unit)) }
theorem laid_met (os : Os) : laidMet Tryd.prog Rows.codeNamesRow.laid ((laidWorld os).forCall (fun _ _ => 0) ⟨#[], #[.int .i64 0, .int .i64 0], []⟩).memory :=
  laidMet_of_run' 8 (by kernel_rfl) (by kernel_rfl)
theorem reads (os : Os) {H : Type} (enc : TypeId × Value → H) : ∃ places, DataW.whole enc Tryd.prog ((laidWorld os).forCall (fun _ _ => 0) ⟨#[], #[.int .i64 0, .int .i64 0], []⟩).memory Tryd.f5.params.toList Rows.codeNamesSpec.vars false (#[.int .i64 0, .int .i64 0] : Array Value).toList 8 = some ([.lit (.int .i64 0), .lit (.int .i64 0)], [], places) :=
  ⟨[], by kernel_rfl⟩

theorem lifted (os : Os) (started : os.Started) (H : Type) (enc : TypeId × Value → H) (F : Stop.Interp) :
    ReturnsInHanded {} Tryd.checked os 5 .any ((OpenSpec.ofChange Rows.codeNamesSpec).preRow enc Tryd.prog Tryd.f5 Rows.codeNamesRow.domain false Rows.codeNamesRow.laid) (((OpenSpec.ofChange Rows.codeNamesSpec).at F).post enc Tryd.prog Tryd.f5 false true false false) := by
  obtain ⟨places, hx⟩ := reads os enc
  refine returnsInHanded_of_row (C := Tryd.checked) (s := OpenSpec.ofChange Rows.codeNamesSpec) own started (by kernel_rfl) Tryd.func5
    (witness_row_at (enc := enc) (C := Tryd.checked) false (laidWorld os) #[.int .i64 0, .int .i64 0] rfl (by kernel_rfl) (by kernel_rfl) (by kernel_rfl)
      (OpenSpec.preRow_of_cond 8 hx (by kernel_rfl) (fun k hk => by cases hk) (by kernel_rfl) (laid_met os))) ?_
  intro W base args ds gs before hval hW _ hcd hwt hL _ _
  exact contract H enc W base args ds gs before hval hW hL

theorem said : Rows.CodeNamesSaid :=
  OpenClaim.holds_of_cond 5 Tryd.f5 rfl rfl rfl rfl rfl rfl rfl ⟨rfl, rfl, rfl, rfl, rfl⟩ rfl rfl rfl rfl rfl (by kernel_rfl) Tryd.func5 (by kernel_rfl)
    (of_decide_eq_true (by kernel_rfl)) (by unfold Func.isWrapper; first | (rw [if_pos (by decide +kernel)]; kernel_rfl) | (rw [if_neg (by decide +kernel)]; exact ⟨rfl, rfl⟩))
    (fun os started H enc _ F => by rw [OpenClaim.pre_eq_preRow]; exact lifted os started H enc F)

theorem plain (f : FuncId) (fn : Func) (hf : Tryd.pinned.checked.prog.funcNamed "turnstone/turnstonelaw7.CodeNames" = some f) (hfn : Tryd.pinned.checked.prog.funcs[f]? = some fn) :
    false = Tryd.pinned.checked.prog.looks [] ∧ ∀ (j : Nat) t, fn.params[j]? = some t → Tryd.pinned.checked.prog.wantsStandIn t = false := by
  obtain rfl : f = 5 := Option.some.inj ((show Tryd.prog.funcNamed "turnstone/turnstonelaw7.CodeNames" = some 5 by kernel_rfl).symm.trans hf) |>.symm
  obtain rfl : fn = Tryd.f5 := (Option.some.inj (Tryd.func5.symm.trans hfn)).symm
  refine ⟨by kernel_rfl, fun j t ht => ?_⟩
  rw [Tryd.params5] at ht
  rcases j with _ | _ | _
  all_goals first
    | (simp at ht; done)
    | (obtain rfl := Option.some.inj ht; kernel_rfl)
    | (simp at ht; subst ht; kernel_rfl)

theorem proved : Rows.CodeNamesCardSaid :=
  Claim7.holds_tied_plain_at .later [] _ _ _ _ said (fun _ h => by cases h) (by kernel_rfl) (fun _ h => by cases h) codeNames_row_tie rfl ⟨rfl, rfl⟩ (by kernel_rfl) rfl plain (by kernel_rfl)
#print axioms proved
end Go.Proofs.YtbhnojbkinbomaaDoor.codeNames

