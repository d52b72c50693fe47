/-
  This text proves 'Rows.TokenAllCardSaid'. The condition is the card's own: the listed variable holds what the program's text lays.
-/
import Derived.Test.YtgomgdbapgibjaaDoorCards
import Derived.Test.YtgomgdbapgibjaaDoorTie
import Derived.Deep.DeepHandedRow
import Derived.Lib.LaidTab
import Derived.Test.YtgomgdbapgibjaaDoorTokO
import Derived.Test.YtgomgdbapgibjaaDoorTokY
set_option maxRecDepth 100000
set_option linter.unusedSimpArgs false
set_option linter.unusedVariables false
namespace Go.Proofs.YtgomgdbapgibjaaDoor.tokenAll
open Go.Sh gen base
variable {S : Sums} {m : Mem}
theorem law_run (hK : S 10 = [([], .bool true)]) (hS : S 3 = []) (hU : Na S) (hN : Nm S) (hB : S 9 = []) (hWs : S 8 = [])
    {s : List UInt8} {ls ms ns : List Int} {kind : Int} {a0 a1 a2 : Option Addr} {f0 f1 f2 : Nat} (hsz : s.length ≤ 9223372036854775807)
    (h0 : Rs m a0 ls.length (ls.flatMap fun n : Int => [Value.int .i64 n]) 3 1 f0) (hf0 : f0 < m.next) (hl0 : ls.length ≤ 9223372036854775807) (hw0 : ∀ n ∈ ls, (Lit.int .i64 n).wf = true)
    (h1 : Rs m a1 ms.length (ms.flatMap fun n : Int => [Value.int .i64 n]) 3 1 f1) (hf1 : f1 < m.next) (hl1 : ms.length ≤ 9223372036854775807) (hw1 : ∀ n ∈ ms, (Lit.int .i64 n).wf = true)
    (h2 : Rs m a2 ns.length (ns.flatMap fun n : Int => [Value.int .i64 n]) 3 1 f2) (hf2 : f2 < m.next) (hl2 : ns.length ≤ 9223372036854775807) (hw2 : ∀ n ∈ ns, (Lit.int .i64 n).wf = true) (hwk : (Lit.int .i64 kind).wf = true)
    {e : TypeId} (hg : Rdo m 0 handC e 0) :
    ∃ v m', callw Tryd.prog TT S 3 [.string ⟨s.toArray⟩, .slice a0 ls.length ls.length, .slice a1 ms.length ms.length, .slice a2 ns.length ns.length, .int .i64 kind] m = some (v, m') ∧ v = .bool true := by
  have hkn := fun m' => sum_ok (P := Tryd.prog) (T := TT) (m := m') hK
  refine fn_w 13 [13, 17] k3 hS rfl ?_
  obtain ⟨z, hz, pz⟩ := pick_nat hN.pick kind 3 3 rfl (by omega) (by omega)
  rcases (by omega : z = 0 ∨ z = 1 ∨ z = 2) with rfl | rfl | rfl
  · obtain ⟨v1, m1, c1, rfl, hm1⟩ := words_run (m := m) hWs hN.pick hg (c := ls.length) h0 hl0 (k := ls.length) (by omega)
    rw [hm1] at c1
    have hl := wordsT_len (List.take 200 (List.take ls.length ls))
    have hl3 : (List.take 200 (List.take ls.length ls)).length ≤ 200 := by simp; omega
    generalize wordsT (List.take 200 (List.take ls.length ls)) = s2 at *
    obtain ⟨v2, m2, c2, rfl, k2⟩ := all_run (m := m) hU s2 (by omega)
    simp [-Int.natCast_add, id, pz, c1, hkn, c2]
  · obtain ⟨v1, m1, c1, ⟨s2, rfl, hs2⟩, k1⟩ := bent_run (m := m) hN hB h1 hf1 hl1 h2 hl2 hg
    obtain ⟨v2, m2, c2, rfl, k2⟩ := all_run (m := m1) hU s2 (by omega)
    simp [-Int.natCast_add, id, pz, c1, hkn, c2]
  · obtain ⟨v2, m2, c2, rfl, k2⟩ := all_run (m := m) hU s (by omega)
    simp [-Int.natCast_add, id, pz, hkn, c2]
open Go.ChangeShapes Go.WideShapes Go.ChangeAt Go.RowKit
theorem own : ownKnob Tryd.prog.godebug = none := by kernel_rfl
theorem mixed : Tryd.prog.follows .mixedOrders = true := by kernel_rfl
theorem tab : Sh.tabCheck Tryd.prog fns = true := by kernel_rfl
theorem known : Sh.isVal (.bool true) (Sh.call Tryd.prog (Sh.tabOf Tryd.prog fns) Sh.noSums 100000 10 [] (Sh.memG Tryd.prog [])) = true := by kernel_rfl
def sums : Sums := fun f => if f = 10 then [([], .bool true)] else []
theorem sumsOk : SumsOk Tryd.prog sums := by
  intro f p hp
  unfold sums at hp
  split at hp
  · rename_i hf
    subst hf
    simp only [List.mem_cons, List.not_mem_nil, or_false] at hp
    subst hp
    exact ⟨rfl, rfl, ⟨Tryd.f10, Tryd.func10, by kernel_rfl, by kernel_rfl⟩, fun w => Sh.closed_val mixed (Sh.tab_ok tab) (Sh.noSums_ok _) 100000 10 Tryd.func10 (by kernel_rfl) (gs := []) (by kernel_rfl) (by kernel_rfl) known w (fun p hp => by simp at hp)⟩
  · simp at hp
theorem tab0 {w : World} (h : laidMetH Tryd.prog Rows.tokenAllRow.laid w) : 0 < w.heap.size ∧ ∀ (i : Nat) v, ((Sh.tabLits (Rows.laid_turnstone_turnstonehand_words : DataW Unit)).map Lit.value)[i]? = some v → w.cell? ⟨0, i, none⟩ = some v :=
  Sh.laid_lits (name := "turnstone/turnstonehand.words") (t := 38) (e := 9) (n := 44) (by kernel_rfl) h (by
    have e : (("turnstone/turnstonehand.words", (.agg ((Sh.tabLits (Rows.laid_turnstone_turnstonehand_words : DataW Unit)).map .lit) : DataW Unit)) : String × DataW Unit) = ("turnstone/turnstonehand.words", Rows.laid_turnstone_turnstonehand_words) := by kernel_rfl
    rw [e]
    simp [Rows.tokenAllRow]) (by kernel_rfl) (by kernel_rfl) Tryd.underlying38 (by first | exact Or.inr (Or.inl Tryd.underlying9) | exact Or.inl ⟨_, Tryd.underlying9⟩ | exact Or.inr (Or.inr Tryd.underlying9)) (by kernel_rfl) (by kernel_rfl) (of_decide_eq_true (by kernel_rfl))
def tables : List (Nat × List Value) := [(0, (Sh.tabLits (Rows.laid_turnstone_turnstonehand_words : DataW Unit)).map Lit.value)]
theorem rd0 : Rdo (memG Tryd.prog tables) 0 base.handC (gtype Tryd.prog 0) 0 := ⟨by kernel_rfl, ⟨⟨none, 0⟩, by kernel_rfl, Nat.zero_le _⟩, of_decide_eq_true (by kernel_rfl), of_decide_eq_true (by kernel_rfl)⟩
theorem startT (w : World) (h : laidMetH Tryd.prog Rows.tokenAllRow.laid w) : MRel Tryd.prog (inj0 Tryd.prog) (memG Tryd.prog tables) (allF w) w w := by
  refine memG_rel Tryd.prog w tables fun p hp => ?_
  simp only [tables, List.mem_cons, List.not_mem_nil, or_false] at hp
  rcases hp with rfl
  · exact ⟨of_decide_eq_true (by kernel_rfl), (tab0 h).1, by kernel_rfl, by kernel_rfl, (tab0 h).2⟩
theorem walk (w : World) (hL : laidMetH Tryd.prog Rows.tokenAllRow.laid w) (x0 : List UInt8) (hx0 : x0.length ≤ 9223372036854775807) {v1 : Value} (h1 : RowArg Tryd.prog w (fun n : Int => [Value.int .i64 n]) (fun n => (Lit.int .i64 n).wf = true) 3 1 v1) {v2 : Value} (h2 : RowArg Tryd.prog w (fun n : Int => [Value.int .i64 n]) (fun n => (Lit.int .i64 n).wf = true) 3 1 v2) {v3 : Value} (h3 : RowArg Tryd.prog w (fun n : Int => [Value.int .i64 n]) (fun n => (Lit.int .i64 n).wf = true) 3 1 v3) (x4 : Int) (hx4 : (Lit.int .i64 x4).wf = true) :
    Calls Tryd.prog 3 #[.string ⟨x0.toArray⟩, v1, v2, v3, .int .i64 x4] w fun e w' => e = .returned (.bool true) ∧ Below w.heap.size w w' := by
  have hM := startT w hL
  obtain ⟨rs1, J1, m1, ao1, fr1, le1, hM1, vr1, hr1, hg1, hl1, hk1, hz1, hw1⟩ := row_in hM sz3 (by omega) (fun _ => rfl) h1
  obtain ⟨rs2, J2, m2, ao2, fr2, le2, hM2, vr2, hr2, hg2, hl2, hk2, hz2, hw2⟩ := row_in hM1 sz3 (by omega) (fun _ => rfl) h2
  obtain ⟨rs3, J3, m3, ao3, fr3, le3, hM3, vr3, hr3, hg3, hl3, hk3, hz3, hw3⟩ := row_in hM2 sz3 (by omega) (fun _ => rfl) h3
  obtain ⟨v', m', h, rfl⟩ := law_run (S := sums) (m := m3) rfl rfl ⟨⟨rfl, rfl, rfl, rfl, rfl, rfl, rfl, rfl, rfl, rfl, rfl, rfl, rfl, rfl, rfl, rfl⟩, ⟨rfl, rfl, rfl, rfl, rfl, rfl, rfl⟩, rfl, rfl, rfl, rfl⟩ ⟨rfl, rfl, rfl, rfl, rfl, rfl, rfl, rfl, rfl, rfl, rfl, rfl, rfl, rfl, rfl⟩ rfl rfl hx0 ((hr1.keep hk2 (by simp)).keep hk3 (by simp)) (by have := hk2.1; have := hk3.1; omega) hz1 hw1 (hr2.keep hk3 (by simp)) (by have := hk3.1; omega) hz2 hw2 hr3 hl3 hz3 hw3 hx4 (((rd0.keep hk1 (by simp)).keep hk2 (by simp)).keep hk3 (by simp))
  exact calls_of mixed (Sh.tab_ok tab) sumsOk Tryd.func3 (by kernel_rfl) h rfl hM3 (.cons (.clo _ rfl) (.cons ((vr1.mono le2).mono le3) (.cons (vr2.mono le3) (.cons vr3 (.cons (.clo _ rfl) LRel.nil)))))
theorem laidOut : laidOutB Tryd.prog = true := by kernel_rfl
theorem trodAll_many {H : Type} {enc : TypeId × Value → H} {P : Program} {w : World} {base : Nat} {spare : Nat → Bool} {held : Bool} {y0 y1 y2 y3 y4 : TypeId} {args : Array Value} {ds : List (DataW H)} {ps : List MemPlace} (h : DataW.TrodAll enc P w base spare held [y0, y1, y2, y3, y4] args.toList ds ps) :
    ∃ v0 v1 v2 v3 v4 d0 d1 d2 d3 d4 p0 p1 p2 p3 p4, args = #[v0, v1, v2, v3, v4] ∧ ds = [d0, d1, d2, d3, d4] ∧ ps = p0 ++ p1 ++ p2 ++ p3 ++ p4 ∧ DataW.Trod enc P w base spare held y0 v0 d0 p0 ∧ DataW.Trod enc P w base spare held y1 v1 d1 p1 ∧ DataW.Trod enc P w base spare held y2 v2 d2 p2 ∧ DataW.Trod enc P w base spare held y3 v3 d3 p3 ∧ DataW.Trod enc P w base spare held y4 v4 d4 p4 := by
  obtain ⟨v0, vs0, d0, es0, p0, q0, hargs, rfl, rfl, a0, b0⟩ := trodAll_cons h
  obtain ⟨v1, vs1, d1, es1, p1, q1, rfl, rfl, rfl, a1, b1⟩ := trodAll_cons b0
  obtain ⟨v2, vs2, d2, es2, p2, q2, rfl, rfl, rfl, a2, b2⟩ := trodAll_cons b1
  obtain ⟨v3, vs3, d3, es3, p3, q3, rfl, rfl, rfl, a3, b3⟩ := trodAll_cons b2
  obtain ⟨v4, vs4, d4, es4, p4, q4, rfl, rfl, rfl, a4, b4⟩ := trodAll_cons b3
  obtain ⟨rfl, rfl, rfl⟩ := trodAll_nil b4
  exact ⟨v0, v1, v2, v3, v4, d0, d1, d2, d3, d4, p0, p1, p2, p3, p4, by cases args; simp_all, rfl, by simp, a0, a1, a2, a3, a4⟩
theorem trodAll_mkmany {H : Type} {enc : TypeId × Value → H} {P : Program} {w : World} {base : Nat} {spare : Nat → Bool} {held : Bool} {y0 y1 y2 y3 y4 : TypeId} {v0 v1 v2 v3 v4 : Value} {d0 d1 d2 d3 d4 : DataW H} {p0 p1 p2 p3 p4 : List MemPlace} (a0 : DataW.Trod enc P w base spare held y0 v0 d0 p0) (a1 : DataW.Trod enc P w base spare held y1 v1 d1 p1) (a2 : DataW.Trod enc P w base spare held y2 v2 d2 p2) (a3 : DataW.Trod enc P w base spare held y3 v3 d3 p3) (a4 : DataW.Trod enc P w base spare held y4 v4 d4 p4) : DataW.TrodAll enc P w base spare held [y0, y1, y2, y3, y4] [v0, v1, v2, v3, v4] [d0, d1, d2, d3, d4] (p0 ++ (p1 ++ (p2 ++ (p3 ++ (p4 ++ []))))) := (trodAll_cons_mk a0 (trodAll_cons_mk a1 (trodAll_cons_mk a2 (trodAll_cons_mk a3 (trodAll_cons_mk a4 trodAll_mk0)))))
theorem contract (H : Type) (enc : TypeId × Value → H) (W : World) (base : Nat) (args : Array Value) (ds gs : List (DataW H)) (before : List MemPlace)
    (hval : ∀ (j : Nat) t v, Tryd.f3.params[j]? = some t → args[j]? = some v → Value.okWide Tryd.prog W .any base t v)
    (hW : DataW.Whole enc Tryd.prog Tryd.f3.params.toList Rows.tokenAllSpec.vars false W args.toList ds gs before) (hL : laidMetH Tryd.prog Rows.tokenAllRow.laid W) :
    Calls Tryd.prog 3 args W fun e W' => ∃ v, e = .returned v ∧ Rows.tokenAllSpec.post enc Tryd.prog Tryd.f3 false true false false W args v W' := by
  have hW' := hW
  obtain ⟨p, q, hA0, hV, rfl, hfz, hnd⟩ := hW
  have hA : DataW.TrodAll enc Tryd.prog W 0 (fun _ => true) true Tryd.f3.params.toList args.toList ds p := hA0
  rw [Tryd.params3] at hA hval
  obtain ⟨v0, v1, v2, v3, v4, d0, d1, d2, d3, d4, p0, p1, p2, p3, p4, rfl, rfl, rfl, t0, t1, t2, t3, t4⟩ := trodAll_many hA
  obtain ⟨rfl, rfl⟩ := trodVars_none hV
  obtain ⟨⟨⟨x0⟩⟩, rfl, rfl, rfl, hx0⟩ := Go.ChangeMaps.open_string u9 (hval 0 _ _ rfl rfl) t0
  have hv1 := ints_row u22 u3 sz3 (hval 1 _ _ rfl rfl) t1
  have hv2 := ints_row u22 u3 sz3 (hval 2 _ _ rfl rfl) t2
  have hv3 := ints_row u22 u3 sz3 (hval 3 _ _ rfl rfl) t3
  obtain ⟨x4, rfl, rfl, rfl, hx4⟩ := open_int u3 (hval 4 _ _ rfl rfl) t4
  clear hA0
  simp only [List.append_nil, List.nil_append] at hW'
  refine (walk W hL x0 hx0 hv1 hv2 hv3 x4 hx4).mono fun e W' ⟨he, hg⟩ => ?_
  subst he
  have hlt1 : ∀ z ∈ p1, z.block < W.heap.size := fun z hz => hW'.lt z (by simp [hz])
  have hlt2 : ∀ z ∈ p2, z.block < W.heap.size := fun z hz => hW'.lt z (by simp [hz])
  have hlt3 : ∀ z ∈ p3, z.block < W.heap.size := fun z hz => hW'.lt z (by simp [hz])
  exact ⟨_, rfl, Sh.law_post (pa := ([] ++ (p1 ++ (p2 ++ (p3 ++ ([] ++ [])))))) (pv := []) hW' hg (by simp) (fun sp hsp => trodAll_mkmany (Go.ChangeMaps.shut_string u9 hx0) (WideElems.Trod_stays laidOut (by kernel_rfl) (of_decide_eq_true (by kernel_rfl)) t1 (fun z hz => hg.same (hlt1 z hz)) (fun z hz => hsp z (by simp [hz]))) (WideElems.Trod_stays laidOut (by kernel_rfl) (of_decide_eq_true (by kernel_rfl)) t2 (fun z hz => hg.same (hlt2 z hz)) (fun z hz => hsp z (by simp [hz]))) (WideElems.Trod_stays laidOut (by kernel_rfl) (of_decide_eq_true (by kernel_rfl)) t3 (fun z hz => hg.same (hlt3 z hz)) (fun z hz => hsp z (by simp [hz]))) (shut_int u3 hx4)) (fun _ _ => rfl) (fun _ _ _ => (trodAll_cons_mk (shut_bool u4 _) trodAll_mk0))
    (ok_one (by kernel_rfl) rfl (okWide_bool_mk u4 _))⟩
abbrev wa : Array Value := #[.string ⟨#[]⟩, .slice none 0 0, .slice none 0 0, .slice none 0 0, .int .i64 0]
noncomputable def laidWorld (os : Os) : World :=
  { World.holding Tryd.prog os ⟨#[], #[], []⟩ with heap := ((World.holding Tryd.prog os ⟨#[], #[], []⟩).heap).modify 0 (Sh.laidBlock (Rows.laid_turnstone_turnstonehand_words : DataW Unit)) }
theorem laid_met (os : Os) : laidMet Tryd.prog Rows.tokenAllRow.laid ((laidWorld os).forCall (fun _ _ => 0) ⟨#[], wa, []⟩).memory :=
  laidMet_of_run' 8 (by kernel_rfl) (by kernel_rfl)
theorem reads (os : Os) {H : Type} (enc : TypeId × Value → H) : ∃ places, DataW.whole enc Tryd.prog ((laidWorld os).forCall (fun _ _ => 0) ⟨#[], wa, []⟩).memory Tryd.f3.params.toList Rows.tokenAllSpec.vars false wa.toList 8 = some ([.lit (.string []), .nil, .nil, .nil, .lit (.int .i64 0)], [], places) :=
  ⟨[], by kernel_rfl⟩
theorem lifted (os : Os) (started : os.Started) (H : Type) (enc : TypeId × Value → H) (F : Stop.Interp) :
    ReturnsInHanded {} Tryd.checked os 3 .any ((OpenSpec.ofChange Rows.tokenAllSpec).preRow enc Tryd.prog Tryd.f3 Rows.tokenAllRow.domain false Rows.tokenAllRow.laid) (((OpenSpec.ofChange Rows.tokenAllSpec).at F).post enc Tryd.prog Tryd.f3 false true false false) := by
  obtain ⟨places, hx⟩ := reads os enc
  refine returnsInHanded_of_row (C := Tryd.checked) (s := OpenSpec.ofChange Rows.tokenAllSpec) own started (by kernel_rfl) Tryd.func3
    (witness_row_at (enc := enc) (C := Tryd.checked) false (laidWorld os) wa rfl (by kernel_rfl) (by kernel_rfl) (by kernel_rfl)
      (OpenSpec.preRow_of_cond 8 hx (by kernel_rfl) (fun k hk => by cases hk) (by kernel_rfl) (laid_met os))) ?_
  intro W base args ds gs before hval hW _ _ hwt hL _ _
  exact contract H enc W base args ds gs before hval hW hL
theorem said : Rows.TokenAllSaid :=
  OpenClaim.holds_of_cond 3 Tryd.f3 rfl rfl rfl rfl rfl rfl rfl ⟨rfl, rfl, rfl, rfl, rfl⟩ rfl rfl rfl rfl rfl (by kernel_rfl) Tryd.func3 (by kernel_rfl)
    (of_decide_eq_true (by kernel_rfl)) (by unfold Func.isWrapper; first | (rw [if_pos (by decide +kernel)]; kernel_rfl) | (rw [if_neg (by decide +kernel)]; exact ⟨rfl, rfl⟩))
    (fun os started H enc _ F => by rw [OpenClaim.pre_eq_preRow]; exact lifted os started H enc F)
theorem plain (f : FuncId) (fn : Func) (hf : Tryd.pinned.checked.prog.funcNamed "turnstone/turnstonelaw3.TokenAll" = some f) (hfn : Tryd.pinned.checked.prog.funcs[f]? = some fn) :
    false = Tryd.pinned.checked.prog.looks [] ∧ ∀ (j : Nat) t, fn.params[j]? = some t → Tryd.pinned.checked.prog.wantsStandIn t = false := by
  obtain rfl : f = 3 := Option.some.inj ((show Tryd.prog.funcNamed "turnstone/turnstonelaw3.TokenAll" = some 3 by kernel_rfl).symm.trans hf) |>.symm
  obtain rfl : fn = Tryd.f3 := (Option.some.inj (Tryd.func3.symm.trans hfn)).symm
  refine ⟨by kernel_rfl, fun j t ht => ?_⟩
  rw [Tryd.params3] at ht
  rcases j with _ | _ | _ | _ | _ | _
  all_goals first
    | (simp at ht; done)
    | (obtain rfl := Option.some.inj ht; kernel_rfl)
    | (simp at ht; subst ht; kernel_rfl)
theorem proved : Rows.TokenAllCardSaid :=
  Claim7.holds_tied_plain_at .later [] _ _ _ _ said (fun _ h => by cases h) (by kernel_rfl) (fun _ h => by cases h) tokenAll_row_tie rfl ⟨rfl, rfl⟩ (by kernel_rfl) rfl plain (by kernel_rfl)
#print axioms proved
end Go.Proofs.YtgomgdbapgibjaaDoor.tokenAll
