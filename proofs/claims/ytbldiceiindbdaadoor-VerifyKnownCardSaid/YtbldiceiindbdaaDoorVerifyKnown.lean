/-
  This text proves 'Rows.VerifyKnownCardSaid': the closed law 'VerifyKnown' returns true, in whatever memory and on every tape.
  The condition is the card's own: the listed package-level variables hold what the program's text lays.
-/
import Derived.Test.YtbldiceiindbdaaDoorCards
import Derived.Test.YtbldiceiindbdaaDoorTie
import Derived.Test.YtbldiceiindbdaaDoorShB
import Derived.Deep.DeepHandedRow
import Derived.Lib.LaidTab
namespace Go.Proofs.YtbldiceiindbdaaDoor.verifyKnown
open Go.ChangeShapes Go.WideShapes Go.ChangeAt Go.RowKit
set_option linter.unusedVariables false
set_option maxRecDepth 100000

theorem own : ownKnob Tryd.prog.godebug = none := by kernel_rfl

def fns : List FuncId := [3, 4, 5, 6, 7, 8, 9, 10, 11, 12, 13, 14, 15, 16, 18, 20, 21, 22, 23, 24, 25, 26, 28, 29, 30, 31, 32, 33, 35, 36, 37, 40, 43, 45, 47, 49, 52, 59, 60, 67, 68, 70, 74, 92, 93, 94, 95, 96]
theorem mixed : Tryd.prog.follows .mixedOrders = true := by kernel_rfl
theorem tab : Sh.tabCheck Tryd.prog fns = true := by kernel_rfl
def tables : List (Nat × List Value) := []
def sums0 : Sh.Sums := Sh.noSums
theorem sumsOk0 : Sh.SumsOk Tryd.prog sums0 := Sh.noSums_ok _
theorem sum26_0 : Sh.isVal (.bool true) (Sh.call Tryd.prog (Sh.tabOf Tryd.prog fns) sums0 100000 26 [(.agg #[(.int .i64 0), (.string ⟨#[]⟩), (.int .i64 0), (.slice none 0 0), (.slice none 0 0)]), (.agg #[(.int .i64 0), (.string ⟨#[]⟩), (.int .i64 0), (.slice none 0 0), (.slice none 0 0)])] (Sh.memG Tryd.prog [])) = true := by kernel_rfl
theorem sum26_1 : Sh.isVal (.bool true) (Sh.call Tryd.prog (Sh.tabOf Tryd.prog fns) sums0 100000 26 [(.agg #[(.int .i64 1), (.string ⟨#[105, 110, 116]⟩), (.int .i64 0), (.slice none 0 0), (.slice none 0 0)]), (.agg #[(.int .i64 1), (.string ⟨#[105, 110, 116]⟩), (.int .i64 0), (.slice none 0 0), (.slice none 0 0)])] (Sh.memG Tryd.prog [])) = true := by kernel_rfl
theorem sum26_2 : Sh.isVal (.bool true) (Sh.call Tryd.prog (Sh.tabOf Tryd.prog fns) sums0 100000 26 [(.agg #[(.int .i64 2), (.string ⟨#[98, 111, 111, 108]⟩), (.int .i64 0), (.slice none 0 0), (.slice none 0 0)]), (.agg #[(.int .i64 2), (.string ⟨#[98, 111, 111, 108]⟩), (.int .i64 0), (.slice none 0 0), (.slice none 0 0)])] (Sh.memG Tryd.prog [])) = true := by kernel_rfl
theorem sum26_3 : Sh.isVal (.bool true) (Sh.call Tryd.prog (Sh.tabOf Tryd.prog fns) sums0 100000 26 [(.agg #[(.int .i64 3), (.string ⟨#[115, 116, 114, 105, 110, 103]⟩), (.int .i64 0), (.slice none 0 0), (.slice none 0 0)]), (.agg #[(.int .i64 3), (.string ⟨#[115, 116, 114, 105, 110, 103]⟩), (.int .i64 0), (.slice none 0 0), (.slice none 0 0)])] (Sh.memG Tryd.prog [])) = true := by kernel_rfl
theorem sum26_4 : Sh.isVal (.bool true) (Sh.call Tryd.prog (Sh.tabOf Tryd.prog fns) sums0 100000 26 [(.agg #[(.int .i64 4), (.string ⟨#[110, 105, 108]⟩), (.int .i64 0), (.slice none 0 0), (.slice none 0 0)]), (.agg #[(.int .i64 4), (.string ⟨#[110, 105, 108]⟩), (.int .i64 0), (.slice none 0 0), (.slice none 0 0)])] (Sh.memG Tryd.prog [])) = true := by kernel_rfl
def sums1 : Sh.Sums := fun f => if f = 26 then [([(.agg #[(.int .i64 0), (.string ⟨#[]⟩), (.int .i64 0), (.slice none 0 0), (.slice none 0 0)]), (.agg #[(.int .i64 0), (.string ⟨#[]⟩), (.int .i64 0), (.slice none 0 0), (.slice none 0 0)])], (.bool true)), ([(.agg #[(.int .i64 1), (.string ⟨#[105, 110, 116]⟩), (.int .i64 0), (.slice none 0 0), (.slice none 0 0)]), (.agg #[(.int .i64 1), (.string ⟨#[105, 110, 116]⟩), (.int .i64 0), (.slice none 0 0), (.slice none 0 0)])], (.bool true)), ([(.agg #[(.int .i64 2), (.string ⟨#[98, 111, 111, 108]⟩), (.int .i64 0), (.slice none 0 0), (.slice none 0 0)]), (.agg #[(.int .i64 2), (.string ⟨#[98, 111, 111, 108]⟩), (.int .i64 0), (.slice none 0 0), (.slice none 0 0)])], (.bool true)), ([(.agg #[(.int .i64 3), (.string ⟨#[115, 116, 114, 105, 110, 103]⟩), (.int .i64 0), (.slice none 0 0), (.slice none 0 0)]), (.agg #[(.int .i64 3), (.string ⟨#[115, 116, 114, 105, 110, 103]⟩), (.int .i64 0), (.slice none 0 0), (.slice none 0 0)])], (.bool true)), ([(.agg #[(.int .i64 4), (.string ⟨#[110, 105, 108]⟩), (.int .i64 0), (.slice none 0 0), (.slice none 0 0)]), (.agg #[(.int .i64 4), (.string ⟨#[110, 105, 108]⟩), (.int .i64 0), (.slice none 0 0), (.slice none 0 0)])], (.bool true))] else sums0 f
theorem sumsOk1 : Sh.SumsOk Tryd.prog sums1 := by
  intro f p hp
  unfold sums1 at hp
  split at hp
  · rename_i hf
    subst hf
    simp only [List.mem_cons, List.not_mem_nil, or_false] at hp
    rcases hp with rfl | rfl | rfl | rfl | rfl
    · exact ⟨by kernel_rfl, by kernel_rfl, ⟨Tryd.f26, Tryd.func26, by kernel_rfl, by kernel_rfl⟩, fun w => Sh.closed_val mixed (Sh.tab_ok tab) sumsOk0 100000 26 Tryd.func26 (by kernel_rfl) (gs := []) (by kernel_rfl) (by kernel_rfl) sum26_0 w (fun p hp => by simp at hp)⟩
    · exact ⟨by kernel_rfl, by kernel_rfl, ⟨Tryd.f26, Tryd.func26, by kernel_rfl, by kernel_rfl⟩, fun w => Sh.closed_val mixed (Sh.tab_ok tab) sumsOk0 100000 26 Tryd.func26 (by kernel_rfl) (gs := []) (by kernel_rfl) (by kernel_rfl) sum26_1 w (fun p hp => by simp at hp)⟩
    · exact ⟨by kernel_rfl, by kernel_rfl, ⟨Tryd.f26, Tryd.func26, by kernel_rfl, by kernel_rfl⟩, fun w => Sh.closed_val mixed (Sh.tab_ok tab) sumsOk0 100000 26 Tryd.func26 (by kernel_rfl) (gs := []) (by kernel_rfl) (by kernel_rfl) sum26_2 w (fun p hp => by simp at hp)⟩
    · exact ⟨by kernel_rfl, by kernel_rfl, ⟨Tryd.f26, Tryd.func26, by kernel_rfl, by kernel_rfl⟩, fun w => Sh.closed_val mixed (Sh.tab_ok tab) sumsOk0 100000 26 Tryd.func26 (by kernel_rfl) (gs := []) (by kernel_rfl) (by kernel_rfl) sum26_3 w (fun p hp => by simp at hp)⟩
    · exact ⟨by kernel_rfl, by kernel_rfl, ⟨Tryd.f26, Tryd.func26, by kernel_rfl, by kernel_rfl⟩, fun w => Sh.closed_val mixed (Sh.tab_ok tab) sumsOk0 100000 26 Tryd.func26 (by kernel_rfl) (gs := []) (by kernel_rfl) (by kernel_rfl) sum26_4 w (fun p hp => by simp at hp)⟩
  · exact sumsOk0 f p hp
theorem sum29_0 : Sh.isVal (.string ⟨#[66, 105, 116]⟩) (Sh.call Tryd.prog (Sh.tabOf Tryd.prog fns) sums1 100000 29 [(.int .i64 2)] (Sh.memG Tryd.prog [])) = true := by kernel_rfl
theorem sum29_1 : Sh.isVal (.string ⟨#[78, 101, 103]⟩) (Sh.call Tryd.prog (Sh.tabOf Tryd.prog fns) sums1 100000 29 [(.int .i64 13)] (Sh.memG Tryd.prog [])) = true := by kernel_rfl
theorem sum29_2 : Sh.isVal (.string ⟨#[80, 111, 112]⟩) (Sh.call Tryd.prog (Sh.tabOf Tryd.prog fns) sums1 100000 29 [(.int .i64 7)] (Sh.memG Tryd.prog [])) = true := by kernel_rfl
theorem sum29_3 : Sh.isVal (.string ⟨#[82, 101, 116]⟩) (Sh.call Tryd.prog (Sh.tabOf Tryd.prog fns) sums1 100000 29 [(.int .i64 41)] (Sh.memG Tryd.prog [])) = true := by kernel_rfl
theorem sum29_4 : Sh.isVal (.string ⟨#[76, 111, 97, 100]⟩) (Sh.call Tryd.prog (Sh.tabOf Tryd.prog fns) sums1 100000 29 [(.int .i64 5)] (Sh.memG Tryd.prog [])) = true := by kernel_rfl
theorem sum29_5 : Sh.isVal (.string ⟨#[74, 117, 109, 112, 78, 111]⟩) (Sh.call Tryd.prog (Sh.tabOf Tryd.prog fns) sums1 100000 29 [(.int .i64 27)] (Sh.memG Tryd.prog [])) = true := by kernel_rfl
theorem sum29_6 : Sh.isVal (.string ⟨#[74, 117, 109, 112]⟩) (Sh.call Tryd.prog (Sh.tabOf Tryd.prog fns) sums1 100000 29 [(.int .i64 26)] (Sh.memG Tryd.prog [])) = true := by kernel_rfl
def sums2 : Sh.Sums := fun f => if f = 29 then [([(.int .i64 2)], (.string ⟨#[66, 105, 116]⟩)), ([(.int .i64 13)], (.string ⟨#[78, 101, 103]⟩)), ([(.int .i64 7)], (.string ⟨#[80, 111, 112]⟩)), ([(.int .i64 41)], (.string ⟨#[82, 101, 116]⟩)), ([(.int .i64 5)], (.string ⟨#[76, 111, 97, 100]⟩)), ([(.int .i64 27)], (.string ⟨#[74, 117, 109, 112, 78, 111]⟩)), ([(.int .i64 26)], (.string ⟨#[74, 117, 109, 112]⟩))] else sums1 f
theorem sumsOk2 : Sh.SumsOk Tryd.prog sums2 := by
  intro f p hp
  unfold sums2 at hp
  split at hp
  · rename_i hf
    subst hf
    simp only [List.mem_cons, List.not_mem_nil, or_false] at hp
    rcases hp with rfl | rfl | rfl | rfl | rfl | rfl | rfl
    · exact ⟨by kernel_rfl, by kernel_rfl, ⟨Tryd.f29, Tryd.func29, by kernel_rfl, by kernel_rfl⟩, fun w => Sh.closed_val mixed (Sh.tab_ok tab) sumsOk1 100000 29 Tryd.func29 (by kernel_rfl) (gs := []) (by kernel_rfl) (by kernel_rfl) sum29_0 w (fun p hp => by simp at hp)⟩
    · exact ⟨by kernel_rfl, by kernel_rfl, ⟨Tryd.f29, Tryd.func29, by kernel_rfl, by kernel_rfl⟩, fun w => Sh.closed_val mixed (Sh.tab_ok tab) sumsOk1 100000 29 Tryd.func29 (by kernel_rfl) (gs := []) (by kernel_rfl) (by kernel_rfl) sum29_1 w (fun p hp => by simp at hp)⟩
    · exact ⟨by kernel_rfl, by kernel_rfl, ⟨Tryd.f29, Tryd.func29, by kernel_rfl, by kernel_rfl⟩, fun w => Sh.closed_val mixed (Sh.tab_ok tab) sumsOk1 100000 29 Tryd.func29 (by kernel_rfl) (gs := []) (by kernel_rfl) (by kernel_rfl) sum29_2 w (fun p hp => by simp at hp)⟩
    · exact ⟨by kernel_rfl, by kernel_rfl, ⟨Tryd.f29, Tryd.func29, by kernel_rfl, by kernel_rfl⟩, fun w => Sh.closed_val mixed (Sh.tab_ok tab) sumsOk1 100000 29 Tryd.func29 (by kernel_rfl) (gs := []) (by kernel_rfl) (by kernel_rfl) sum29_3 w (fun p hp => by simp at hp)⟩
    · exact ⟨by kernel_rfl, by kernel_rfl, ⟨Tryd.f29, Tryd.func29, by kernel_rfl, by kernel_rfl⟩, fun w => Sh.closed_val mixed (Sh.tab_ok tab) sumsOk1 100000 29 Tryd.func29 (by kernel_rfl) (gs := []) (by kernel_rfl) (by kernel_rfl) sum29_4 w (fun p hp => by simp at hp)⟩
    · exact ⟨by kernel_rfl, by kernel_rfl, ⟨Tryd.f29, Tryd.func29, by kernel_rfl, by kernel_rfl⟩, fun w => Sh.closed_val mixed (Sh.tab_ok tab) sumsOk1 100000 29 Tryd.func29 (by kernel_rfl) (gs := []) (by kernel_rfl) (by kernel_rfl) sum29_5 w (fun p hp => by simp at hp)⟩
    · exact ⟨by kernel_rfl, by kernel_rfl, ⟨Tryd.f29, Tryd.func29, by kernel_rfl, by kernel_rfl⟩, fun w => Sh.closed_val mixed (Sh.tab_ok tab) sumsOk1 100000 29 Tryd.func29 (by kernel_rfl) (gs := []) (by kernel_rfl) (by kernel_rfl) sum29_6 w (fun p hp => by simp at hp)⟩
  · exact sumsOk1 f p hp
theorem sum8_0 : Sh.isVal (.bool true) (Sh.call Tryd.prog (Sh.tabOf Tryd.prog fns) sums2 100000 8 [] (Sh.memG Tryd.prog [])) = true := by kernel_rfl
def sums3 : Sh.Sums := fun f => if f = 8 then [([], (.bool true))] else sums2 f
theorem sumsOk3 : Sh.SumsOk Tryd.prog sums3 := by
  intro f p hp
  unfold sums3 at hp
  split at hp
  · rename_i hf
    subst hf
    simp only [List.mem_cons, List.not_mem_nil, or_false] at hp
    subst hp
    · exact ⟨by kernel_rfl, by kernel_rfl, ⟨Tryd.f8, Tryd.func8, by kernel_rfl, by kernel_rfl⟩, fun w => Sh.closed_val mixed (Sh.tab_ok tab) sumsOk2 100000 8 Tryd.func8 (by kernel_rfl) (gs := []) (by kernel_rfl) (by kernel_rfl) sum8_0 w (fun p hp => by simp at hp)⟩
  · exact sumsOk2 f p hp
def sums : Sh.Sums := sums3
theorem sumsOk : Sh.SumsOk Tryd.prog sums := sumsOk3
theorem run : Sh.isVal (.bool true) (Sh.call Tryd.prog (Sh.tabOf Tryd.prog fns) sums 100000 3 [] (Sh.memG Tryd.prog tables)) = true := by kernel_rfl

theorem walk (w : World) (_h : laidMetH Tryd.prog Rows.verifyKnownRow.laid w) : Calls Tryd.prog 3 #[] w fun e w' => e = .returned (.bool true) ∧ Below w.heap.size w w' :=
  Sh.closed_val mixed (Sh.tab_ok tab) sumsOk 100000 3 Tryd.func3 (by kernel_rfl) (args := []) (by kernel_rfl) (by kernel_rfl) run w (fun p hp => by simp [tables] at hp)

theorem contract (H : Type) (enc : TypeId × Value → H) (W : World) (base : Nat) (args : Array Value) (ds gs : List (DataW H)) (before : List MemPlace)
    (hW : DataW.Whole enc Tryd.prog Tryd.f3.params.toList Rows.verifyKnownSpec.vars false W args.toList ds gs before) (hL : laidMetH Tryd.prog Rows.verifyKnownRow.laid W) :
    Calls Tryd.prog 3 args W fun e W' => ∃ v, e = .returned v ∧ Rows.verifyKnownSpec.post enc Tryd.prog Tryd.f3 false true false false W args v W' := by
  have hW' := hW
  obtain ⟨p, q, hA0, hV, rfl, hfz, hnd⟩ := hW
  have hA : DataW.TrodAll enc Tryd.prog W 0 (fun _ => true) true Tryd.f3.params.toList args.toList ds p := hA0
  rw [Tryd.params3] at hA
  obtain ⟨rfl, rfl, rfl⟩ := trodAll_none hA
  obtain ⟨rfl, rfl⟩ := trodVars_none hV
  clear hA0
  simp only [List.append_nil] at hW'
  refine (walk W hL).mono fun e W' ⟨he, hg⟩ => ?_
  subst he
  exact ⟨_, rfl, Sh.law_post (pa := []) (pv := []) hW' hg rfl (fun sp _ => rfl) (fun _ _ => rfl) (fun _ _ _ => (trodAll_cons_mk (shut_bool Tryd.underlying4 _) trodAll_mk0))
    (ok_one (by kernel_rfl) rfl (okWide_bool_mk Tryd.underlying4 _))⟩

/-- A world for the witness: the settled one, the listed variables holding what is laid. -/
noncomputable def laidWorld (os : Os) : World :=
  { World.holding Tryd.prog os ⟨#[], #[], []⟩ with heap := (((World.holding Tryd.prog os ⟨#[], #[], []⟩).heap).modify 2 (Sh.laidBlock (Rows.laid_unicode_utf8_acceptRanges : DataW Unit))).modify 1 (Sh.laidBlock (Rows.laid_unicode_utf8_first : DataW Unit)) }
theorem laid_met (os : Os) : laidMet Tryd.prog Rows.verifyKnownRow.laid ((laidWorld os).forCall (fun _ _ => 0) ⟨#[], #[], []⟩).memory :=
  laidMet_of_run' 8 (by kernel_rfl) (by kernel_rfl)
theorem reads (os : Os) {H : Type} (enc : TypeId × Value → H) : ∃ places, DataW.whole enc Tryd.prog ((laidWorld os).forCall (fun _ _ => 0) ⟨#[], #[], []⟩).memory Tryd.f3.params.toList Rows.verifyKnownSpec.vars false (#[] : Array Value).toList 8 = some ([], [], places) :=
  ⟨[], by kernel_rfl⟩

theorem lifted (os : Os) (started : os.Started) (H : Type) (enc : TypeId × Value → H) (F : Stop.Interp) :
    ReturnsInHanded {} Tryd.checked os 3 .any ((OpenSpec.ofChange Rows.verifyKnownSpec).preRow enc Tryd.prog Tryd.f3 Rows.verifyKnownRow.domain false Rows.verifyKnownRow.laid) (((OpenSpec.ofChange Rows.verifyKnownSpec).at F).post enc Tryd.prog Tryd.f3 false true false false) := by
  obtain ⟨places, hx⟩ := reads os enc
  refine returnsInHanded_of_row (C := Tryd.checked) (s := OpenSpec.ofChange Rows.verifyKnownSpec) own started (by kernel_rfl) Tryd.func3
    (witness_row_at (enc := enc) (C := Tryd.checked) false (laidWorld os) #[] rfl (by kernel_rfl) (by kernel_rfl) (by kernel_rfl)
      (OpenSpec.preRow_of_cond 8 hx (by kernel_rfl) (fun k hk => by cases hk) (by kernel_rfl) (laid_met os))) ?_
  intro W base args ds gs before hval hW _ _ _ hL _ _
  exact contract H enc W base args ds gs before hW hL

theorem said : Rows.VerifyKnownSaid :=
  OpenClaim.holds_of_cond 3 Tryd.f3 rfl rfl rfl rfl rfl rfl rfl ⟨rfl, rfl, rfl, rfl, rfl⟩ rfl rfl rfl rfl rfl (by kernel_rfl) Tryd.func3 (by kernel_rfl)
    (of_decide_eq_true (by kernel_rfl)) (by unfold Func.isWrapper; first | (rw [if_pos (by decide +kernel)]; kernel_rfl) | (rw [if_neg (by decide +kernel)]; exact ⟨rfl, rfl⟩))
    (fun os started H enc _ F => by rw [OpenClaim.pre_eq_preRow]; exact lifted os started H enc F)

theorem plain (f : FuncId) (fn : Func) (hf : Tryd.pinned.checked.prog.funcNamed "turnstone/turnstonelaw9.VerifyKnown" = some f) (hfn : Tryd.pinned.checked.prog.funcs[f]? = some fn) :
    true = Tryd.pinned.checked.prog.looks [] ∧ ∀ (j : Nat) t, fn.params[j]? = some t → Tryd.pinned.checked.prog.wantsStandIn t = false := by
  obtain rfl : f = 3 := Option.some.inj ((show Tryd.prog.funcNamed "turnstone/turnstonelaw9.VerifyKnown" = some 3 by kernel_rfl).symm.trans hf) |>.symm
  obtain rfl : fn = Tryd.f3 := (Option.some.inj (Tryd.func3.symm.trans hfn)).symm
  refine ⟨by kernel_rfl, fun j t ht => ?_⟩
  rw [Tryd.params3] at ht
  simp at ht

theorem proved : Rows.VerifyKnownCardSaid :=
  Claim7.holds_tied_plain_at .later [] _ _ _ _ said (fun _ h => by cases h) (by kernel_rfl) (fun _ h => by cases h) verifyKnown_row_tie rfl ⟨rfl, rfl⟩ (by kernel_rfl) rfl plain (by kernel_rfl)
#print axioms proved
end Go.Proofs.YtbldiceiindbdaaDoor.verifyKnown
