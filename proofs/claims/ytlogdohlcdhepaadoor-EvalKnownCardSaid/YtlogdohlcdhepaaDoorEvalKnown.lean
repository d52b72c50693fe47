/-
  This text proves 'Rows.EvalKnownCardSaid': the closed law 'EvalKnown' returns true, in whatever memory and on every tape.
  The condition is the card's own: the listed package-level variables hold what the program's text lays.
-/
import Derived.Test.YtlogdohlcdhepaaDoorCards
import Derived.Test.YtlogdohlcdhepaaDoorTie
import Derived.Test.YtlogdohlcdhepaaDoorShB
import Derived.Deep.DeepHandedRow
import Derived.Lib.LaidTab
namespace Go.Proofs.YtlogdohlcdhepaaDoor.evalKnown
open Go.ChangeShapes Go.WideShapes Go.ChangeAt Go.RowKit
set_option linter.unusedVariables false
set_option maxRecDepth 100000

theorem own : ownKnob Tryd.prog.godebug = none := by kernel_rfl

def fns : List FuncId := [3, 9, 10, 11, 12, 22, 25, 26, 27, 28, 29, 46, 47, 48, 49, 50, 51, 52, 53, 54, 57, 58, 61, 64, 65, 66, 67, 68, 70, 71, 72, 74, 75, 76, 80, 81, 82, 83, 84, 86, 87, 90, 91, 93, 97]
theorem mixed : Tryd.prog.follows .mixedOrders = true := by kernel_rfl
theorem tab : Sh.tabCheck Tryd.prog fns = true := by kernel_rfl
def tables : List (Nat × List Value) := []
def sums0 : Sh.Sums := Sh.noSums
theorem sumsOk0 : Sh.SumsOk Tryd.prog sums0 := Sh.noSums_ok _
theorem sum66_0 : Sh.isVal (.string ⟨#[80, 97, 114, 97, 109]⟩) (Sh.call Tryd.prog (Sh.tabOf Tryd.prog fns) sums0 100000 66 [(.int .i64 1)] (Sh.memG Tryd.prog [])) = true := by kernel_rfl
theorem sum66_1 : Sh.isVal (.string ⟨#[67, 111, 110, 115, 116]⟩) (Sh.call Tryd.prog (Sh.tabOf Tryd.prog fns) sums0 100000 66 [(.int .i64 2)] (Sh.memG Tryd.prog [])) = true := by kernel_rfl
theorem sum66_2 : Sh.isVal (.string ⟨#[65, 100, 100]⟩) (Sh.call Tryd.prog (Sh.tabOf Tryd.prog fns) sums0 100000 66 [(.int .i64 3)] (Sh.memG Tryd.prog [])) = true := by kernel_rfl
theorem sum66_3 : Sh.isVal (.string ⟨#[80, 111, 108, 108]⟩) (Sh.call Tryd.prog (Sh.tabOf Tryd.prog fns) sums0 100000 66 [(.int .i64 23)] (Sh.memG Tryd.prog [])) = true := by kernel_rfl
theorem sum66_4 : Sh.isVal (.string ⟨#[71, 117, 97, 114, 100]⟩) (Sh.call Tryd.prog (Sh.tabOf Tryd.prog fns) sums0 100000 66 [(.int .i64 22)] (Sh.memG Tryd.prog [])) = true := by kernel_rfl
def sums1 : Sh.Sums := fun f => if f = 66 then [([(.int .i64 1)], (.string ⟨#[80, 97, 114, 97, 109]⟩)), ([(.int .i64 2)], (.string ⟨#[67, 111, 110, 115, 116]⟩)), ([(.int .i64 3)], (.string ⟨#[65, 100, 100]⟩)), ([(.int .i64 23)], (.string ⟨#[80, 111, 108, 108]⟩)), ([(.int .i64 22)], (.string ⟨#[71, 117, 97, 114, 100]⟩))] else sums0 f
theorem sumsOk1 : Sh.SumsOk Tryd.prog sums1 := by
  intro f p hp
  unfold sums1 at hp
  split at hp
  · rename_i hf
    subst hf
    simp only [List.mem_cons, List.not_mem_nil, or_false] at hp
    rcases hp with rfl | rfl | rfl | rfl | rfl
    · exact ⟨by kernel_rfl, by kernel_rfl, ⟨Tryd.f66, Tryd.func66, by kernel_rfl, by kernel_rfl⟩, fun w => Sh.closed_val mixed (Sh.tab_ok tab) sumsOk0 100000 66 Tryd.func66 (by kernel_rfl) (gs := []) (by kernel_rfl) (by kernel_rfl) sum66_0 w (fun p hp => by simp at hp)⟩
    · exact ⟨by kernel_rfl, by kernel_rfl, ⟨Tryd.f66, Tryd.func66, by kernel_rfl, by kernel_rfl⟩, fun w => Sh.closed_val mixed (Sh.tab_ok tab) sumsOk0 100000 66 Tryd.func66 (by kernel_rfl) (gs := []) (by kernel_rfl) (by kernel_rfl) sum66_1 w (fun p hp => by simp at hp)⟩
    · exact ⟨by kernel_rfl, by kernel_rfl, ⟨Tryd.f66, Tryd.func66, by kernel_rfl, by kernel_rfl⟩, fun w => Sh.closed_val mixed (Sh.tab_ok tab) sumsOk0 100000 66 Tryd.func66 (by kernel_rfl) (gs := []) (by kernel_rfl) (by kernel_rfl) sum66_2 w (fun p hp => by simp at hp)⟩
    · exact ⟨by kernel_rfl, by kernel_rfl, ⟨Tryd.f66, Tryd.func66, by kernel_rfl, by kernel_rfl⟩, fun w => Sh.closed_val mixed (Sh.tab_ok tab) sumsOk0 100000 66 Tryd.func66 (by kernel_rfl) (gs := []) (by kernel_rfl) (by kernel_rfl) sum66_3 w (fun p hp => by simp at hp)⟩
    · exact ⟨by kernel_rfl, by kernel_rfl, ⟨Tryd.f66, Tryd.func66, by kernel_rfl, by kernel_rfl⟩, fun w => Sh.closed_val mixed (Sh.tab_ok tab) sumsOk0 100000 66 Tryd.func66 (by kernel_rfl) (gs := []) (by kernel_rfl) (by kernel_rfl) sum66_4 w (fun p hp => by simp at hp)⟩
  · exact sumsOk0 f p hp
theorem sum12_0 : Sh.isVal (.bool true) (Sh.call Tryd.prog (Sh.tabOf Tryd.prog fns) sums1 100000 12 [] (Sh.memG Tryd.prog [])) = true := by kernel_rfl
def sums2 : Sh.Sums := fun f => if f = 12 then [([], (.bool true))] else sums1 f
theorem sumsOk2 : Sh.SumsOk Tryd.prog sums2 := by
  intro f p hp
  unfold sums2 at hp
  split at hp
  · rename_i hf
    subst hf
    simp only [List.mem_cons, List.not_mem_nil, or_false] at hp
    subst hp
    · exact ⟨by kernel_rfl, by kernel_rfl, ⟨Tryd.f12, Tryd.func12, by kernel_rfl, by kernel_rfl⟩, fun w => Sh.closed_val mixed (Sh.tab_ok tab) sumsOk1 100000 12 Tryd.func12 (by kernel_rfl) (gs := []) (by kernel_rfl) (by kernel_rfl) sum12_0 w (fun p hp => by simp at hp)⟩
  · exact sumsOk1 f p hp
def sums : Sh.Sums := sums2
theorem sumsOk : Sh.SumsOk Tryd.prog sums := sumsOk2
theorem run : Sh.isVal (.bool true) (Sh.call Tryd.prog (Sh.tabOf Tryd.prog fns) sums 100000 3 [] (Sh.memG Tryd.prog tables)) = true := by kernel_rfl

theorem walk (w : World) (_h : laidMetH Tryd.prog Rows.evalKnownRow.laid w) : Calls Tryd.prog 3 #[] w fun e w' => e = .returned (.bool true) ∧ Below w.heap.size w w' :=
  Sh.closed_val mixed (Sh.tab_ok tab) sumsOk 100000 3 Tryd.func3 (by kernel_rfl) (args := []) (by kernel_rfl) (by kernel_rfl) run w (fun p hp => by simp [tables] at hp)

theorem contract (H : Type) (enc : TypeId × Value → H) (W : World) (base : Nat) (args : Array Value) (ds gs : List (DataW H)) (before : List MemPlace)
    (hW : DataW.Whole enc Tryd.prog Tryd.f3.params.toList Rows.evalKnownSpec.vars false W args.toList ds gs before) (hL : laidMetH Tryd.prog Rows.evalKnownRow.laid W) :
    Calls Tryd.prog 3 args W fun e W' => ∃ v, e = .returned v ∧ Rows.evalKnownSpec.post enc Tryd.prog Tryd.f3 false true false false W args v W' := by
  have hW' := hW
  obtain ⟨p, q, hA0, hV, rfl, hfz, hnd⟩ := hW
  have hA : DataW.TrodAll enc Tryd.prog W 0 (fun _ => true) true Tryd.f3.params.toList args.toList ds p := hA0
  rw [Tryd.params3] at hA
  obtain ⟨rfl, rfl, rfl⟩ := trodAll_none hA
  obtain ⟨rfl, rfl⟩ := trodVars_none hV
  clear hA0
  simp only [List.append_nil] at hW'
  refine (walk W hL).mono fun e W' ⟨he, hg⟩ => ?_
  subst he
  exact ⟨_, rfl, Sh.law_post (pa := []) (pv := []) hW' hg rfl (fun sp _ => rfl) (fun _ _ => rfl) (fun _ _ _ => (trodAll_cons_mk (shut_bool Tryd.underlying4 _) trodAll_mk0))
    (ok_one (by kernel_rfl) rfl (okWide_bool_mk Tryd.underlying4 _))⟩

/-- A world for the witness: the settled one, the listed variables holding what is laid. -/
noncomputable def laidWorld (os : Os) : World :=
  { World.holding Tryd.prog os ⟨#[], #[], []⟩ with heap := (((World.holding Tryd.prog os ⟨#[], #[], []⟩).heap).modify 2 (Sh.laidBlock (Rows.laid_unicode_utf8_acceptRanges : DataW Unit))).modify 1 (Sh.laidBlock (Rows.laid_unicode_utf8_first : DataW Unit)) }
theorem laid_met (os : Os) : laidMet Tryd.prog Rows.evalKnownRow.laid ((laidWorld os).forCall (fun _ _ => 0) ⟨#[], #[], []⟩).memory :=
  laidMet_of_run' 8 (by kernel_rfl) (by kernel_rfl)
theorem reads (os : Os) {H : Type} (enc : TypeId × Value → H) : ∃ places, DataW.whole enc Tryd.prog ((laidWorld os).forCall (fun _ _ => 0) ⟨#[], #[], []⟩).memory Tryd.f3.params.toList Rows.evalKnownSpec.vars false (#[] : Array Value).toList 8 = some ([], [], places) :=
  ⟨[], by kernel_rfl⟩

theorem lifted (os : Os) (started : os.Started) (H : Type) (enc : TypeId × Value → H) (F : Stop.Interp) :
    ReturnsInHanded {} Tryd.checked os 3 .any ((OpenSpec.ofChange Rows.evalKnownSpec).preRow enc Tryd.prog Tryd.f3 Rows.evalKnownRow.domain false Rows.evalKnownRow.laid) (((OpenSpec.ofChange Rows.evalKnownSpec).at F).post enc Tryd.prog Tryd.f3 false true false false) := by
  obtain ⟨places, hx⟩ := reads os enc
  refine returnsInHanded_of_row (C := Tryd.checked) (s := OpenSpec.ofChange Rows.evalKnownSpec) own started (by kernel_rfl) Tryd.func3
    (witness_row_at (enc := enc) (C := Tryd.checked) false (laidWorld os) #[] rfl (by kernel_rfl) (by kernel_rfl) (by kernel_rfl)
      (OpenSpec.preRow_of_cond 8 hx (by kernel_rfl) (fun k hk => by cases hk) (by kernel_rfl) (laid_met os))) ?_
  intro W base args ds gs before hval hW _ _ _ hL _ _
  exact contract H enc W base args ds gs before hW hL

theorem said : Rows.EvalKnownSaid :=
  OpenClaim.holds_of_cond 3 Tryd.f3 rfl rfl rfl rfl rfl rfl rfl ⟨rfl, rfl, rfl, rfl, rfl⟩ rfl rfl rfl rfl rfl (by kernel_rfl) Tryd.func3 (by kernel_rfl)
    (of_decide_eq_true (by kernel_rfl)) (by unfold Func.isWrapper; first | (rw [if_pos (by decide +kernel)]; kernel_rfl) | (rw [if_neg (by decide +kernel)]; exact ⟨rfl, rfl⟩))
    (fun os started H enc _ F => by rw [OpenClaim.pre_eq_preRow]; exact lifted os started H enc F)

theorem plain (f : FuncId) (fn : Func) (hf : Tryd.pinned.checked.prog.funcNamed "turnstone/turnstonelaw16.EvalKnown" = some f) (hfn : Tryd.pinned.checked.prog.funcs[f]? = some fn) :
    false = Tryd.pinned.checked.prog.looks [] ∧ ∀ (j : Nat) t, fn.params[j]? = some t → Tryd.pinned.checked.prog.wantsStandIn t = false := by
  obtain rfl : f = 3 := Option.some.inj ((show Tryd.prog.funcNamed "turnstone/turnstonelaw16.EvalKnown" = some 3 by kernel_rfl).symm.trans hf) |>.symm
  obtain rfl : fn = Tryd.f3 := (Option.some.inj (Tryd.func3.symm.trans hfn)).symm
  refine ⟨by kernel_rfl, fun j t ht => ?_⟩
  rw [Tryd.params3] at ht
  simp at ht

theorem proved : Rows.EvalKnownCardSaid :=
  Claim7.holds_tied_plain_at .later [] _ _ _ _ said (fun _ h => by cases h) (by kernel_rfl) (fun _ h => by cases h) evalKnown_row_tie rfl ⟨rfl, rfl⟩ (by kernel_rfl) rfl plain (by kernel_rfl)
#print axioms proved
end Go.Proofs.YtlogdohlcdhepaaDoor.evalKnown
