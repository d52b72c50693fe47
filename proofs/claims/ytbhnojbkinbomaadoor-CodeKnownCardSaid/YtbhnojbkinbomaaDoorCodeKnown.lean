/-
  This text proves 'Rows.CodeKnownCardSaid': the closed law 'CodeKnown' returns true, in whatever memory and on every tape.
  The condition is the card's own: the listed package-level variables hold what the program's text lays.
-/
import Derived.Test.YtbhnojbkinbomaaDoorCards
import Derived.Test.YtbhnojbkinbomaaDoorTie
import Derived.Test.YtbhnojbkinbomaaDoorShB
import Derived.Deep.DeepHandedRow
import Derived.Lib.LaidTab
namespace Go.Proofs.YtbhnojbkinbomaaDoor.codeKnown
open Go.ChangeShapes Go.WideShapes Go.ChangeAt Go.RowKit
set_option linter.unusedVariables false
set_option maxRecDepth 100000

theorem own : ownKnob Tryd.prog.godebug = none := by kernel_rfl

def fns : List FuncId := [6, 8, 10, 12, 13, 15, 17, 19, 20, 21, 22, 23, 24, 26, 27, 28, 31, 32, 33, 34, 37, 38, 39, 44, 53]
theorem mixed : Tryd.prog.follows .mixedOrders = true := by kernel_rfl
theorem tab : Sh.tabCheck Tryd.prog fns = true := by kernel_rfl
def tables : List (Nat × List Value) := []
def sums0 : Sh.Sums := Sh.noSums
theorem sumsOk0 : Sh.SumsOk Tryd.prog sums0 := Sh.noSums_ok _
def sums : Sh.Sums := sums0
theorem sumsOk : Sh.SumsOk Tryd.prog sums := sumsOk0
theorem run : Sh.isVal (.bool true) (Sh.call Tryd.prog (Sh.tabOf Tryd.prog fns) sums 100000 6 [] (Sh.memG Tryd.prog tables)) = true := by kernel_rfl

theorem walk (w : World) (_h : laidMetH Tryd.prog Rows.codeKnownRow.laid w) : Calls Tryd.prog 6 #[] w fun e w' => e = .returned (.bool true) ∧ Below w.heap.size w w' :=
  Sh.closed_val mixed (Sh.tab_ok tab) sumsOk 100000 6 Tryd.func6 (by kernel_rfl) (args := []) (by kernel_rfl) (by kernel_rfl) run w (fun p hp => by simp [tables] at hp)

theorem contract (H : Type) (enc : TypeId × Value → H) (W : World) (base : Nat) (args : Array Value) (ds gs : List (DataW H)) (before : List MemPlace)
    (hW : DataW.Whole enc Tryd.prog Tryd.f6.params.toList Rows.codeKnownSpec.vars false W args.toList ds gs before) (hL : laidMetH Tryd.prog Rows.codeKnownRow.laid W) :
    Calls Tryd.prog 6 args W fun e W' => ∃ v, e = .returned v ∧ Rows.codeKnownSpec.post enc Tryd.prog Tryd.f6 false true false false W args v W' := by
  have hW' := hW
  obtain ⟨p, q, hA0, hV, rfl, hfz, hnd⟩ := hW
  have hA : DataW.TrodAll enc Tryd.prog W 0 (fun _ => true) true Tryd.f6.params.toList args.toList ds p := hA0
  rw [Tryd.params6] at hA
  obtain ⟨rfl, rfl, rfl⟩ := trodAll_none hA
  obtain ⟨rfl, rfl⟩ := trodVars_none hV
  clear hA0
  simp only [List.append_nil] at hW'
  refine (walk W hL).mono fun e W' ⟨he, hg⟩ => ?_
  subst he
  exact ⟨_, rfl, Sh.law_post (pa := []) (pv := []) hW' hg rfl (fun sp _ => rfl) (fun _ _ => rfl) (fun _ _ _ => (trodAll_cons_mk (shut_bool Tryd.underlying4 _) trodAll_mk0))
    (ok_one (by kernel_rfl) rfl (okWide_bool_mk Tryd.underlying4 _))⟩

/-- A world for the witness: the settled one, the listed variables holding what is laid. -/
noncomputable def laidWorld (os : Os) : World :=
  { World.holding Tryd.prog os ⟨#[], #[], []⟩ with heap := ((((((World.holding Tryd.prog os ⟨#[], #[], []⟩).heap).modify 5 (Sh.laidBlock (Rows.laid_math_bits_deBruijn32tab : DataW Unit))).modify 6 (Sh.laidBlock (Rows.laid_math_bits_deBruijn64tab : DataW Unit))).modify 2 (Sh.laidBlock (Rows.laid_internal_strconv_uint64pow10 : DataW Unit))).modify 4 (Sh.laidBlock (Rows.laid_unicode_utf8_acceptRanges : DataW Unit))).modify 3 (Sh.laidBlock (Rows.laid_unicode_utf8_first : DataW Unit)) }
theorem laid_met (os : Os) : laidMet Tryd.prog Rows.codeKnownRow.laid ((laidWorld os).forCall (fun _ _ => 0) ⟨#[], #[], []⟩).memory :=
  laidMet_of_run' 8 (by kernel_rfl) (by kernel_rfl)
theorem reads (os : Os) {H : Type} (enc : TypeId × Value → H) : ∃ places, DataW.whole enc Tryd.prog ((laidWorld os).forCall (fun _ _ => 0) ⟨#[], #[], []⟩).memory Tryd.f6.params.toList Rows.codeKnownSpec.vars false (#[] : Array Value).toList 8 = some ([], [], places) :=
  ⟨[], by kernel_rfl⟩

theorem lifted (os : Os) (started : os.Started) (H : Type) (enc : TypeId × Value → H) (F : Stop.Interp) :
    ReturnsInHanded {} Tryd.checked os 6 .any ((OpenSpec.ofChange Rows.codeKnownSpec).preRow enc Tryd.prog Tryd.f6 Rows.codeKnownRow.domain false Rows.codeKnownRow.laid) (((OpenSpec.ofChange Rows.codeKnownSpec).at F).post enc Tryd.prog Tryd.f6 false true false false) := by
  obtain ⟨places, hx⟩ := reads os enc
  refine returnsInHanded_of_row (C := Tryd.checked) (s := OpenSpec.ofChange Rows.codeKnownSpec) own started (by kernel_rfl) Tryd.func6
    (witness_row_at (enc := enc) (C := Tryd.checked) false (laidWorld os) #[] rfl (by kernel_rfl) (by kernel_rfl) (by kernel_rfl)
      (OpenSpec.preRow_of_cond 8 hx (by kernel_rfl) (fun k hk => by cases hk) (by kernel_rfl) (laid_met os))) ?_
  intro W base args ds gs before hval hW _ _ _ hL _ _
  exact contract H enc W base args ds gs before hW hL

theorem said : Rows.CodeKnownSaid :=
  OpenClaim.holds_of_cond 6 Tryd.f6 rfl rfl rfl rfl rfl rfl rfl ⟨rfl, rfl, rfl, rfl, rfl⟩ rfl rfl rfl rfl rfl (by kernel_rfl) Tryd.func6 (by kernel_rfl)
    (of_decide_eq_true (by kernel_rfl)) (by unfold Func.isWrapper; first | (rw [if_pos (by decide +kernel)]; kernel_rfl) | (rw [if_neg (by decide +kernel)]; exact ⟨rfl, rfl⟩))
    (fun os started H enc _ F => by rw [OpenClaim.pre_eq_preRow]; exact lifted os started H enc F)

theorem plain (f : FuncId) (fn : Func) (hf : Tryd.pinned.checked.prog.funcNamed "turnstone/turnstonelaw7.CodeKnown" = some f) (hfn : Tryd.pinned.checked.prog.funcs[f]? = some fn) :
    false = Tryd.pinned.checked.prog.looks [] ∧ ∀ (j : Nat) t, fn.params[j]? = some t → Tryd.pinned.checked.prog.wantsStandIn t = false := by
  obtain rfl : f = 6 := Option.some.inj ((show Tryd.prog.funcNamed "turnstone/turnstonelaw7.CodeKnown" = some 6 by kernel_rfl).symm.trans hf) |>.symm
  obtain rfl : fn = Tryd.f6 := (Option.some.inj (Tryd.func6.symm.trans hfn)).symm
  refine ⟨by kernel_rfl, fun j t ht => ?_⟩
  rw [Tryd.params6] at ht
  simp at ht

theorem proved : Rows.CodeKnownCardSaid :=
  Claim7.holds_tied_plain_at .later [] _ _ _ _ said (fun _ h => by cases h) (by kernel_rfl) (fun _ h => by cases h) codeKnown_row_tie rfl ⟨rfl, rfl⟩ (by kernel_rfl) rfl plain (by kernel_rfl)
#print axioms proved
end Go.Proofs.YtbhnojbkinbomaaDoor.codeKnown
