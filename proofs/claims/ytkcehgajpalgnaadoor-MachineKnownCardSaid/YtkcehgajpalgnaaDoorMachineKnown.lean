/-
  This text proves 'Rows.MachineKnownCardSaid': the closed law 'MachineKnown' returns true, in whatever memory and on every tape.
  The condition is the card's own: the listed package-level variables hold what the program's text lays.
-/
import Derived.Test.YtkcehgajpalgnaaDoorCards
import Derived.Test.YtkcehgajpalgnaaDoorTie
import Derived.Test.YtkcehgajpalgnaaDoorShB
import Derived.Deep.DeepHandedRow
import Derived.Lib.LaidTab
namespace Go.Proofs.YtkcehgajpalgnaaDoor.machineKnown
open Go.ChangeShapes Go.WideShapes Go.ChangeAt Go.RowKit
set_option linter.unusedVariables false
set_option maxRecDepth 100000

theorem own : ownKnob Tryd.prog.godebug = none := by kernel_rfl

def fns : List FuncId := [4, 10, 12, 16, 17, 18, 19, 20, 31, 32, 33, 40, 42, 43, 44, 45, 49, 51, 56, 57, 60, 61, 63, 67]
theorem mixed : Tryd.prog.follows .mixedOrders = true := by kernel_rfl
theorem tab : Sh.tabCheck Tryd.prog fns = true := by kernel_rfl
def tables : List (Nat × List Value) := []
def sums : Sh.Sums := fun f => if f = 19 then [([(.int .i64 2)], (.string ⟨#[77, 111, 118]⟩)), ([(.int .i64 1)], (.string ⟨#[83, 101, 116]⟩)), ([(.int .i64 5)], (.string ⟨#[65, 100, 100]⟩)), ([(.int .i64 27)], (.string ⟨#[76, 101, 97, 118, 101]⟩)), ([(.int .i64 0)], (.string ⟨#[]⟩)), ([(.int .i64 99)], (.string ⟨#[]⟩))] else ([])
theorem sum19_0 : Sh.isVal (.string ⟨#[77, 111, 118]⟩) (Sh.call Tryd.prog (Sh.tabOf Tryd.prog fns) Sh.noSums 100000 19 [(.int .i64 2)] (Sh.memG Tryd.prog [])) = true := by kernel_rfl
theorem sum19_1 : Sh.isVal (.string ⟨#[83, 101, 116]⟩) (Sh.call Tryd.prog (Sh.tabOf Tryd.prog fns) Sh.noSums 100000 19 [(.int .i64 1)] (Sh.memG Tryd.prog [])) = true := by kernel_rfl
theorem sum19_2 : Sh.isVal (.string ⟨#[65, 100, 100]⟩) (Sh.call Tryd.prog (Sh.tabOf Tryd.prog fns) Sh.noSums 100000 19 [(.int .i64 5)] (Sh.memG Tryd.prog [])) = true := by kernel_rfl
theorem sum19_3 : Sh.isVal (.string ⟨#[76, 101, 97, 118, 101]⟩) (Sh.call Tryd.prog (Sh.tabOf Tryd.prog fns) Sh.noSums 100000 19 [(.int .i64 27)] (Sh.memG Tryd.prog [])) = true := by kernel_rfl
theorem sum19_4 : Sh.isVal (.string ⟨#[]⟩) (Sh.call Tryd.prog (Sh.tabOf Tryd.prog fns) Sh.noSums 100000 19 [(.int .i64 0)] (Sh.memG Tryd.prog [])) = true := by kernel_rfl
theorem sum19_5 : Sh.isVal (.string ⟨#[]⟩) (Sh.call Tryd.prog (Sh.tabOf Tryd.prog fns) Sh.noSums 100000 19 [(.int .i64 99)] (Sh.memG Tryd.prog [])) = true := by kernel_rfl
theorem sumsOk : Sh.SumsOk Tryd.prog sums := by
  intro f p hp
  unfold sums at hp
  split at hp
  · rename_i hf
    subst hf
    simp only [List.mem_cons, List.not_mem_nil, or_false] at hp
    rcases hp with rfl | rfl | rfl | rfl | rfl | rfl
    · exact ⟨by kernel_rfl, by kernel_rfl, ⟨Tryd.f19, Tryd.func19, by kernel_rfl, by kernel_rfl⟩, fun w => Sh.closed_val mixed (Sh.tab_ok tab) (Sh.noSums_ok _) 100000 19 Tryd.func19 (by kernel_rfl) (gs := []) (by kernel_rfl) (by kernel_rfl) sum19_0 w (fun p hp => by simp at hp)⟩
    · exact ⟨by kernel_rfl, by kernel_rfl, ⟨Tryd.f19, Tryd.func19, by kernel_rfl, by kernel_rfl⟩, fun w => Sh.closed_val mixed (Sh.tab_ok tab) (Sh.noSums_ok _) 100000 19 Tryd.func19 (by kernel_rfl) (gs := []) (by kernel_rfl) (by kernel_rfl) sum19_1 w (fun p hp => by simp at hp)⟩
    · exact ⟨by kernel_rfl, by kernel_rfl, ⟨Tryd.f19, Tryd.func19, by kernel_rfl, by kernel_rfl⟩, fun w => Sh.closed_val mixed (Sh.tab_ok tab) (Sh.noSums_ok _) 100000 19 Tryd.func19 (by kernel_rfl) (gs := []) (by kernel_rfl) (by kernel_rfl) sum19_2 w (fun p hp => by simp at hp)⟩
    · exact ⟨by kernel_rfl, by kernel_rfl, ⟨Tryd.f19, Tryd.func19, by kernel_rfl, by kernel_rfl⟩, fun w => Sh.closed_val mixed (Sh.tab_ok tab) (Sh.noSums_ok _) 100000 19 Tryd.func19 (by kernel_rfl) (gs := []) (by kernel_rfl) (by kernel_rfl) sum19_3 w (fun p hp => by simp at hp)⟩
    · exact ⟨by kernel_rfl, by kernel_rfl, ⟨Tryd.f19, Tryd.func19, by kernel_rfl, by kernel_rfl⟩, fun w => Sh.closed_val mixed (Sh.tab_ok tab) (Sh.noSums_ok _) 100000 19 Tryd.func19 (by kernel_rfl) (gs := []) (by kernel_rfl) (by kernel_rfl) sum19_4 w (fun p hp => by simp at hp)⟩
    · exact ⟨by kernel_rfl, by kernel_rfl, ⟨Tryd.f19, Tryd.func19, by kernel_rfl, by kernel_rfl⟩, fun w => Sh.closed_val mixed (Sh.tab_ok tab) (Sh.noSums_ok _) 100000 19 Tryd.func19 (by kernel_rfl) (gs := []) (by kernel_rfl) (by kernel_rfl) sum19_5 w (fun p hp => by simp at hp)⟩
  simp at hp
theorem run : Sh.isVal (.bool true) (Sh.call Tryd.prog (Sh.tabOf Tryd.prog fns) sums 100000 4 [] (Sh.memG Tryd.prog tables)) = true := by kernel_rfl

theorem walk (w : World) (_h : laidMetH Tryd.prog Rows.machineKnownRow.laid w) : Calls Tryd.prog 4 #[] w fun e w' => e = .returned (.bool true) ∧ Below w.heap.size w w' :=
  Sh.closed_val mixed (Sh.tab_ok tab) sumsOk 100000 4 Tryd.func4 (by kernel_rfl) (args := []) (by kernel_rfl) (by kernel_rfl) run w (fun p hp => by simp [tables] at hp)

theorem contract (H : Type) (enc : TypeId × Value → H) (W : World) (base : Nat) (args : Array Value) (ds gs : List (DataW H)) (before : List MemPlace)
    (hW : DataW.Whole enc Tryd.prog Tryd.f4.params.toList Rows.machineKnownSpec.vars false W args.toList ds gs before) (hL : laidMetH Tryd.prog Rows.machineKnownRow.laid W) :
    Calls Tryd.prog 4 args W fun e W' => ∃ v, e = .returned v ∧ Rows.machineKnownSpec.post enc Tryd.prog Tryd.f4 false true false false W args v W' := by
  have hW' := hW
  obtain ⟨p, q, hA0, hV, rfl, hfz, hnd⟩ := hW
  have hA : DataW.TrodAll enc Tryd.prog W 0 (fun _ => true) true Tryd.f4.params.toList args.toList ds p := hA0
  rw [Tryd.params4] at hA
  obtain ⟨rfl, rfl, rfl⟩ := trodAll_none hA
  obtain ⟨rfl, rfl⟩ := trodVars_none hV
  clear hA0
  simp only [List.append_nil] at hW'
  refine (walk W hL).mono fun e W' ⟨he, hg⟩ => ?_
  subst he
  exact ⟨_, rfl, Sh.law_post (pa := []) (pv := []) hW' hg rfl (fun sp _ => rfl) (fun _ _ => rfl) (fun _ _ _ => (trodAll_cons_mk (shut_bool Tryd.underlying4 _) trodAll_mk0))
    (ok_one (by kernel_rfl) rfl (okWide_bool_mk Tryd.underlying4 _))⟩

/-- A world for the witness: the settled one, the listed variables holding what is laid. -/
noncomputable def laidWorld (os : Os) : World :=
  { World.holding Tryd.prog os ⟨#[], #[], []⟩ with heap := (((World.holding Tryd.prog os ⟨#[], #[], []⟩).heap).modify 2 (Sh.laidBlock (Rows.laid_unicode_utf8_acceptRanges : DataW Unit))).modify 1 (Sh.laidBlock (Rows.laid_unicode_utf8_first : DataW Unit)) }
theorem laid_met (os : Os) : laidMet Tryd.prog Rows.machineKnownRow.laid ((laidWorld os).forCall (fun _ _ => 0) ⟨#[], #[], []⟩).memory :=
  laidMet_of_run' 8 (by kernel_rfl) (by kernel_rfl)
theorem reads (os : Os) {H : Type} (enc : TypeId × Value → H) : ∃ places, DataW.whole enc Tryd.prog ((laidWorld os).forCall (fun _ _ => 0) ⟨#[], #[], []⟩).memory Tryd.f4.params.toList Rows.machineKnownSpec.vars false (#[] : Array Value).toList 8 = some ([], [], places) :=
  ⟨[], by kernel_rfl⟩

theorem lifted (os : Os) (started : os.Started) (H : Type) (enc : TypeId × Value → H) (F : Stop.Interp) :
    ReturnsInHanded {} Tryd.checked os 4 .any ((OpenSpec.ofChange Rows.machineKnownSpec).preRow enc Tryd.prog Tryd.f4 Rows.machineKnownRow.domain false Rows.machineKnownRow.laid) (((OpenSpec.ofChange Rows.machineKnownSpec).at F).post enc Tryd.prog Tryd.f4 false true false false) := by
  obtain ⟨places, hx⟩ := reads os enc
  refine returnsInHanded_of_row (C := Tryd.checked) (s := OpenSpec.ofChange Rows.machineKnownSpec) own started (by kernel_rfl) Tryd.func4
    (witness_row_at (enc := enc) (C := Tryd.checked) false (laidWorld os) #[] rfl (by kernel_rfl) (by kernel_rfl) (by kernel_rfl)
      (OpenSpec.preRow_of_cond 8 hx (by kernel_rfl) (fun k hk => by cases hk) (by kernel_rfl) (laid_met os))) ?_
  intro W base args ds gs before hval hW _ _ _ hL _ _
  exact contract H enc W base args ds gs before hW hL

theorem said : Rows.MachineKnownSaid :=
  OpenClaim.holds_of_cond 4 Tryd.f4 rfl rfl rfl rfl rfl rfl rfl ⟨rfl, rfl, rfl, rfl, rfl⟩ rfl rfl rfl rfl rfl (by kernel_rfl) Tryd.func4 (by kernel_rfl)
    (of_decide_eq_true (by kernel_rfl)) (by unfold Func.isWrapper; first | (rw [if_pos (by decide +kernel)]; kernel_rfl) | (rw [if_neg (by decide +kernel)]; exact ⟨rfl, rfl⟩))
    (fun os started H enc _ F => by rw [OpenClaim.pre_eq_preRow]; exact lifted os started H enc F)

theorem plain (f : FuncId) (fn : Func) (hf : Tryd.pinned.checked.prog.funcNamed "turnstone/turnstonelaw25.MachineKnown" = some f) (hfn : Tryd.pinned.checked.prog.funcs[f]? = some fn) :
    false = Tryd.pinned.checked.prog.looks [] ∧ ∀ (j : Nat) t, fn.params[j]? = some t → Tryd.pinned.checked.prog.wantsStandIn t = false := by
  obtain rfl : f = 4 := Option.some.inj ((show Tryd.prog.funcNamed "turnstone/turnstonelaw25.MachineKnown" = some 4 by kernel_rfl).symm.trans hf) |>.symm
  obtain rfl : fn = Tryd.f4 := (Option.some.inj (Tryd.func4.symm.trans hfn)).symm
  refine ⟨by kernel_rfl, fun j t ht => ?_⟩
  rw [Tryd.params4] at ht
  simp at ht

theorem proved : Rows.MachineKnownCardSaid :=
  Claim7.holds_tied_plain_at .later [] _ _ _ _ said (fun _ h => by cases h) (by kernel_rfl) (fun _ h => by cases h) machineKnown_row_tie rfl ⟨rfl, rfl⟩ (by kernel_rfl) rfl plain (by kernel_rfl)
#print axioms proved
end Go.Proofs.YtkcehgajpalgnaaDoor.machineKnown
