/-
  This text proves 'Rows.PlanKnownCardSaid': the closed law 'PlanKnown' returns true, in whatever memory and on every tape.
  The condition is the card's own: the listed package-level variables hold what the program's text lays.
-/
import Derived.Test.YtpkjafemjbnekaaGreatDoorCards
import Derived.Test.YtpkjafemjbnekaaGreatDoorTie
import Derived.Test.YtpkjafemjbnekaaGreatDoorQb
import Derived.Deep.DeepHandedRow
import Derived.Lib.LaidTab
namespace Go.Proofs.YtpkjafemjbnekaaGreatDoor.planKnown
open Go.ChangeShapes Go.WideShapes Go.ChangeAt Go.RowKit
set_option linter.unusedVariables false
set_option maxRecDepth 1000000

theorem own : ownKnob Tryz.prog.godebug = none := by kernel_rfl

def fns : List FuncId := [3, 4, 5, 6, 7, 8, 9, 10, 11, 12, 13, 20, 21, 22, 23, 24, 32, 33, 34, 35, 36, 37, 38, 44, 45, 46, 47, 48, 49, 50, 51, 53, 54, 55, 56, 57, 58, 61, 62, 63, 64, 65, 66, 67, 68, 69, 70, 71, 72, 73, 74, 75, 77, 78, 79, 83, 84, 85, 87, 88, 89, 90, 91, 92, 93, 95, 96, 102, 103, 104, 105, 106, 107, 108, 113, 114, 123, 125, 126, 127, 133, 134, 146, 147, 157, 158, 164, 170]
theorem mixed : Tryz.prog.follows .mixedOrders = true := by kernel_rfl
theorem tab : Sh.tabCheck Tryz.prog fns = true := by kernel_rfl
def tables : List (Nat × List Value) := []
def sums0 : Sh.Sums := Sh.noSums
theorem sumsOk0 : Sh.SumsOk Tryz.prog sums0 := Sh.noSums_ok _
def sums : Sh.Sums := sums0
theorem sumsOk : Sh.SumsOk Tryz.prog sums := sumsOk0
theorem q3 : Sh.cFn Tryz.prog Tryz.f3 = some n3 := by kernel_rfl
theorem q4 : Sh.cFn Tryz.prog Tryz.f4 = some n4 := by kernel_rfl
theorem q5 : Sh.cFn Tryz.prog Tryz.f5 = some n5 := by kernel_rfl
theorem q6 : Sh.cFn Tryz.prog Tryz.f6 = some n6 := by kernel_rfl
theorem q7 : Sh.cFn Tryz.prog Tryz.f7 = some n7 := by kernel_rfl
theorem q8 : Sh.cFn Tryz.prog Tryz.f8 = some n8 := by kernel_rfl
theorem q9 : Sh.cFn Tryz.prog Tryz.f9 = some n9 := by kernel_rfl
theorem q10 : Sh.cFn Tryz.prog Tryz.f10 = some n10 := by kernel_rfl
theorem q11 : Sh.cFn Tryz.prog Tryz.f11 = some n11 := by kernel_rfl
theorem q12 : Sh.cFn Tryz.prog Tryz.f12 = some n12 := by kernel_rfl
theorem q13 : Sh.cFn Tryz.prog Tryz.f13 = some n13 := by kernel_rfl
theorem q20 : Sh.cFn Tryz.prog Tryz.f20 = some n20 := by kernel_rfl
theorem q21 : Sh.cFn Tryz.prog Tryz.f21 = some n21 := by kernel_rfl
theorem q22 : Sh.cFn Tryz.prog Tryz.f22 = some n22 := by kernel_rfl
theorem q23 : Sh.cFn Tryz.prog Tryz.f23 = some n23 := by kernel_rfl
theorem q24 : Sh.cFn Tryz.prog Tryz.f24 = some n24 := by kernel_rfl
theorem q32 : Sh.cFn Tryz.prog Tryz.f32 = some n32 := by kernel_rfl
theorem q33 : Sh.cFn Tryz.prog Tryz.f33 = some n33 := by kernel_rfl
theorem q34 : Sh.cFn Tryz.prog Tryz.f34 = some n34 := by kernel_rfl
theorem q35 : Sh.cFn Tryz.prog Tryz.f35 = some n35 := by kernel_rfl
theorem q36 : Sh.cFn Tryz.prog Tryz.f36 = some n36 := by kernel_rfl
theorem q37 : Sh.cFn Tryz.prog Tryz.f37 = some n37 := by kernel_rfl
theorem q38 : Sh.cFn Tryz.prog Tryz.f38 = some n38 := by kernel_rfl
theorem q44 : Sh.cFn Tryz.prog Tryz.f44 = some n44 := by kernel_rfl
theorem q45 : Sh.cFn Tryz.prog Tryz.f45 = some n45 := by kernel_rfl
theorem q46 : Sh.cFn Tryz.prog Tryz.f46 = some n46 := by kernel_rfl
theorem q47 : Sh.cFn Tryz.prog Tryz.f47 = some n47 := by kernel_rfl
theorem q48 : Sh.cFn Tryz.prog Tryz.f48 = some n48 := by kernel_rfl
theorem q49 : Sh.cFn Tryz.prog Tryz.f49 = some n49 := by kernel_rfl
theorem q50 : Sh.cFn Tryz.prog Tryz.f50 = some n50 := by kernel_rfl
theorem q51 : Sh.cFn Tryz.prog Tryz.f51 = some n51 := by kernel_rfl
theorem q53 : Sh.cFn Tryz.prog Tryz.f53 = some n53 := by kernel_rfl
theorem q54 : Sh.cFn Tryz.prog Tryz.f54 = some n54 := by kernel_rfl
theorem q55 : Sh.cFn Tryz.prog Tryz.f55 = some n55 := by kernel_rfl
theorem q56 : Sh.cFn Tryz.prog Tryz.f56 = some n56 := by kernel_rfl
theorem q57 : Sh.cFn Tryz.prog Tryz.f57 = some n57 := by kernel_rfl
theorem q58 : Sh.cFn Tryz.prog Tryz.f58 = some n58 := by kernel_rfl
theorem q61 : Sh.cFn Tryz.prog Tryz.f61 = some n61 := by kernel_rfl
theorem q62 : Sh.cFn Tryz.prog Tryz.f62 = some n62 := by kernel_rfl
theorem q63 : Sh.cFn Tryz.prog Tryz.f63 = some n63 := by kernel_rfl
theorem q64 : Sh.cFn Tryz.prog Tryz.f64 = some n64 := by kernel_rfl
theorem q65 : Sh.cFn Tryz.prog Tryz.f65 = some n65 := by kernel_rfl
theorem q66 : Sh.cFn Tryz.prog Tryz.f66 = some n66 := by kernel_rfl
theorem q67 : Sh.cFn Tryz.prog Tryz.f67 = some n67 := by kernel_rfl
theorem q68 : Sh.cFn Tryz.prog Tryz.f68 = some n68 := by kernel_rfl
theorem q69 : Sh.cFn Tryz.prog Tryz.f69 = some n69 := by kernel_rfl
theorem q70 : Sh.cFn Tryz.prog Tryz.f70 = some n70 := by kernel_rfl
theorem q71 : Sh.cFn Tryz.prog Tryz.f71 = some n71 := by kernel_rfl
theorem q72 : Sh.cFn Tryz.prog Tryz.f72 = some n72 := by kernel_rfl
theorem q73 : Sh.cFn Tryz.prog Tryz.f73 = some n73 := by kernel_rfl
theorem q74 : Sh.cFn Tryz.prog Tryz.f74 = some n74 := by kernel_rfl
theorem q75 : Sh.cFn Tryz.prog Tryz.f75 = some n75 := by kernel_rfl
theorem q77 : Sh.cFn Tryz.prog Tryz.f77 = some n77 := by kernel_rfl
theorem q78 : Sh.cFn Tryz.prog Tryz.f78 = some n78 := by kernel_rfl
theorem q79 : Sh.cFn Tryz.prog Tryz.f79 = some n79 := by kernel_rfl
theorem q83 : Sh.cFn Tryz.prog Tryz.f83 = some n83 := by kernel_rfl
theorem q84 : Sh.cFn Tryz.prog Tryz.f84 = some n84 := by kernel_rfl
theorem q85 : Sh.cFn Tryz.prog Tryz.f85 = some n85 := by kernel_rfl
theorem q87 : Sh.cFn Tryz.prog Tryz.f87 = some n87 := by kernel_rfl
theorem q88 : Sh.cFn Tryz.prog Tryz.f88 = some n88 := by kernel_rfl
theorem q89 : Sh.cFn Tryz.prog Tryz.f89 = some n89 := by kernel_rfl
theorem q90 : Sh.cFn Tryz.prog Tryz.f90 = some n90 := by kernel_rfl
theorem q91 : Sh.cFn Tryz.prog Tryz.f91 = some n91 := by kernel_rfl
theorem q92 : Sh.cFn Tryz.prog Tryz.f92 = some n92 := by kernel_rfl
theorem q93 : Sh.cFn Tryz.prog Tryz.f93 = some n93 := by kernel_rfl
theorem q95 : Sh.cFn Tryz.prog Tryz.f95 = some n95 := by kernel_rfl
theorem q96 : Sh.cFn Tryz.prog Tryz.f96 = some n96 := by kernel_rfl
theorem q102 : Sh.cFn Tryz.prog Tryz.f102 = some n102 := by kernel_rfl
theorem q103 : Sh.cFn Tryz.prog Tryz.f103 = some n103 := by kernel_rfl
theorem q104 : Sh.cFn Tryz.prog Tryz.f104 = some n104 := by kernel_rfl
theorem q105 : Sh.cFn Tryz.prog Tryz.f105 = some n105 := by kernel_rfl
theorem q106 : Sh.cFn Tryz.prog Tryz.f106 = some n106 := by kernel_rfl
theorem q107 : Sh.cFn Tryz.prog Tryz.f107 = some n107 := by kernel_rfl
theorem q108 : Sh.cFn Tryz.prog Tryz.f108 = some n108 := by kernel_rfl
theorem q113 : Sh.cFn Tryz.prog Tryz.f113 = some n113 := by kernel_rfl
theorem q114 : Sh.cFn Tryz.prog Tryz.f114 = some n114 := by kernel_rfl
theorem q123 : Sh.cFn Tryz.prog Tryz.f123 = some n123 := by kernel_rfl
theorem q125 : Sh.cFn Tryz.prog Tryz.f125 = some n125 := by kernel_rfl
theorem q126 : Sh.cFn Tryz.prog Tryz.f126 = some n126 := by kernel_rfl
theorem q127 : Sh.cFn Tryz.prog Tryz.f127 = some n127 := by kernel_rfl
theorem q133 : Sh.cFn Tryz.prog Tryz.f133 = some n133 := by kernel_rfl
theorem q134 : Sh.cFn Tryz.prog Tryz.f134 = some n134 := by kernel_rfl
theorem q146 : Sh.cFn Tryz.prog Tryz.f146 = some n146 := by kernel_rfl
theorem q147 : Sh.cFn Tryz.prog Tryz.f147 = some n147 := by kernel_rfl
theorem q157 : Sh.cFn Tryz.prog Tryz.f157 = some n157 := by kernel_rfl
theorem q158 : Sh.cFn Tryz.prog Tryz.f158 = some n158 := by kernel_rfl
theorem q164 : Sh.cFn Tryz.prog Tryz.f164 = some n164 := by kernel_rfl
theorem q170 : Sh.cFn Tryz.prog Tryz.f170 = some n170 := by kernel_rfl
def qtab : List (Nat × Sh.QFn) := [(3, n3), (7, n7), (63, n63), (127, n127), (95, n95), (47, n47), (79, n79), (23, n23), (71, n71), (103, n103), (55, n55), (87, n87), (11, n11), (35, n35), (67, n67), (51, n51), (83, n83), (147, n147), (75, n75), (107, n107), (91, n91), (123, n123), (5, n5), (9, n9), (33, n33), (65, n65), (49, n49), (113, n113), (73, n73), (105, n105), (57, n57), (89, n89), (13, n13), (21, n21), (37, n37), (69, n69), (133, n133), (53, n53), (85, n85), (45, n45), (77, n77), (61, n61), (93, n93), (157, n157), (125, n125), (4, n4), (8, n8), (32, n32), (64, n64), (96, n96), (48, n48), (24, n24), (72, n72), (104, n104), (56, n56), (88, n88), (12, n12), (20, n20), (36, n36), (68, n68), (164, n164), (84, n84), (44, n44), (108, n108), (92, n92), (6, n6), (10, n10), (34, n34), (66, n66), (50, n50), (146, n146), (114, n114), (74, n74), (106, n106), (170, n170), (58, n58), (90, n90), (22, n22), (38, n38), (70, n70), (134, n134), (102, n102), (54, n54), (46, n46), (78, n78), (62, n62), (158, n158), (126, n126)]
theorem qtabOk : FT.toL (fun n => n) = qtab := by kernel_rfl
theorem qall : ∀ p ∈ qtab, ∃ fn, Sh.tabOf Tryz.prog fns p.1 = some fn ∧ Sh.cFn Tryz.prog fn = some p.2 :=
  Sh.fm_cons ⟨Tryz.f3, by kernel_rfl, q3⟩ <| Sh.fm_cons ⟨Tryz.f7, by kernel_rfl, q7⟩ <| Sh.fm_cons ⟨Tryz.f63, by kernel_rfl, q63⟩ <| Sh.fm_cons ⟨Tryz.f127, by kernel_rfl, q127⟩ <| Sh.fm_cons ⟨Tryz.f95, by kernel_rfl, q95⟩ <| Sh.fm_cons ⟨Tryz.f47, by kernel_rfl, q47⟩ <| Sh.fm_cons ⟨Tryz.f79, by kernel_rfl, q79⟩ <| Sh.fm_cons ⟨Tryz.f23, by kernel_rfl, q23⟩ <| Sh.fm_cons ⟨Tryz.f71, by kernel_rfl, q71⟩ <| Sh.fm_cons ⟨Tryz.f103, by kernel_rfl, q103⟩ <| Sh.fm_cons ⟨Tryz.f55, by kernel_rfl, q55⟩ <| Sh.fm_cons ⟨Tryz.f87, by kernel_rfl, q87⟩ <| Sh.fm_cons ⟨Tryz.f11, by kernel_rfl, q11⟩ <| Sh.fm_cons ⟨Tryz.f35, by kernel_rfl, q35⟩ <| Sh.fm_cons ⟨Tryz.f67, by kernel_rfl, q67⟩ <| Sh.fm_cons ⟨Tryz.f51, by kernel_rfl, q51⟩ <| Sh.fm_cons ⟨Tryz.f83, by kernel_rfl, q83⟩ <| Sh.fm_cons ⟨Tryz.f147, by kernel_rfl, q147⟩ <| Sh.fm_cons ⟨Tryz.f75, by kernel_rfl, q75⟩ <| Sh.fm_cons ⟨Tryz.f107, by kernel_rfl, q107⟩ <| Sh.fm_cons ⟨Tryz.f91, by kernel_rfl, q91⟩ <| Sh.fm_cons ⟨Tryz.f123, by kernel_rfl, q123⟩ <| Sh.fm_cons ⟨Tryz.f5, by kernel_rfl, q5⟩ <| Sh.fm_cons ⟨Tryz.f9, by kernel_rfl, q9⟩ <| Sh.fm_cons ⟨Tryz.f33, by kernel_rfl, q33⟩ <| Sh.fm_cons ⟨Tryz.f65, by kernel_rfl, q65⟩ <| Sh.fm_cons ⟨Tryz.f49, by kernel_rfl, q49⟩ <| Sh.fm_cons ⟨Tryz.f113, by kernel_rfl, q113⟩ <| Sh.fm_cons ⟨Tryz.f73, by kernel_rfl, q73⟩ <| Sh.fm_cons ⟨Tryz.f105, by kernel_rfl, q105⟩ <| Sh.fm_cons ⟨Tryz.f57, by kernel_rfl, q57⟩ <| Sh.fm_cons ⟨Tryz.f89, by kernel_rfl, q89⟩ <| Sh.fm_cons ⟨Tryz.f13, by kernel_rfl, q13⟩ <| Sh.fm_cons ⟨Tryz.f21, by kernel_rfl, q21⟩ <| Sh.fm_cons ⟨Tryz.f37, by kernel_rfl, q37⟩ <| Sh.fm_cons ⟨Tryz.f69, by kernel_rfl, q69⟩ <| Sh.fm_cons ⟨Tryz.f133, by kernel_rfl, q133⟩ <| Sh.fm_cons ⟨Tryz.f53, by kernel_rfl, q53⟩ <| Sh.fm_cons ⟨Tryz.f85, by kernel_rfl, q85⟩ <| Sh.fm_cons ⟨Tryz.f45, by kernel_rfl, q45⟩ <| Sh.fm_cons ⟨Tryz.f77, by kernel_rfl, q77⟩ <| Sh.fm_cons ⟨Tryz.f61, by kernel_rfl, q61⟩ <| Sh.fm_cons ⟨Tryz.f93, by kernel_rfl, q93⟩ <| Sh.fm_cons ⟨Tryz.f157, by kernel_rfl, q157⟩ <| Sh.fm_cons ⟨Tryz.f125, by kernel_rfl, q125⟩ <| Sh.fm_cons ⟨Tryz.f4, by kernel_rfl, q4⟩ <| Sh.fm_cons ⟨Tryz.f8, by kernel_rfl, q8⟩ <| Sh.fm_cons ⟨Tryz.f32, by kernel_rfl, q32⟩ <| Sh.fm_cons ⟨Tryz.f64, by kernel_rfl, q64⟩ <| Sh.fm_cons ⟨Tryz.f96, by kernel_rfl, q96⟩ <| Sh.fm_cons ⟨Tryz.f48, by kernel_rfl, q48⟩ <| Sh.fm_cons ⟨Tryz.f24, by kernel_rfl, q24⟩ <| Sh.fm_cons ⟨Tryz.f72, by kernel_rfl, q72⟩ <| Sh.fm_cons ⟨Tryz.f104, by kernel_rfl, q104⟩ <| Sh.fm_cons ⟨Tryz.f56, by kernel_rfl, q56⟩ <| Sh.fm_cons ⟨Tryz.f88, by kernel_rfl, q88⟩ <| Sh.fm_cons ⟨Tryz.f12, by kernel_rfl, q12⟩ <| Sh.fm_cons ⟨Tryz.f20, by kernel_rfl, q20⟩ <| Sh.fm_cons ⟨Tryz.f36, by kernel_rfl, q36⟩ <| Sh.fm_cons ⟨Tryz.f68, by kernel_rfl, q68⟩ <| Sh.fm_cons ⟨Tryz.f164, by kernel_rfl, q164⟩ <| Sh.fm_cons ⟨Tryz.f84, by kernel_rfl, q84⟩ <| Sh.fm_cons ⟨Tryz.f44, by kernel_rfl, q44⟩ <| Sh.fm_cons ⟨Tryz.f108, by kernel_rfl, q108⟩ <| Sh.fm_cons ⟨Tryz.f92, by kernel_rfl, q92⟩ <| Sh.fm_cons ⟨Tryz.f6, by kernel_rfl, q6⟩ <| Sh.fm_cons ⟨Tryz.f10, by kernel_rfl, q10⟩ <| Sh.fm_cons ⟨Tryz.f34, by kernel_rfl, q34⟩ <| Sh.fm_cons ⟨Tryz.f66, by kernel_rfl, q66⟩ <| Sh.fm_cons ⟨Tryz.f50, by kernel_rfl, q50⟩ <| Sh.fm_cons ⟨Tryz.f146, by kernel_rfl, q146⟩ <| Sh.fm_cons ⟨Tryz.f114, by kernel_rfl, q114⟩ <| Sh.fm_cons ⟨Tryz.f74, by kernel_rfl, q74⟩ <| Sh.fm_cons ⟨Tryz.f106, by kernel_rfl, q106⟩ <| Sh.fm_cons ⟨Tryz.f170, by kernel_rfl, q170⟩ <| Sh.fm_cons ⟨Tryz.f58, by kernel_rfl, q58⟩ <| Sh.fm_cons ⟨Tryz.f90, by kernel_rfl, q90⟩ <| Sh.fm_cons ⟨Tryz.f22, by kernel_rfl, q22⟩ <| Sh.fm_cons ⟨Tryz.f38, by kernel_rfl, q38⟩ <| Sh.fm_cons ⟨Tryz.f70, by kernel_rfl, q70⟩ <| Sh.fm_cons ⟨Tryz.f134, by kernel_rfl, q134⟩ <| Sh.fm_cons ⟨Tryz.f102, by kernel_rfl, q102⟩ <| Sh.fm_cons ⟨Tryz.f54, by kernel_rfl, q54⟩ <| Sh.fm_cons ⟨Tryz.f46, by kernel_rfl, q46⟩ <| Sh.fm_cons ⟨Tryz.f78, by kernel_rfl, q78⟩ <| Sh.fm_cons ⟨Tryz.f62, by kernel_rfl, q62⟩ <| Sh.fm_cons ⟨Tryz.f158, by kernel_rfl, q158⟩ <| Sh.fm_cons ⟨Tryz.f126, by kernel_rfl, q126⟩ <| fun _ h => by cases h
theorem reckoned : Sh.qcall FT 100000 3 [] ⟨Tryz.prog.globals.size, .leaf⟩ (fun v _ => Sh.vbool v true false) = true := by kernel_rfl
theorem run : Sh.isVal (.bool true) (Sh.call Tryz.prog (Sh.tabOf Tryz.prog fns) sums 100000 3 [] (Sh.memG Tryz.prog tables)) = true := Sh.q_true qtab qtabOk qall rfl reckoned

theorem walk (w : World) (_h : laidMetH Tryz.prog Rows.planKnownRow.laid w) : Calls Tryz.prog 3 #[] w fun e w' => e = .returned (.bool true) ∧ Below w.heap.size w w' :=
  Sh.closed_val mixed (Sh.tab_ok tab) sumsOk 100000 3 Tryz.func3 (by kernel_rfl) (args := []) (by kernel_rfl) (by kernel_rfl) run w (fun p hp => by simp [tables] at hp)

theorem contract (H : Type) (enc : TypeId × Value → H) (W : World) (base : Nat) (args : Array Value) (ds gs : List (DataW H)) (before : List MemPlace)
    (hW : DataW.Whole enc Tryz.prog Tryz.f3.params.toList Rows.planKnownSpec.vars false W args.toList ds gs before) (hL : laidMetH Tryz.prog Rows.planKnownRow.laid W) :
    Calls Tryz.prog 3 args W fun e W' => ∃ v, e = .returned v ∧ Rows.planKnownSpec.post enc Tryz.prog Tryz.f3 false true false false W args v W' := by
  have hW' := hW
  obtain ⟨p, q, hA0, hV, rfl, hfz, hnd⟩ := hW
  have hA : DataW.TrodAll enc Tryz.prog W 0 (fun _ => true) true Tryz.f3.params.toList args.toList ds p := hA0
  rw [Tryz.params3] at hA
  obtain ⟨rfl, rfl, rfl⟩ := trodAll_none hA
  obtain ⟨rfl, rfl⟩ := trodVars_none hV
  clear hA0
  simp only [List.append_nil] at hW'
  refine (walk W hL).mono fun e W' ⟨he, hg⟩ => ?_
  subst he
  exact ⟨_, rfl, Sh.law_post (pa := []) (pv := []) hW' hg rfl (fun sp _ => rfl) (fun _ _ => rfl) (fun _ _ _ => (trodAll_cons_mk (shut_bool Tryz.underlying4 _) trodAll_mk0))
    (ok_one (by kernel_rfl) rfl (okWide_bool_mk Tryz.underlying4 _))⟩

/-- A world for the witness: the settled one, the listed variables holding what is laid. -/
noncomputable def laidWorld (os : Os) : World :=
  { World.holding Tryz.prog os ⟨#[], #[], []⟩ with heap := (((World.holding Tryz.prog os ⟨#[], #[], []⟩).heap).modify 2 (Sh.laidBlock (Rows.laid_unicode_utf8_acceptRanges : DataW Unit))).modify 1 (Sh.laidBlock (Rows.laid_unicode_utf8_first : DataW Unit)) }
theorem laid_met (os : Os) : laidMet Tryz.prog Rows.planKnownRow.laid ((laidWorld os).forCall (fun _ _ => 0) ⟨#[], #[], []⟩).memory :=
  laidMet_of_run' 8 (by kernel_rfl) (by kernel_rfl)
theorem reads (os : Os) {H : Type} (enc : TypeId × Value → H) : ∃ places, DataW.whole enc Tryz.prog ((laidWorld os).forCall (fun _ _ => 0) ⟨#[], #[], []⟩).memory Tryz.f3.params.toList Rows.planKnownSpec.vars false (#[] : Array Value).toList 8 = some ([], [], places) :=
  ⟨[], by kernel_rfl⟩

theorem lifted (os : Os) (started : os.Started) (H : Type) (enc : TypeId × Value → H) (F : Stop.Interp) :
    ReturnsInHanded {} Tryz.checked os 3 .any ((OpenSpec.ofChange Rows.planKnownSpec).preRow enc Tryz.prog Tryz.f3 Rows.planKnownRow.domain false Rows.planKnownRow.laid) (((OpenSpec.ofChange Rows.planKnownSpec).at F).post enc Tryz.prog Tryz.f3 false true false false) := by
  obtain ⟨places, hx⟩ := reads os enc
  refine returnsInHanded_of_row (C := Tryz.checked) (s := OpenSpec.ofChange Rows.planKnownSpec) own started (by kernel_rfl) Tryz.func3
    (witness_row_at (enc := enc) (C := Tryz.checked) false (laidWorld os) #[] rfl (by kernel_rfl) (by kernel_rfl) (by kernel_rfl)
      (OpenSpec.preRow_of_cond 8 hx (by kernel_rfl) (fun k hk => by cases hk) (by kernel_rfl) (laid_met os))) ?_
  intro W base args ds gs before hval hW _ _ _ hL _ _
  exact contract H enc W base args ds gs before hW hL

theorem said : Rows.PlanKnownSaid :=
  OpenClaim.holds_of_cond 3 Tryz.f3 rfl rfl rfl rfl rfl rfl rfl ⟨rfl, rfl, rfl, rfl, rfl⟩ rfl rfl rfl rfl rfl (by kernel_rfl) Tryz.func3 (by kernel_rfl)
    (of_decide_eq_true (by kernel_rfl)) (by unfold Func.isWrapper; first | (rw [if_pos (by decide +kernel)]; kernel_rfl) | (rw [if_neg (by decide +kernel)]; exact ⟨rfl, rfl⟩))
    (fun os started H enc _ F => by rw [OpenClaim.pre_eq_preRow]; exact lifted os started H enc F)

theorem plain (f : FuncId) (fn : Func) (hf : Tryz.pinned.checked.prog.funcNamed "turnstone/turnstonelaw21.PlanKnown" = some f) (hfn : Tryz.pinned.checked.prog.funcs[f]? = some fn) :
    true = Tryz.pinned.checked.prog.looks [] ∧ ∀ (j : Nat) t, fn.params[j]? = some t → Tryz.pinned.checked.prog.wantsStandIn t = false := by
  obtain rfl : f = 3 := Option.some.inj ((show Tryz.prog.funcNamed "turnstone/turnstonelaw21.PlanKnown" = some 3 by kernel_rfl).symm.trans hf) |>.symm
  obtain rfl : fn = Tryz.f3 := (Option.some.inj (Tryz.func3.symm.trans hfn)).symm
  refine ⟨by kernel_rfl, fun j t ht => ?_⟩
  rw [Tryz.params3] at ht
  simp at ht

theorem proved : Rows.PlanKnownCardSaid :=
  Claim7.holds_tied_plain_at .later [] _ _ _ _ said (fun _ h => by cases h) (by kernel_rfl) (fun _ h => by cases h) planKnown_row_tie rfl ⟨rfl, rfl⟩ (by kernel_rfl) rfl plain (by kernel_rfl)
#print axioms proved
end Go.Proofs.YtpkjafemjbnekaaGreatDoor.planKnown

