/-
  This text proves the names of all ops by reckoning (closed calls of code.Name), and chapter 7's known.
  No condition.
-/
import Derived.Test.YtbhnojbkinbomaaDoorGen
set_option maxRecDepth 100000
set_option linter.unusedSimpArgs false
set_option linter.unusedVariables false
namespace Go.Proofs.YtbhnojbkinbomaaDoor.base
open Go.Sh gen
theorem mixed : Tryd.prog.follows .mixedOrders = true := by kernel_rfl
def cfns : List FuncId := [7, 8, 9, 10, 11, 12, 13, 14, 15, 16, 19, 26, 30, 31, 32, 35, 36, 37, 38, 43, 44, 45, 46, 53]
theorem ctab : Sh.tabCheck Tryd.prog cfns = true := by kernel_rfl
theorem known : Sh.isVal (.bool true) (Sh.call Tryd.prog (Sh.tabOf Tryd.prog cfns) Sh.noSums 100000 12 [] (Sh.memG Tryd.prog [])) = true := by kernel_rfl
theorem nm1 : Sh.isVal (.string ⟨[78, 117, 109].toArray⟩) (Sh.call Tryd.prog (Sh.tabOf Tryd.prog cfns) Sh.noSums 100000 13 [.int .i64 1] (Sh.memG Tryd.prog [])) = true := by kernel_rfl
theorem nm2 : Sh.isVal (.string ⟨[66, 105, 116].toArray⟩) (Sh.call Tryd.prog (Sh.tabOf Tryd.prog cfns) Sh.noSums 100000 13 [.int .i64 2] (Sh.memG Tryd.prog [])) = true := by kernel_rfl
theorem nm3 : Sh.isVal (.string ⟨[76, 105, 116].toArray⟩) (Sh.call Tryd.prog (Sh.tabOf Tryd.prog cfns) Sh.noSums 100000 13 [.int .i64 3] (Sh.memG Tryd.prog [])) = true := by kernel_rfl
theorem nm4 : Sh.isVal (.string ⟨[78, 117, 108, 108].toArray⟩) (Sh.call Tryd.prog (Sh.tabOf Tryd.prog cfns) Sh.noSums 100000 13 [.int .i64 4] (Sh.memG Tryd.prog [])) = true := by kernel_rfl
theorem nm5 : Sh.isVal (.string ⟨[76, 111, 97, 100].toArray⟩) (Sh.call Tryd.prog (Sh.tabOf Tryd.prog cfns) Sh.noSums 100000 13 [.int .i64 5] (Sh.memG Tryd.prog [])) = true := by kernel_rfl
theorem nm6 : Sh.isVal (.string ⟨[83, 116, 111, 114, 101].toArray⟩) (Sh.call Tryd.prog (Sh.tabOf Tryd.prog cfns) Sh.noSums 100000 13 [.int .i64 6] (Sh.memG Tryd.prog [])) = true := by kernel_rfl
theorem nm7 : Sh.isVal (.string ⟨[80, 111, 112].toArray⟩) (Sh.call Tryd.prog (Sh.tabOf Tryd.prog cfns) Sh.noSums 100000 13 [.int .i64 7] (Sh.memG Tryd.prog [])) = true := by kernel_rfl
theorem nm8 : Sh.isVal (.string ⟨[65, 100, 100].toArray⟩) (Sh.call Tryd.prog (Sh.tabOf Tryd.prog cfns) Sh.noSums 100000 13 [.int .i64 8] (Sh.memG Tryd.prog [])) = true := by kernel_rfl
theorem nm9 : Sh.isVal (.string ⟨[83, 117, 98].toArray⟩) (Sh.call Tryd.prog (Sh.tabOf Tryd.prog cfns) Sh.noSums 100000 13 [.int .i64 9] (Sh.memG Tryd.prog [])) = true := by kernel_rfl
theorem nm10 : Sh.isVal (.string ⟨[77, 117, 108].toArray⟩) (Sh.call Tryd.prog (Sh.tabOf Tryd.prog cfns) Sh.noSums 100000 13 [.int .i64 10] (Sh.memG Tryd.prog [])) = true := by kernel_rfl
theorem nm11 : Sh.isVal (.string ⟨[68, 105, 118].toArray⟩) (Sh.call Tryd.prog (Sh.tabOf Tryd.prog cfns) Sh.noSums 100000 13 [.int .i64 11] (Sh.memG Tryd.prog [])) = true := by kernel_rfl
theorem nm12 : Sh.isVal (.string ⟨[82, 101, 109].toArray⟩) (Sh.call Tryd.prog (Sh.tabOf Tryd.prog cfns) Sh.noSums 100000 13 [.int .i64 12] (Sh.memG Tryd.prog [])) = true := by kernel_rfl
theorem nm13 : Sh.isVal (.string ⟨[78, 101, 103].toArray⟩) (Sh.call Tryd.prog (Sh.tabOf Tryd.prog cfns) Sh.noSums 100000 13 [.int .i64 13] (Sh.memG Tryd.prog [])) = true := by kernel_rfl
theorem nm14 : Sh.isVal (.string ⟨[78, 111, 116].toArray⟩) (Sh.call Tryd.prog (Sh.tabOf Tryd.prog cfns) Sh.noSums 100000 13 [.int .i64 14] (Sh.memG Tryd.prog [])) = true := by kernel_rfl
theorem nm15 : Sh.isVal (.string ⟨[69, 113].toArray⟩) (Sh.call Tryd.prog (Sh.tabOf Tryd.prog cfns) Sh.noSums 100000 13 [.int .i64 15] (Sh.memG Tryd.prog [])) = true := by kernel_rfl
theorem nm16 : Sh.isVal (.string ⟨[78, 101].toArray⟩) (Sh.call Tryd.prog (Sh.tabOf Tryd.prog cfns) Sh.noSums 100000 13 [.int .i64 16] (Sh.memG Tryd.prog [])) = true := by kernel_rfl
theorem nm17 : Sh.isVal (.string ⟨[76, 116].toArray⟩) (Sh.call Tryd.prog (Sh.tabOf Tryd.prog cfns) Sh.noSums 100000 13 [.int .i64 17] (Sh.memG Tryd.prog [])) = true := by kernel_rfl
theorem nm18 : Sh.isVal (.string ⟨[76, 101].toArray⟩) (Sh.call Tryd.prog (Sh.tabOf Tryd.prog cfns) Sh.noSums 100000 13 [.int .i64 18] (Sh.memG Tryd.prog [])) = true := by kernel_rfl
theorem nm19 : Sh.isVal (.string ⟨[71, 116].toArray⟩) (Sh.call Tryd.prog (Sh.tabOf Tryd.prog cfns) Sh.noSums 100000 13 [.int .i64 19] (Sh.memG Tryd.prog [])) = true := by kernel_rfl
theorem nm20 : Sh.isVal (.string ⟨[71, 101].toArray⟩) (Sh.call Tryd.prog (Sh.tabOf Tryd.prog cfns) Sh.noSums 100000 13 [.int .i64 20] (Sh.memG Tryd.prog [])) = true := by kernel_rfl
theorem nm21 : Sh.isVal (.string ⟨[67, 97, 116].toArray⟩) (Sh.call Tryd.prog (Sh.tabOf Tryd.prog cfns) Sh.noSums 100000 13 [.int .i64 21] (Sh.memG Tryd.prog [])) = true := by kernel_rfl
theorem nm22 : Sh.isVal (.string ⟨[84, 101, 120, 116, 69, 113].toArray⟩) (Sh.call Tryd.prog (Sh.tabOf Tryd.prog cfns) Sh.noSums 100000 13 [.int .i64 22] (Sh.memG Tryd.prog [])) = true := by kernel_rfl
theorem nm23 : Sh.isVal (.string ⟨[84, 101, 120, 116, 78, 101].toArray⟩) (Sh.call Tryd.prog (Sh.tabOf Tryd.prog cfns) Sh.noSums 100000 13 [.int .i64 23] (Sh.memG Tryd.prog [])) = true := by kernel_rfl
theorem nm24 : Sh.isVal (.string ⟨[84, 101, 120, 116, 76, 116].toArray⟩) (Sh.call Tryd.prog (Sh.tabOf Tryd.prog cfns) Sh.noSums 100000 13 [.int .i64 24] (Sh.memG Tryd.prog [])) = true := by kernel_rfl
theorem nm25 : Sh.isVal (.string ⟨[84, 101, 120, 116, 76, 101].toArray⟩) (Sh.call Tryd.prog (Sh.tabOf Tryd.prog cfns) Sh.noSums 100000 13 [.int .i64 25] (Sh.memG Tryd.prog [])) = true := by kernel_rfl
theorem nm26 : Sh.isVal (.string ⟨[74, 117, 109, 112].toArray⟩) (Sh.call Tryd.prog (Sh.tabOf Tryd.prog cfns) Sh.noSums 100000 13 [.int .i64 26] (Sh.memG Tryd.prog [])) = true := by kernel_rfl
theorem nm27 : Sh.isVal (.string ⟨[74, 117, 109, 112, 78, 111].toArray⟩) (Sh.call Tryd.prog (Sh.tabOf Tryd.prog cfns) Sh.noSums 100000 13 [.int .i64 27] (Sh.memG Tryd.prog [])) = true := by kernel_rfl
theorem nm28 : Sh.isVal (.string ⟨[70, 105, 101, 108, 100].toArray⟩) (Sh.call Tryd.prog (Sh.tabOf Tryd.prog cfns) Sh.noSums 100000 13 [.int .i64 28] (Sh.memG Tryd.prog [])) = true := by kernel_rfl
theorem nm29 : Sh.isVal (.string ⟨[83, 101, 116, 70, 105, 101, 108, 100].toArray⟩) (Sh.call Tryd.prog (Sh.tabOf Tryd.prog cfns) Sh.noSums 100000 13 [.int .i64 29] (Sh.memG Tryd.prog [])) = true := by kernel_rfl
theorem nm30 : Sh.isVal (.string ⟨[65, 116].toArray⟩) (Sh.call Tryd.prog (Sh.tabOf Tryd.prog cfns) Sh.noSums 100000 13 [.int .i64 30] (Sh.memG Tryd.prog [])) = true := by kernel_rfl
theorem nm31 : Sh.isVal (.string ⟨[83, 101, 116, 65, 116].toArray⟩) (Sh.call Tryd.prog (Sh.tabOf Tryd.prog cfns) Sh.noSums 100000 13 [.int .i64 31] (Sh.memG Tryd.prog [])) = true := by kernel_rfl
theorem nm32 : Sh.isVal (.string ⟨[84, 101, 120, 116, 65, 116].toArray⟩) (Sh.call Tryd.prog (Sh.tabOf Tryd.prog cfns) Sh.noSums 100000 13 [.int .i64 32] (Sh.memG Tryd.prog [])) = true := by kernel_rfl
theorem nm33 : Sh.isVal (.string ⟨[76, 101, 110].toArray⟩) (Sh.call Tryd.prog (Sh.tabOf Tryd.prog cfns) Sh.noSums 100000 13 [.int .i64 33] (Sh.memG Tryd.prog [])) = true := by kernel_rfl
theorem nm34 : Sh.isVal (.string ⟨[78, 101, 119].toArray⟩) (Sh.call Tryd.prog (Sh.tabOf Tryd.prog cfns) Sh.noSums 100000 13 [.int .i64 34] (Sh.memG Tryd.prog [])) = true := by kernel_rfl
theorem nm35 : Sh.isVal (.string ⟨[77, 97, 107, 101].toArray⟩) (Sh.call Tryd.prog (Sh.tabOf Tryd.prog cfns) Sh.noSums 100000 13 [.int .i64 35] (Sh.memG Tryd.prog [])) = true := by kernel_rfl
theorem nm36 : Sh.isVal (.string ⟨[67, 97, 108, 108].toArray⟩) (Sh.call Tryd.prog (Sh.tabOf Tryd.prog cfns) Sh.noSums 100000 13 [.int .i64 36] (Sh.memG Tryd.prog [])) = true := by kernel_rfl
theorem nm37 : Sh.isVal (.string ⟨[73, 110, 118, 111, 107, 101].toArray⟩) (Sh.call Tryd.prog (Sh.tabOf Tryd.prog cfns) Sh.noSums 100000 13 [.int .i64 37] (Sh.memG Tryd.prog [])) = true := by kernel_rfl
theorem nm38 : Sh.isVal (.string ⟨[67, 97, 115, 116].toArray⟩) (Sh.call Tryd.prog (Sh.tabOf Tryd.prog cfns) Sh.noSums 100000 13 [.int .i64 38] (Sh.memG Tryd.prog [])) = true := by kernel_rfl
theorem nm39 : Sh.isVal (.string ⟨[80, 114, 105, 110, 116].toArray⟩) (Sh.call Tryd.prog (Sh.tabOf Tryd.prog cfns) Sh.noSums 100000 13 [.int .i64 39] (Sh.memG Tryd.prog [])) = true := by kernel_rfl
theorem nm40 : Sh.isVal (.string ⟨[73, 110, 112, 117, 116].toArray⟩) (Sh.call Tryd.prog (Sh.tabOf Tryd.prog cfns) Sh.noSums 100000 13 [.int .i64 40] (Sh.memG Tryd.prog [])) = true := by kernel_rfl
theorem nm41 : Sh.isVal (.string ⟨[82, 101, 116].toArray⟩) (Sh.call Tryd.prog (Sh.tabOf Tryd.prog cfns) Sh.noSums 100000 13 [.int .i64 41] (Sh.memG Tryd.prog [])) = true := by kernel_rfl
/-- the ops' names -/
def opsL : List (List UInt8) := [[], [78, 117, 109], [66, 105, 116], [76, 105, 116], [78, 117, 108, 108], [76, 111, 97, 100], [83, 116, 111, 114, 101], [80, 111, 112], [65, 100, 100], [83, 117, 98], [77, 117, 108], [68, 105, 118], [82, 101, 109], [78, 101, 103], [78, 111, 116], [69, 113], [78, 101], [76, 116], [76, 101], [71, 116], [71, 101], [67, 97, 116], [84, 101, 120, 116, 69, 113], [84, 101, 120, 116, 78, 101], [84, 101, 120, 116, 76, 116], [84, 101, 120, 116, 76, 101], [74, 117, 109, 112], [74, 117, 109, 112, 78, 111], [70, 105, 101, 108, 100], [83, 101, 116, 70, 105, 101, 108, 100], [65, 116], [83, 101, 116, 65, 116], [84, 101, 120, 116, 65, 116], [76, 101, 110], [78, 101, 119], [77, 97, 107, 101], [67, 97, 108, 108], [73, 110, 118, 111, 107, 101], [67, 97, 115, 116], [80, 114, 105, 110, 116], [73, 110, 112, 117, 116], [82, 101, 116]]
def nmL : List (List Value × Value) := [([.int .i64 1], .string ⟨[78, 117, 109].toArray⟩), ([.int .i64 2], .string ⟨[66, 105, 116].toArray⟩), ([.int .i64 3], .string ⟨[76, 105, 116].toArray⟩), ([.int .i64 4], .string ⟨[78, 117, 108, 108].toArray⟩), ([.int .i64 5], .string ⟨[76, 111, 97, 100].toArray⟩), ([.int .i64 6], .string ⟨[83, 116, 111, 114, 101].toArray⟩), ([.int .i64 7], .string ⟨[80, 111, 112].toArray⟩), ([.int .i64 8], .string ⟨[65, 100, 100].toArray⟩), ([.int .i64 9], .string ⟨[83, 117, 98].toArray⟩), ([.int .i64 10], .string ⟨[77, 117, 108].toArray⟩), ([.int .i64 11], .string ⟨[68, 105, 118].toArray⟩), ([.int .i64 12], .string ⟨[82, 101, 109].toArray⟩), ([.int .i64 13], .string ⟨[78, 101, 103].toArray⟩), ([.int .i64 14], .string ⟨[78, 111, 116].toArray⟩), ([.int .i64 15], .string ⟨[69, 113].toArray⟩), ([.int .i64 16], .string ⟨[78, 101].toArray⟩), ([.int .i64 17], .string ⟨[76, 116].toArray⟩), ([.int .i64 18], .string ⟨[76, 101].toArray⟩), ([.int .i64 19], .string ⟨[71, 116].toArray⟩), ([.int .i64 20], .string ⟨[71, 101].toArray⟩), ([.int .i64 21], .string ⟨[67, 97, 116].toArray⟩), ([.int .i64 22], .string ⟨[84, 101, 120, 116, 69, 113].toArray⟩), ([.int .i64 23], .string ⟨[84, 101, 120, 116, 78, 101].toArray⟩), ([.int .i64 24], .string ⟨[84, 101, 120, 116, 76, 116].toArray⟩), ([.int .i64 25], .string ⟨[84, 101, 120, 116, 76, 101].toArray⟩), ([.int .i64 26], .string ⟨[74, 117, 109, 112].toArray⟩), ([.int .i64 27], .string ⟨[74, 117, 109, 112, 78, 111].toArray⟩), ([.int .i64 28], .string ⟨[70, 105, 101, 108, 100].toArray⟩), ([.int .i64 29], .string ⟨[83, 101, 116, 70, 105, 101, 108, 100].toArray⟩), ([.int .i64 30], .string ⟨[65, 116].toArray⟩), ([.int .i64 31], .string ⟨[83, 101, 116, 65, 116].toArray⟩), ([.int .i64 32], .string ⟨[84, 101, 120, 116, 65, 116].toArray⟩), ([.int .i64 33], .string ⟨[76, 101, 110].toArray⟩), ([.int .i64 34], .string ⟨[78, 101, 119].toArray⟩), ([.int .i64 35], .string ⟨[77, 97, 107, 101].toArray⟩), ([.int .i64 36], .string ⟨[67, 97, 108, 108].toArray⟩), ([.int .i64 37], .string ⟨[73, 110, 118, 111, 107, 101].toArray⟩), ([.int .i64 38], .string ⟨[67, 97, 115, 116].toArray⟩), ([.int .i64 39], .string ⟨[80, 114, 105, 110, 116].toArray⟩), ([.int .i64 40], .string ⟨[73, 110, 112, 117, 116].toArray⟩), ([.int .i64 41], .string ⟨[82, 101, 116].toArray⟩)]
def sums : Sums := fun f => if f = 12 then [([], .bool true)] else if f = 13 then nmL else []
theorem sumsOk : SumsOk Tryd.prog sums := by
  intro f p hp
  unfold sums at hp
  split at hp
  · rename_i hf
    subst hf
    simp only [List.mem_cons, List.not_mem_nil, or_false] at hp
    subst hp
    exact ⟨rfl, rfl, ⟨Tryd.f12, Tryd.func12, by kernel_rfl, by kernel_rfl⟩, fun w => Sh.closed_val mixed (Sh.tab_ok ctab) (Sh.noSums_ok _) 100000 12 Tryd.func12 (by kernel_rfl) (gs := []) (by kernel_rfl) (by kernel_rfl) known w (fun p hp => by simp at hp)⟩
  · split at hp
    · rename_i hf
      subst hf
      simp only [nmL, List.mem_cons, List.not_mem_nil, or_false] at hp
      have key : ∀ (a : List Value) (v : Value), closedL a = true → closedV v = true → Sh.isVal v (Sh.call Tryd.prog (Sh.tabOf Tryd.prog cfns) Sh.noSums 100000 13 a (Sh.memG Tryd.prog [])) = true → _ := fun a v h1 h2 h => fun w => Sh.closed_val mixed (Sh.tab_ok ctab) (Sh.noSums_ok _) 100000 13 Tryd.func13 (by kernel_rfl) (gs := []) h1 h2 h w (fun p hp => by simp at hp)
      have fin : Tryd.prog.funcs[13]? = some Tryd.f13 := Tryd.func13
      rcases hp with rfl | rfl | rfl | rfl | rfl | rfl | rfl | rfl | rfl | rfl | rfl | rfl | rfl | rfl | rfl | rfl | rfl | rfl | rfl | rfl | rfl | rfl | rfl | rfl | rfl | rfl | rfl | rfl | rfl | rfl | rfl | rfl | rfl | rfl | rfl | rfl | rfl | rfl | rfl | rfl | rfl
      · exact ⟨rfl, rfl, ⟨Tryd.f13, Tryd.func13, by kernel_rfl, by kernel_rfl⟩, key _ _ rfl rfl nm1⟩
      · exact ⟨rfl, rfl, ⟨Tryd.f13, Tryd.func13, by kernel_rfl, by kernel_rfl⟩, key _ _ rfl rfl nm2⟩
      · exact ⟨rfl, rfl, ⟨Tryd.f13, Tryd.func13, by kernel_rfl, by kernel_rfl⟩, key _ _ rfl rfl nm3⟩
      · exact ⟨rfl, rfl, ⟨Tryd.f13, Tryd.func13, by kernel_rfl, by kernel_rfl⟩, key _ _ rfl rfl nm4⟩
      · exact ⟨rfl, rfl, ⟨Tryd.f13, Tryd.func13, by kernel_rfl, by kernel_rfl⟩, key _ _ rfl rfl nm5⟩
      · exact ⟨rfl, rfl, ⟨Tryd.f13, Tryd.func13, by kernel_rfl, by kernel_rfl⟩, key _ _ rfl rfl nm6⟩
      · exact ⟨rfl, rfl, ⟨Tryd.f13, Tryd.func13, by kernel_rfl, by kernel_rfl⟩, key _ _ rfl rfl nm7⟩
      · exact ⟨rfl, rfl, ⟨Tryd.f13, Tryd.func13, by kernel_rfl, by kernel_rfl⟩, key _ _ rfl rfl nm8⟩
      · exact ⟨rfl, rfl, ⟨Tryd.f13, Tryd.func13, by kernel_rfl, by kernel_rfl⟩, key _ _ rfl rfl nm9⟩
      · exact ⟨rfl, rfl, ⟨Tryd.f13, Tryd.func13, by kernel_rfl, by kernel_rfl⟩, key _ _ rfl rfl nm10⟩
      · exact ⟨rfl, rfl, ⟨Tryd.f13, Tryd.func13, by kernel_rfl, by kernel_rfl⟩, key _ _ rfl rfl nm11⟩
      · exact ⟨rfl, rfl, ⟨Tryd.f13, Tryd.func13, by kernel_rfl, by kernel_rfl⟩, key _ _ rfl rfl nm12⟩
      · exact ⟨rfl, rfl, ⟨Tryd.f13, Tryd.func13, by kernel_rfl, by kernel_rfl⟩, key _ _ rfl rfl nm13⟩
      · exact ⟨rfl, rfl, ⟨Tryd.f13, Tryd.func13, by kernel_rfl, by kernel_rfl⟩, key _ _ rfl rfl nm14⟩
      · exact ⟨rfl, rfl, ⟨Tryd.f13, Tryd.func13, by kernel_rfl, by kernel_rfl⟩, key _ _ rfl rfl nm15⟩
      · exact ⟨rfl, rfl, ⟨Tryd.f13, Tryd.func13, by kernel_rfl, by kernel_rfl⟩, key _ _ rfl rfl nm16⟩
      · exact ⟨rfl, rfl, ⟨Tryd.f13, Tryd.func13, by kernel_rfl, by kernel_rfl⟩, key _ _ rfl rfl nm17⟩
      · exact ⟨rfl, rfl, ⟨Tryd.f13, Tryd.func13, by kernel_rfl, by kernel_rfl⟩, key _ _ rfl rfl nm18⟩
      · exact ⟨rfl, rfl, ⟨Tryd.f13, Tryd.func13, by kernel_rfl, by kernel_rfl⟩, key _ _ rfl rfl nm19⟩
      · exact ⟨rfl, rfl, ⟨Tryd.f13, Tryd.func13, by kernel_rfl, by kernel_rfl⟩, key _ _ rfl rfl nm20⟩
      · exact ⟨rfl, rfl, ⟨Tryd.f13, Tryd.func13, by kernel_rfl, by kernel_rfl⟩, key _ _ rfl rfl nm21⟩
      · exact ⟨rfl, rfl, ⟨Tryd.f13, Tryd.func13, by kernel_rfl, by kernel_rfl⟩, key _ _ rfl rfl nm22⟩
      · exact ⟨rfl, rfl, ⟨Tryd.f13, Tryd.func13, by kernel_rfl, by kernel_rfl⟩, key _ _ rfl rfl nm23⟩
      · exact ⟨rfl, rfl, ⟨Tryd.f13, Tryd.func13, by kernel_rfl, by kernel_rfl⟩, key _ _ rfl rfl nm24⟩
      · exact ⟨rfl, rfl, ⟨Tryd.f13, Tryd.func13, by kernel_rfl, by kernel_rfl⟩, key _ _ rfl rfl nm25⟩
      · exact ⟨rfl, rfl, ⟨Tryd.f13, Tryd.func13, by kernel_rfl, by kernel_rfl⟩, key _ _ rfl rfl nm26⟩
      · exact ⟨rfl, rfl, ⟨Tryd.f13, Tryd.func13, by kernel_rfl, by kernel_rfl⟩, key _ _ rfl rfl nm27⟩
      · exact ⟨rfl, rfl, ⟨Tryd.f13, Tryd.func13, by kernel_rfl, by kernel_rfl⟩, key _ _ rfl rfl nm28⟩
      · exact ⟨rfl, rfl, ⟨Tryd.f13, Tryd.func13, by kernel_rfl, by kernel_rfl⟩, key _ _ rfl rfl nm29⟩
      · exact ⟨rfl, rfl, ⟨Tryd.f13, Tryd.func13, by kernel_rfl, by kernel_rfl⟩, key _ _ rfl rfl nm30⟩
      · exact ⟨rfl, rfl, ⟨Tryd.f13, Tryd.func13, by kernel_rfl, by kernel_rfl⟩, key _ _ rfl rfl nm31⟩
      · exact ⟨rfl, rfl, ⟨Tryd.f13, Tryd.func13, by kernel_rfl, by kernel_rfl⟩, key _ _ rfl rfl nm32⟩
      · exact ⟨rfl, rfl, ⟨Tryd.f13, Tryd.func13, by kernel_rfl, by kernel_rfl⟩, key _ _ rfl rfl nm33⟩
      · exact ⟨rfl, rfl, ⟨Tryd.f13, Tryd.func13, by kernel_rfl, by kernel_rfl⟩, key _ _ rfl rfl nm34⟩
      · exact ⟨rfl, rfl, ⟨Tryd.f13, Tryd.func13, by kernel_rfl, by kernel_rfl⟩, key _ _ rfl rfl nm35⟩
      · exact ⟨rfl, rfl, ⟨Tryd.f13, Tryd.func13, by kernel_rfl, by kernel_rfl⟩, key _ _ rfl rfl nm36⟩
      · exact ⟨rfl, rfl, ⟨Tryd.f13, Tryd.func13, by kernel_rfl, by kernel_rfl⟩, key _ _ rfl rfl nm37⟩
      · exact ⟨rfl, rfl, ⟨Tryd.f13, Tryd.func13, by kernel_rfl, by kernel_rfl⟩, key _ _ rfl rfl nm38⟩
      · exact ⟨rfl, rfl, ⟨Tryd.f13, Tryd.func13, by kernel_rfl, by kernel_rfl⟩, key _ _ rfl rfl nm39⟩
      · exact ⟨rfl, rfl, ⟨Tryd.f13, Tryd.func13, by kernel_rfl, by kernel_rfl⟩, key _ _ rfl rfl nm40⟩
      · exact ⟨rfl, rfl, ⟨Tryd.f13, Tryd.func13, by kernel_rfl, by kernel_rfl⟩, key _ _ rfl rfl nm41⟩
    · simp at hp
end Go.Proofs.YtbhnojbkinbomaaDoor.base

