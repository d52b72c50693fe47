/-
  This text proves the names of all ops by reckoning (closed calls of ssa.Name), and chapter 16's known.
  No condition.
-/
import Derived.Test.YtlogdohlcdhepaaDoorGen
set_option maxRecDepth 100000
set_option linter.unusedSimpArgs false
set_option linter.unusedVariables false
namespace Go.Proofs.YtlogdohlcdhepaaDoor.base
open Go.Sh gen
theorem mixed : Tryd.prog.follows .mixedOrders = true := by kernel_rfl
def cfns : List FuncId := [9, 10, 11, 12, 22, 25, 26, 27, 28, 29, 46, 47, 48, 49, 50, 51, 52, 53, 54, 57, 58, 61, 64, 65, 66, 67, 68, 69, 70, 71, 72, 73, 74, 75, 76, 79, 78, 80, 81, 82, 83, 84, 86, 87, 90, 91, 93, 97]
theorem ctab : Sh.tabCheck Tryd.prog cfns = true := by kernel_rfl
theorem nm1 : Sh.isVal (.string ⟨[80, 97, 114, 97, 109].toArray⟩) (Sh.call Tryd.prog (Sh.tabOf Tryd.prog cfns) Sh.noSums 100000 66 [.int .i64 1] (Sh.memG Tryd.prog [])) = true := by kernel_rfl
theorem nm2 : Sh.isVal (.string ⟨[67, 111, 110, 115, 116].toArray⟩) (Sh.call Tryd.prog (Sh.tabOf Tryd.prog cfns) Sh.noSums 100000 66 [.int .i64 2] (Sh.memG Tryd.prog [])) = true := by kernel_rfl
theorem nm3 : Sh.isVal (.string ⟨[65, 100, 100].toArray⟩) (Sh.call Tryd.prog (Sh.tabOf Tryd.prog cfns) Sh.noSums 100000 66 [.int .i64 3] (Sh.memG Tryd.prog [])) = true := by kernel_rfl
theorem nm4 : Sh.isVal (.string ⟨[83, 117, 98].toArray⟩) (Sh.call Tryd.prog (Sh.tabOf Tryd.prog cfns) Sh.noSums 100000 66 [.int .i64 4] (Sh.memG Tryd.prog [])) = true := by kernel_rfl
theorem nm5 : Sh.isVal (.string ⟨[77, 117, 108].toArray⟩) (Sh.call Tryd.prog (Sh.tabOf Tryd.prog cfns) Sh.noSums 100000 66 [.int .i64 5] (Sh.memG Tryd.prog [])) = true := by kernel_rfl
theorem nm6 : Sh.isVal (.string ⟨[68, 105, 118].toArray⟩) (Sh.call Tryd.prog (Sh.tabOf Tryd.prog cfns) Sh.noSums 100000 66 [.int .i64 6] (Sh.memG Tryd.prog [])) = true := by kernel_rfl
theorem nm7 : Sh.isVal (.string ⟨[82, 101, 109].toArray⟩) (Sh.call Tryd.prog (Sh.tabOf Tryd.prog cfns) Sh.noSums 100000 66 [.int .i64 7] (Sh.memG Tryd.prog [])) = true := by kernel_rfl
theorem nm8 : Sh.isVal (.string ⟨[78, 101, 103].toArray⟩) (Sh.call Tryd.prog (Sh.tabOf Tryd.prog cfns) Sh.noSums 100000 66 [.int .i64 8] (Sh.memG Tryd.prog [])) = true := by kernel_rfl
theorem nm9 : Sh.isVal (.string ⟨[78, 111, 116].toArray⟩) (Sh.call Tryd.prog (Sh.tabOf Tryd.prog cfns) Sh.noSums 100000 66 [.int .i64 9] (Sh.memG Tryd.prog [])) = true := by kernel_rfl
theorem nm10 : Sh.isVal (.string ⟨[69, 113].toArray⟩) (Sh.call Tryd.prog (Sh.tabOf Tryd.prog cfns) Sh.noSums 100000 66 [.int .i64 10] (Sh.memG Tryd.prog [])) = true := by kernel_rfl
theorem nm11 : Sh.isVal (.string ⟨[78, 101].toArray⟩) (Sh.call Tryd.prog (Sh.tabOf Tryd.prog cfns) Sh.noSums 100000 66 [.int .i64 11] (Sh.memG Tryd.prog [])) = true := by kernel_rfl
theorem nm12 : Sh.isVal (.string ⟨[76, 116].toArray⟩) (Sh.call Tryd.prog (Sh.tabOf Tryd.prog cfns) Sh.noSums 100000 66 [.int .i64 12] (Sh.memG Tryd.prog [])) = true := by kernel_rfl
theorem nm13 : Sh.isVal (.string ⟨[76, 101].toArray⟩) (Sh.call Tryd.prog (Sh.tabOf Tryd.prog cfns) Sh.noSums 100000 66 [.int .i64 13] (Sh.memG Tryd.prog [])) = true := by kernel_rfl
theorem nm14 : Sh.isVal (.string ⟨[66, 101, 108, 111, 119].toArray⟩) (Sh.call Tryd.prog (Sh.tabOf Tryd.prog cfns) Sh.noSums 100000 66 [.int .i64 14] (Sh.memG Tryd.prog [])) = true := by kernel_rfl
theorem nm15 : Sh.isVal (.string ⟨[84, 121, 112, 101, 79, 102].toArray⟩) (Sh.call Tryd.prog (Sh.tabOf Tryd.prog cfns) Sh.noSums 100000 66 [.int .i64 15] (Sh.memG Tryd.prog [])) = true := by kernel_rfl
theorem nm16 : Sh.isVal (.string ⟨[76, 101, 110, 79, 102].toArray⟩) (Sh.call Tryd.prog (Sh.tabOf Tryd.prog cfns) Sh.noSums 100000 66 [.int .i64 16] (Sh.memG Tryd.prog [])) = true := by kernel_rfl
theorem nm17 : Sh.isVal (.string ⟨[87, 111, 114, 100].toArray⟩) (Sh.call Tryd.prog (Sh.tabOf Tryd.prog cfns) Sh.noSums 100000 66 [.int .i64 17] (Sh.memG Tryd.prog [])) = true := by kernel_rfl
theorem nm18 : Sh.isVal (.string ⟨[87, 111, 114, 100, 65, 116].toArray⟩) (Sh.call Tryd.prog (Sh.tabOf Tryd.prog cfns) Sh.noSums 100000 66 [.int .i64 18] (Sh.memG Tryd.prog [])) = true := by kernel_rfl
theorem nm19 : Sh.isVal (.string ⟨[80, 117, 116].toArray⟩) (Sh.call Tryd.prog (Sh.tabOf Tryd.prog cfns) Sh.noSums 100000 66 [.int .i64 19] (Sh.memG Tryd.prog [])) = true := by kernel_rfl
theorem nm20 : Sh.isVal (.string ⟨[80, 117, 116, 65, 116].toArray⟩) (Sh.call Tryd.prog (Sh.tabOf Tryd.prog cfns) Sh.noSums 100000 66 [.int .i64 20] (Sh.memG Tryd.prog [])) = true := by kernel_rfl
theorem nm21 : Sh.isVal (.string ⟨[80, 104, 105].toArray⟩) (Sh.call Tryd.prog (Sh.tabOf Tryd.prog cfns) Sh.noSums 100000 66 [.int .i64 21] (Sh.memG Tryd.prog [])) = true := by kernel_rfl
theorem nm22 : Sh.isVal (.string ⟨[71, 117, 97, 114, 100].toArray⟩) (Sh.call Tryd.prog (Sh.tabOf Tryd.prog cfns) Sh.noSums 100000 66 [.int .i64 22] (Sh.memG Tryd.prog [])) = true := by kernel_rfl
theorem nm23 : Sh.isVal (.string ⟨[80, 111, 108, 108].toArray⟩) (Sh.call Tryd.prog (Sh.tabOf Tryd.prog cfns) Sh.noSums 100000 66 [.int .i64 23] (Sh.memG Tryd.prog [])) = true := by kernel_rfl
def opsL : List (List UInt8) := [[], [80, 97, 114, 97, 109], [67, 111, 110, 115, 116], [65, 100, 100], [83, 117, 98], [77, 117, 108], [68, 105, 118], [82, 101, 109], [78, 101, 103], [78, 111, 116], [69, 113], [78, 101], [76, 116], [76, 101], [66, 101, 108, 111, 119], [84, 121, 112, 101, 79, 102], [76, 101, 110, 79, 102], [87, 111, 114, 100], [87, 111, 114, 100, 65, 116], [80, 117, 116], [80, 117, 116, 65, 116], [80, 104, 105], [71, 117, 97, 114, 100], [80, 111, 108, 108]]
def nmL : List (List Value × Value) := [([.int .i64 1], .string ⟨[80, 97, 114, 97, 109].toArray⟩), ([.int .i64 2], .string ⟨[67, 111, 110, 115, 116].toArray⟩), ([.int .i64 3], .string ⟨[65, 100, 100].toArray⟩), ([.int .i64 4], .string ⟨[83, 117, 98].toArray⟩), ([.int .i64 5], .string ⟨[77, 117, 108].toArray⟩), ([.int .i64 6], .string ⟨[68, 105, 118].toArray⟩), ([.int .i64 7], .string ⟨[82, 101, 109].toArray⟩), ([.int .i64 8], .string ⟨[78, 101, 103].toArray⟩), ([.int .i64 9], .string ⟨[78, 111, 116].toArray⟩), ([.int .i64 10], .string ⟨[69, 113].toArray⟩), ([.int .i64 11], .string ⟨[78, 101].toArray⟩), ([.int .i64 12], .string ⟨[76, 116].toArray⟩), ([.int .i64 13], .string ⟨[76, 101].toArray⟩), ([.int .i64 14], .string ⟨[66, 101, 108, 111, 119].toArray⟩), ([.int .i64 15], .string ⟨[84, 121, 112, 101, 79, 102].toArray⟩), ([.int .i64 16], .string ⟨[76, 101, 110, 79, 102].toArray⟩), ([.int .i64 17], .string ⟨[87, 111, 114, 100].toArray⟩), ([.int .i64 18], .string ⟨[87, 111, 114, 100, 65, 116].toArray⟩), ([.int .i64 19], .string ⟨[80, 117, 116].toArray⟩), ([.int .i64 20], .string ⟨[80, 117, 116, 65, 116].toArray⟩), ([.int .i64 21], .string ⟨[80, 104, 105].toArray⟩), ([.int .i64 22], .string ⟨[71, 117, 97, 114, 100].toArray⟩), ([.int .i64 23], .string ⟨[80, 111, 108, 108].toArray⟩)]
def sums0 : Sums := fun f => if f = 66 then nmL else []
theorem sumsOk0 : SumsOk Tryd.prog sums0 := by
  intro f p hp
  unfold sums0 at hp
  split at hp
  · rename_i hf
    subst hf
    simp only [nmL, List.mem_cons, List.not_mem_nil, or_false] at hp
    have key : ∀ (a : List Value) (v : Value), closedL a = true → closedV v = true → Sh.isVal v (Sh.call Tryd.prog (Sh.tabOf Tryd.prog cfns) Sh.noSums 100000 66 a (Sh.memG Tryd.prog [])) = true → _ := fun a v h1 h2 h => fun w => Sh.closed_val mixed (Sh.tab_ok ctab) (Sh.noSums_ok _) 100000 66 Tryd.func66 (by kernel_rfl) (gs := []) h1 h2 h w (fun p hp => by simp at hp)
    have fin : Tryd.prog.funcs[66]? = some Tryd.f66 := Tryd.func66
    rcases hp with rfl | rfl | rfl | rfl | rfl | rfl | rfl | rfl | rfl | rfl | rfl | rfl | rfl | rfl | rfl | rfl | rfl | rfl | rfl | rfl | rfl | rfl | rfl
    · exact ⟨rfl, rfl, ⟨Tryd.f66, Tryd.func66, by kernel_rfl, by kernel_rfl⟩, key _ _ rfl rfl nm1⟩
    · exact ⟨rfl, rfl, ⟨Tryd.f66, Tryd.func66, by kernel_rfl, by kernel_rfl⟩, key _ _ rfl rfl nm2⟩
    · exact ⟨rfl, rfl, ⟨Tryd.f66, Tryd.func66, by kernel_rfl, by kernel_rfl⟩, key _ _ rfl rfl nm3⟩
    · exact ⟨rfl, rfl, ⟨Tryd.f66, Tryd.func66, by kernel_rfl, by kernel_rfl⟩, key _ _ rfl rfl nm4⟩
    · exact ⟨rfl, rfl, ⟨Tryd.f66, Tryd.func66, by kernel_rfl, by kernel_rfl⟩, key _ _ rfl rfl nm5⟩
    · exact ⟨rfl, rfl, ⟨Tryd.f66, Tryd.func66, by kernel_rfl, by kernel_rfl⟩, key _ _ rfl rfl nm6⟩
    · exact ⟨rfl, rfl, ⟨Tryd.f66, Tryd.func66, by kernel_rfl, by kernel_rfl⟩, key _ _ rfl rfl nm7⟩
    · exact ⟨rfl, rfl, ⟨Tryd.f66, Tryd.func66, by kernel_rfl, by kernel_rfl⟩, key _ _ rfl rfl nm8⟩
    · exact ⟨rfl, rfl, ⟨Tryd.f66, Tryd.func66, by kernel_rfl, by kernel_rfl⟩, key _ _ rfl rfl nm9⟩
    · exact ⟨rfl, rfl, ⟨Tryd.f66, Tryd.func66, by kernel_rfl, by kernel_rfl⟩, key _ _ rfl rfl nm10⟩
    · exact ⟨rfl, rfl, ⟨Tryd.f66, Tryd.func66, by kernel_rfl, by kernel_rfl⟩, key _ _ rfl rfl nm11⟩
    · exact ⟨rfl, rfl, ⟨Tryd.f66, Tryd.func66, by kernel_rfl, by kernel_rfl⟩, key _ _ rfl rfl nm12⟩
    · exact ⟨rfl, rfl, ⟨Tryd.f66, Tryd.func66, by kernel_rfl, by kernel_rfl⟩, key _ _ rfl rfl nm13⟩
    · exact ⟨rfl, rfl, ⟨Tryd.f66, Tryd.func66, by kernel_rfl, by kernel_rfl⟩, key _ _ rfl rfl nm14⟩
    · exact ⟨rfl, rfl, ⟨Tryd.f66, Tryd.func66, by kernel_rfl, by kernel_rfl⟩, key _ _ rfl rfl nm15⟩
    · exact ⟨rfl, rfl, ⟨Tryd.f66, Tryd.func66, by kernel_rfl, by kernel_rfl⟩, key _ _ rfl rfl nm16⟩
    · exact ⟨rfl, rfl, ⟨Tryd.f66, Tryd.func66, by kernel_rfl, by kernel_rfl⟩, key _ _ rfl rfl nm17⟩
    · exact ⟨rfl, rfl, ⟨Tryd.f66, Tryd.func66, by kernel_rfl, by kernel_rfl⟩, key _ _ rfl rfl nm18⟩
    · exact ⟨rfl, rfl, ⟨Tryd.f66, Tryd.func66, by kernel_rfl, by kernel_rfl⟩, key _ _ rfl rfl nm19⟩
    · exact ⟨rfl, rfl, ⟨Tryd.f66, Tryd.func66, by kernel_rfl, by kernel_rfl⟩, key _ _ rfl rfl nm20⟩
    · exact ⟨rfl, rfl, ⟨Tryd.f66, Tryd.func66, by kernel_rfl, by kernel_rfl⟩, key _ _ rfl rfl nm21⟩
    · exact ⟨rfl, rfl, ⟨Tryd.f66, Tryd.func66, by kernel_rfl, by kernel_rfl⟩, key _ _ rfl rfl nm22⟩
    · exact ⟨rfl, rfl, ⟨Tryd.f66, Tryd.func66, by kernel_rfl, by kernel_rfl⟩, key _ _ rfl rfl nm23⟩
  · simp at hp
theorem known : Sh.isVal (.bool true) (Sh.call Tryd.prog (Sh.tabOf Tryd.prog cfns) sums0 100000 12 [] (Sh.memG Tryd.prog [])) = true := by kernel_rfl
def sums : Sums := fun f => if f = 12 then [([], .bool true)] else sums0 f
theorem sumsOk : SumsOk Tryd.prog sums := by
  intro f p hp
  unfold sums at hp
  split at hp
  · rename_i hf
    subst hf
    simp only [List.mem_cons, List.not_mem_nil, or_false] at hp
    subst hp
    exact ⟨rfl, rfl, ⟨Tryd.f12, Tryd.func12, by kernel_rfl, by kernel_rfl⟩, fun w => Sh.closed_val mixed (Sh.tab_ok ctab) sumsOk0 100000 12 Tryd.func12 (by kernel_rfl) (gs := []) (by kernel_rfl) (by kernel_rfl) known w (fun p hp => by simp at hp)⟩
  · exact sumsOk0 f p hp
end Go.Proofs.YtlogdohlcdhepaaDoor.base

