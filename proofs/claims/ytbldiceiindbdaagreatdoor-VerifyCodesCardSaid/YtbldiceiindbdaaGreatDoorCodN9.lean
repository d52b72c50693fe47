/- This text proves the names of all ops by reckoning (closed calls of code.Name). No condition. -/
import Derived.Test.YtbldiceiindbdaaGreatDoorCodTn
set_option linter.unusedVariables false
set_option linter.unusedSimpArgs false
set_option maxRecDepth 100000
namespace Go.Proofs.YtbldiceiindbdaaGreatDoor.base
open Go.Sh gen
theorem Zuh:Tryz.prog.follows .mixedOrders=true:=by kernel_rfl
def Zg8:List FuncId:=[115,78,72,112,141,159,160,161,178,179,180,181,187,188,189,190,195]
theorem Z69:Sh.tabCheck Tryz.prog Zg8=true:=by kernel_rfl
theorem nm1:Sh.isVal (.string ⟨[78,117,109].toArray⟩) (Sh.call Tryz.prog (Sh.tabOf Tryz.prog Zg8) Sh.noSums 100000 72 [.int .i64 1] (Sh.memG Tryz.prog []))=true:=by kernel_rfl
theorem nm2:Sh.isVal (.string ⟨[66,105,116].toArray⟩) (Sh.call Tryz.prog (Sh.tabOf Tryz.prog Zg8) Sh.noSums 100000 72 [.int .i64 2] (Sh.memG Tryz.prog []))=true:=by kernel_rfl
theorem nm3:Sh.isVal (.string ⟨[76,105,116].toArray⟩) (Sh.call Tryz.prog (Sh.tabOf Tryz.prog Zg8) Sh.noSums 100000 72 [.int .i64 3] (Sh.memG Tryz.prog []))=true:=by kernel_rfl
theorem nm4:Sh.isVal (.string ⟨[78,117,108,108].toArray⟩) (Sh.call Tryz.prog (Sh.tabOf Tryz.prog Zg8) Sh.noSums 100000 72 [.int .i64 4] (Sh.memG Tryz.prog []))=true:=by kernel_rfl
theorem nm5:Sh.isVal (.string ⟨[76,111,97,100].toArray⟩) (Sh.call Tryz.prog (Sh.tabOf Tryz.prog Zg8) Sh.noSums 100000 72 [.int .i64 5] (Sh.memG Tryz.prog []))=true:=by kernel_rfl
theorem nm6:Sh.isVal (.string ⟨[83,116,111,114,101].toArray⟩) (Sh.call Tryz.prog (Sh.tabOf Tryz.prog Zg8) Sh.noSums 100000 72 [.int .i64 6] (Sh.memG Tryz.prog []))=true:=by kernel_rfl
theorem nm7:Sh.isVal (.string ⟨[80,111,112].toArray⟩) (Sh.call Tryz.prog (Sh.tabOf Tryz.prog Zg8) Sh.noSums 100000 72 [.int .i64 7] (Sh.memG Tryz.prog []))=true:=by kernel_rfl
theorem nm8:Sh.isVal (.string ⟨[65,100,100].toArray⟩) (Sh.call Tryz.prog (Sh.tabOf Tryz.prog Zg8) Sh.noSums 100000 72 [.int .i64 8] (Sh.memG Tryz.prog []))=true:=by kernel_rfl
theorem nm9:Sh.isVal (.string ⟨[83,117,98].toArray⟩) (Sh.call Tryz.prog (Sh.tabOf Tryz.prog Zg8) Sh.noSums 100000 72 [.int .i64 9] (Sh.memG Tryz.prog []))=true:=by kernel_rfl
theorem Z7q:Sh.isVal (.string ⟨[77,117,108].toArray⟩) (Sh.call Tryz.prog (Sh.tabOf Tryz.prog Zg8) Sh.noSums 100000 72 [.int .i64 10] (Sh.memG Tryz.prog []))=true:=by kernel_rfl
theorem Z73:Sh.isVal (.string ⟨[68,105,118].toArray⟩) (Sh.call Tryz.prog (Sh.tabOf Tryz.prog Zg8) Sh.noSums 100000 72 [.int .i64 11] (Sh.memG Tryz.prog []))=true:=by kernel_rfl
theorem Z7y:Sh.isVal (.string ⟨[82,101,109].toArray⟩) (Sh.call Tryz.prog (Sh.tabOf Tryz.prog Zg8) Sh.noSums 100000 72 [.int .i64 12] (Sh.memG Tryz.prog []))=true:=by kernel_rfl
theorem Z7i:Sh.isVal (.string ⟨[78,101,103].toArray⟩) (Sh.call Tryz.prog (Sh.tabOf Tryz.prog Zg8) Sh.noSums 100000 72 [.int .i64 13] (Sh.memG Tryz.prog []))=true:=by kernel_rfl
theorem Z7:Sh.isVal (.string ⟨[78,111,116].toArray⟩) (Sh.call Tryz.prog (Sh.tabOf Tryz.prog Zg8) Sh.noSums 100000 72 [.int .i64 14] (Sh.memG Tryz.prog []))=true:=by kernel_rfl
theorem Z8m:Sh.isVal (.string ⟨[69,113].toArray⟩) (Sh.call Tryz.prog (Sh.tabOf Tryz.prog Zg8) Sh.noSums 100000 72 [.int .i64 15] (Sh.memG Tryz.prog []))=true:=by kernel_rfl
theorem Z8k:Sh.isVal (.string ⟨[78,101].toArray⟩) (Sh.call Tryz.prog (Sh.tabOf Tryz.prog Zg8) Sh.noSums 100000 72 [.int .i64 16] (Sh.memG Tryz.prog []))=true:=by kernel_rfl
theorem Z7t:Sh.isVal (.string ⟨[76,116].toArray⟩) (Sh.call Tryz.prog (Sh.tabOf Tryz.prog Zg8) Sh.noSums 100000 72 [.int .i64 17] (Sh.memG Tryz.prog []))=true:=by kernel_rfl
theorem Z74:Sh.isVal (.string ⟨[76,101].toArray⟩) (Sh.call Tryz.prog (Sh.tabOf Tryz.prog Zg8) Sh.noSums 100000 72 [.int .i64 18] (Sh.memG Tryz.prog []))=true:=by kernel_rfl
theorem Z65:Sh.isVal (.string ⟨[71,116].toArray⟩) (Sh.call Tryz.prog (Sh.tabOf Tryz.prog Zg8) Sh.noSums 100000 72 [.int .i64 19] (Sh.memG Tryz.prog []))=true:=by kernel_rfl
theorem Z8i:Sh.isVal (.string ⟨[71,101].toArray⟩) (Sh.call Tryz.prog (Sh.tabOf Tryz.prog Zg8) Sh.noSums 100000 72 [.int .i64 20] (Sh.memG Tryz.prog []))=true:=by kernel_rfl
theorem Z75:Sh.isVal (.string ⟨[67,97,116].toArray⟩) (Sh.call Tryz.prog (Sh.tabOf Tryz.prog Zg8) Sh.noSums 100000 72 [.int .i64 21] (Sh.memG Tryz.prog []))=true:=by kernel_rfl
theorem Z66:Sh.isVal (.string ⟨[84,101,120,116,69,113].toArray⟩) (Sh.call Tryz.prog (Sh.tabOf Tryz.prog Zg8) Sh.noSums 100000 72 [.int .i64 22] (Sh.memG Tryz.prog []))=true:=by kernel_rfl
theorem Z8v:Sh.isVal (.string ⟨[84,101,120,116,78,101].toArray⟩) (Sh.call Tryz.prog (Sh.tabOf Tryz.prog Zg8) Sh.noSums 100000 72 [.int .i64 23] (Sh.memG Tryz.prog []))=true:=by kernel_rfl
theorem Z7v:Sh.isVal (.string ⟨[84,101,120,116,76,116].toArray⟩) (Sh.call Tryz.prog (Sh.tabOf Tryz.prog Zg8) Sh.noSums 100000 72 [.int .i64 24] (Sh.memG Tryz.prog []))=true:=by kernel_rfl
theorem Z8u:Sh.isVal (.string ⟨[84,101,120,116,76,101].toArray⟩) (Sh.call Tryz.prog (Sh.tabOf Tryz.prog Zg8) Sh.noSums 100000 72 [.int .i64 25] (Sh.memG Tryz.prog []))=true:=by kernel_rfl
theorem Z7o:Sh.isVal (.string ⟨[74,117,109,112].toArray⟩) (Sh.call Tryz.prog (Sh.tabOf Tryz.prog Zg8) Sh.noSums 100000 72 [.int .i64 26] (Sh.memG Tryz.prog []))=true:=by kernel_rfl
theorem Z8f:Sh.isVal (.string ⟨[74,117,109,112,78,111].toArray⟩) (Sh.call Tryz.prog (Sh.tabOf Tryz.prog Zg8) Sh.noSums 100000 72 [.int .i64 27] (Sh.memG Tryz.prog []))=true:=by kernel_rfl
theorem Z76:Sh.isVal (.string ⟨[70,105,101,108,100].toArray⟩) (Sh.call Tryz.prog (Sh.tabOf Tryz.prog Zg8) Sh.noSums 100000 72 [.int .i64 28] (Sh.memG Tryz.prog []))=true:=by kernel_rfl
theorem Z8j:Sh.isVal (.string ⟨[83,101,116,70,105,101,108,100].toArray⟩) (Sh.call Tryz.prog (Sh.tabOf Tryz.prog Zg8) Sh.noSums 100000 72 [.int .i64 29] (Sh.memG Tryz.prog []))=true:=by kernel_rfl
theorem Z63:Sh.isVal (.string ⟨[65,116].toArray⟩) (Sh.call Tryz.prog (Sh.tabOf Tryz.prog Zg8) Sh.noSums 100000 72 [.int .i64 30] (Sh.memG Tryz.prog []))=true:=by kernel_rfl
theorem Z64:Sh.isVal (.string ⟨[83,101,116,65,116].toArray⟩) (Sh.call Tryz.prog (Sh.tabOf Tryz.prog Zg8) Sh.noSums 100000 72 [.int .i64 31] (Sh.memG Tryz.prog []))=true:=by kernel_rfl
theorem Z8w:Sh.isVal (.string ⟨[84,101,120,116,65,116].toArray⟩) (Sh.call Tryz.prog (Sh.tabOf Tryz.prog Zg8) Sh.noSums 100000 72 [.int .i64 32] (Sh.memG Tryz.prog []))=true:=by kernel_rfl
theorem Z67:Sh.isVal (.string ⟨[76,101,110].toArray⟩) (Sh.call Tryz.prog (Sh.tabOf Tryz.prog Zg8) Sh.noSums 100000 72 [.int .i64 33] (Sh.memG Tryz.prog []))=true:=by kernel_rfl
theorem Z7l:Sh.isVal (.string ⟨[78,101,119].toArray⟩) (Sh.call Tryz.prog (Sh.tabOf Tryz.prog Zg8) Sh.noSums 100000 72 [.int .i64 34] (Sh.memG Tryz.prog []))=true:=by kernel_rfl
theorem Z7a:Sh.isVal (.string ⟨[77,97,107,101].toArray⟩) (Sh.call Tryz.prog (Sh.tabOf Tryz.prog Zg8) Sh.noSums 100000 72 [.int .i64 35] (Sh.memG Tryz.prog []))=true:=by kernel_rfl
theorem Z81:Sh.isVal (.string ⟨[67,97,108,108].toArray⟩) (Sh.call Tryz.prog (Sh.tabOf Tryz.prog Zg8) Sh.noSums 100000 72 [.int .i64 36] (Sh.memG Tryz.prog []))=true:=by kernel_rfl
theorem Z7c:Sh.isVal (.string ⟨[73,110,118,111,107,101].toArray⟩) (Sh.call Tryz.prog (Sh.tabOf Tryz.prog Zg8) Sh.noSums 100000 72 [.int .i64 37] (Sh.memG Tryz.prog []))=true:=by kernel_rfl
theorem Z8a:Sh.isVal (.string ⟨[67,97,115,116].toArray⟩) (Sh.call Tryz.prog (Sh.tabOf Tryz.prog Zg8) Sh.noSums 100000 72 [.int .i64 38] (Sh.memG Tryz.prog []))=true:=by kernel_rfl
theorem Z72:Sh.isVal (.string ⟨[80,114,105,110,116].toArray⟩) (Sh.call Tryz.prog (Sh.tabOf Tryz.prog Zg8) Sh.noSums 100000 72 [.int .i64 39] (Sh.memG Tryz.prog []))=true:=by kernel_rfl
theorem Z7j:Sh.isVal (.string ⟨[73,110,112,117,116].toArray⟩) (Sh.call Tryz.prog (Sh.tabOf Tryz.prog Zg8) Sh.noSums 100000 72 [.int .i64 40] (Sh.memG Tryz.prog []))=true:=by kernel_rfl
theorem Z8e:Sh.isVal (.string ⟨[82,101,116].toArray⟩) (Sh.call Tryz.prog (Sh.tabOf Tryz.prog Zg8) Sh.noSums 100000 72 [.int .i64 41] (Sh.memG Tryz.prog []))=true:=by kernel_rfl
def Z4z:Zed:=fun f=>if f=72 then nmL else []
theorem Z3s:Zlz Tryz.prog Z4z:=by
 intro f p hp
 unfold Z4z at hp
 split at hp
 ·rename_i hf
  subst hf
  simp only [nmL,List.mem_cons,List.not_mem_nil,or_false] at hp
  have key:∀ (a:List Value) (v:Value),Zd5 a=true→Zbs v=true→Sh.isVal v (Sh.call Tryz.prog (Sh.tabOf Tryz.prog Zg8) Sh.noSums 100000 72 a (Sh.memG Tryz.prog []))=true→_:=fun a v h1 h2 h=>fun w=>Sh.closed_val Zuh (Sh.tab_ok Z69) (Sh.noSums_ok _) 100000 72 Tryz.func72 (by kernel_rfl) (gs:=[]) h1 h2 h w (fun p hp=>by simp at hp)
  have fin:Tryz.prog.funcs[72]?=some Tryz.f72:=Tryz.func72
  rcases hp with rfl | rfl | rfl | rfl | rfl | rfl | rfl | rfl | rfl | rfl | rfl | rfl | rfl | rfl | rfl | rfl | rfl | rfl | rfl | rfl | rfl | rfl | rfl | rfl | rfl | rfl | rfl | rfl | rfl | rfl | rfl | rfl | rfl | rfl | rfl | rfl | rfl | rfl | rfl | rfl | rfl
  ·exact⟨rfl,rfl,⟨Tryz.f72,Tryz.func72,by kernel_rfl,by kernel_rfl⟩,key _ _ rfl rfl nm1⟩
  ·exact⟨rfl,rfl,⟨Tryz.f72,Tryz.func72,by kernel_rfl,by kernel_rfl⟩,key _ _ rfl rfl nm2⟩
  ·exact⟨rfl,rfl,⟨Tryz.f72,Tryz.func72,by kernel_rfl,by kernel_rfl⟩,key _ _ rfl rfl nm3⟩
  ·exact⟨rfl,rfl,⟨Tryz.f72,Tryz.func72,by kernel_rfl,by kernel_rfl⟩,key _ _ rfl rfl nm4⟩
  ·exact⟨rfl,rfl,⟨Tryz.f72,Tryz.func72,by kernel_rfl,by kernel_rfl⟩,key _ _ rfl rfl nm5⟩
  ·exact⟨rfl,rfl,⟨Tryz.f72,Tryz.func72,by kernel_rfl,by kernel_rfl⟩,key _ _ rfl rfl nm6⟩
  ·exact⟨rfl,rfl,⟨Tryz.f72,Tryz.func72,by kernel_rfl,by kernel_rfl⟩,key _ _ rfl rfl nm7⟩
  ·exact⟨rfl,rfl,⟨Tryz.f72,Tryz.func72,by kernel_rfl,by kernel_rfl⟩,key _ _ rfl rfl nm8⟩
  ·exact⟨rfl,rfl,⟨Tryz.f72,Tryz.func72,by kernel_rfl,by kernel_rfl⟩,key _ _ rfl rfl nm9⟩
  ·exact⟨rfl,rfl,⟨Tryz.f72,Tryz.func72,by kernel_rfl,by kernel_rfl⟩,key _ _ rfl rfl Z7q⟩
  ·exact⟨rfl,rfl,⟨Tryz.f72,Tryz.func72,by kernel_rfl,by kernel_rfl⟩,key _ _ rfl rfl Z73⟩
  ·exact⟨rfl,rfl,⟨Tryz.f72,Tryz.func72,by kernel_rfl,by kernel_rfl⟩,key _ _ rfl rfl Z7y⟩
  ·exact⟨rfl,rfl,⟨Tryz.f72,Tryz.func72,by kernel_rfl,by kernel_rfl⟩,key _ _ rfl rfl Z7i⟩
  ·exact⟨rfl,rfl,⟨Tryz.f72,Tryz.func72,by kernel_rfl,by kernel_rfl⟩,key _ _ rfl rfl Z7⟩
  ·exact⟨rfl,rfl,⟨Tryz.f72,Tryz.func72,by kernel_rfl,by kernel_rfl⟩,key _ _ rfl rfl Z8m⟩
  ·exact⟨rfl,rfl,⟨Tryz.f72,Tryz.func72,by kernel_rfl,by kernel_rfl⟩,key _ _ rfl rfl Z8k⟩
  ·exact⟨rfl,rfl,⟨Tryz.f72,Tryz.func72,by kernel_rfl,by kernel_rfl⟩,key _ _ rfl rfl Z7t⟩
  ·exact⟨rfl,rfl,⟨Tryz.f72,Tryz.func72,by kernel_rfl,by kernel_rfl⟩,key _ _ rfl rfl Z74⟩
  ·exact⟨rfl,rfl,⟨Tryz.f72,Tryz.func72,by kernel_rfl,by kernel_rfl⟩,key _ _ rfl rfl Z65⟩
  ·exact⟨rfl,rfl,⟨Tryz.f72,Tryz.func72,by kernel_rfl,by kernel_rfl⟩,key _ _ rfl rfl Z8i⟩
  ·exact⟨rfl,rfl,⟨Tryz.f72,Tryz.func72,by kernel_rfl,by kernel_rfl⟩,key _ _ rfl rfl Z75⟩
  ·exact⟨rfl,rfl,⟨Tryz.f72,Tryz.func72,by kernel_rfl,by kernel_rfl⟩,key _ _ rfl rfl Z66⟩
  ·exact⟨rfl,rfl,⟨Tryz.f72,Tryz.func72,by kernel_rfl,by kernel_rfl⟩,key _ _ rfl rfl Z8v⟩
  ·exact⟨rfl,rfl,⟨Tryz.f72,Tryz.func72,by kernel_rfl,by kernel_rfl⟩,key _ _ rfl rfl Z7v⟩
  ·exact⟨rfl,rfl,⟨Tryz.f72,Tryz.func72,by kernel_rfl,by kernel_rfl⟩,key _ _ rfl rfl Z8u⟩
  ·exact⟨rfl,rfl,⟨Tryz.f72,Tryz.func72,by kernel_rfl,by kernel_rfl⟩,key _ _ rfl rfl Z7o⟩
  ·exact⟨rfl,rfl,⟨Tryz.f72,Tryz.func72,by kernel_rfl,by kernel_rfl⟩,key _ _ rfl rfl Z8f⟩
  ·exact⟨rfl,rfl,⟨Tryz.f72,Tryz.func72,by kernel_rfl,by kernel_rfl⟩,key _ _ rfl rfl Z76⟩
  ·exact⟨rfl,rfl,⟨Tryz.f72,Tryz.func72,by kernel_rfl,by kernel_rfl⟩,key _ _ rfl rfl Z8j⟩
  ·exact⟨rfl,rfl,⟨Tryz.f72,Tryz.func72,by kernel_rfl,by kernel_rfl⟩,key _ _ rfl rfl Z63⟩
  ·exact⟨rfl,rfl,⟨Tryz.f72,Tryz.func72,by kernel_rfl,by kernel_rfl⟩,key _ _ rfl rfl Z64⟩
  ·exact⟨rfl,rfl,⟨Tryz.f72,Tryz.func72,by kernel_rfl,by kernel_rfl⟩,key _ _ rfl rfl Z8w⟩
  ·exact⟨rfl,rfl,⟨Tryz.f72,Tryz.func72,by kernel_rfl,by kernel_rfl⟩,key _ _ rfl rfl Z67⟩
  ·exact⟨rfl,rfl,⟨Tryz.f72,Tryz.func72,by kernel_rfl,by kernel_rfl⟩,key _ _ rfl rfl Z7l⟩
  ·exact⟨rfl,rfl,⟨Tryz.f72,Tryz.func72,by kernel_rfl,by kernel_rfl⟩,key _ _ rfl rfl Z7a⟩
  ·exact⟨rfl,rfl,⟨Tryz.f72,Tryz.func72,by kernel_rfl,by kernel_rfl⟩,key _ _ rfl rfl Z81⟩
  ·exact⟨rfl,rfl,⟨Tryz.f72,Tryz.func72,by kernel_rfl,by kernel_rfl⟩,key _ _ rfl rfl Z7c⟩
  ·exact⟨rfl,rfl,⟨Tryz.f72,Tryz.func72,by kernel_rfl,by kernel_rfl⟩,key _ _ rfl rfl Z8a⟩
  ·exact⟨rfl,rfl,⟨Tryz.f72,Tryz.func72,by kernel_rfl,by kernel_rfl⟩,key _ _ rfl rfl Z72⟩
  ·exact⟨rfl,rfl,⟨Tryz.f72,Tryz.func72,by kernel_rfl,by kernel_rfl⟩,key _ _ rfl rfl Z7j⟩
  ·exact⟨rfl,rfl,⟨Tryz.f72,Tryz.func72,by kernel_rfl,by kernel_rfl⟩,key _ _ rfl rfl Z8e⟩
 ·simp at hp
end Go.Proofs.YtbldiceiindbdaaGreatDoor.base
