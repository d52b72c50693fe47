/- This text proves the names of all ops by reckoning (closed calls of ssa.Name), and chapter 16's known. No condition. -/
import Derived.Test.YtlogdohlcdhepaaDoorGen
import Derived.Test.YtlogdohlcdhepaaDoorM13
import Derived.Test.YtlogdohlcdhepaaDoorM23
import Derived.Test.YtlogdohlcdhepaaDoorM19
set_option linter.unusedVariables false
set_option linter.unusedSimpArgs false
section
set_option maxRecDepth 100000
namespace Go.Proofs.YtlogdohlcdhepaaDoor.base
open Go.Sh gen
theorem Ztd:Tryd.prog.follows .mixedOrders=true:=by kernel_rfl
def Zlz:List FuncId:=[9,10,11,12,22,25,26,27,28,29,46,47,48,49,50,51,52,53,54,57,58,61,64,65,66,67,68,69,70,71,72,73,74,75,76,79,78,80,81,82,83,84,86,87,90,91,93,97]
theorem Yci:Sh.tabCheck Tryd.prog Zlz=true:=by kernel_rfl
theorem nm1:Sh.isVal (.string ⟨[80,97,114,97,109].toArray⟩) (Sh.call Tryd.prog (Sh.tabOf Tryd.prog Zlz) Sh.noSums 100000 66 [.int .i64 1] (Sh.memG Tryd.prog []))=true:=by kernel_rfl
theorem nm2:Sh.isVal (.string ⟨[67,111,110,115,116].toArray⟩) (Sh.call Tryd.prog (Sh.tabOf Tryd.prog Zlz) Sh.noSums 100000 66 [.int .i64 2] (Sh.memG Tryd.prog []))=true:=by kernel_rfl
theorem nm3:Sh.isVal (.string ⟨[65,100,100].toArray⟩) (Sh.call Tryd.prog (Sh.tabOf Tryd.prog Zlz) Sh.noSums 100000 66 [.int .i64 3] (Sh.memG Tryd.prog []))=true:=by kernel_rfl
theorem nm4:Sh.isVal (.string ⟨[83,117,98].toArray⟩) (Sh.call Tryd.prog (Sh.tabOf Tryd.prog Zlz) Sh.noSums 100000 66 [.int .i64 4] (Sh.memG Tryd.prog []))=true:=by kernel_rfl
theorem nm5:Sh.isVal (.string ⟨[77,117,108].toArray⟩) (Sh.call Tryd.prog (Sh.tabOf Tryd.prog Zlz) Sh.noSums 100000 66 [.int .i64 5] (Sh.memG Tryd.prog []))=true:=by kernel_rfl
theorem nm6:Sh.isVal (.string ⟨[68,105,118].toArray⟩) (Sh.call Tryd.prog (Sh.tabOf Tryd.prog Zlz) Sh.noSums 100000 66 [.int .i64 6] (Sh.memG Tryd.prog []))=true:=by kernel_rfl
theorem nm7:Sh.isVal (.string ⟨[82,101,109].toArray⟩) (Sh.call Tryd.prog (Sh.tabOf Tryd.prog Zlz) Sh.noSums 100000 66 [.int .i64 7] (Sh.memG Tryd.prog []))=true:=by kernel_rfl
theorem nm8:Sh.isVal (.string ⟨[78,101,103].toArray⟩) (Sh.call Tryd.prog (Sh.tabOf Tryd.prog Zlz) Sh.noSums 100000 66 [.int .i64 8] (Sh.memG Tryd.prog []))=true:=by kernel_rfl
theorem nm9:Sh.isVal (.string ⟨[78,111,116].toArray⟩) (Sh.call Tryd.prog (Sh.tabOf Tryd.prog Zlz) Sh.noSums 100000 66 [.int .i64 9] (Sh.memG Tryd.prog []))=true:=by kernel_rfl
theorem Ydh:Sh.isVal (.string ⟨[69,113].toArray⟩) (Sh.call Tryd.prog (Sh.tabOf Tryd.prog Zlz) Sh.noSums 100000 66 [.int .i64 10] (Sh.memG Tryd.prog []))=true:=by kernel_rfl
theorem Yc1:Sh.isVal (.string ⟨[78,101].toArray⟩) (Sh.call Tryd.prog (Sh.tabOf Tryd.prog Zlz) Sh.noSums 100000 66 [.int .i64 11] (Sh.memG Tryd.prog []))=true:=by kernel_rfl
theorem Yc2:Sh.isVal (.string ⟨[76,116].toArray⟩) (Sh.call Tryd.prog (Sh.tabOf Tryd.prog Zlz) Sh.noSums 100000 66 [.int .i64 12] (Sh.memG Tryd.prog []))=true:=by kernel_rfl
theorem Ydr:Sh.isVal (.string ⟨[76,101].toArray⟩) (Sh.call Tryd.prog (Sh.tabOf Tryd.prog Zlz) Sh.noSums 100000 66 [.int .i64 13] (Sh.memG Tryd.prog []))=true:=by kernel_rfl
theorem Yc4:Sh.isVal (.string ⟨[66,101,108,111,119].toArray⟩) (Sh.call Tryd.prog (Sh.tabOf Tryd.prog Zlz) Sh.noSums 100000 66 [.int .i64 14] (Sh.memG Tryd.prog []))=true:=by kernel_rfl
theorem Yc8:Sh.isVal (.string ⟨[84,121,112,101,79,102].toArray⟩) (Sh.call Tryd.prog (Sh.tabOf Tryd.prog Zlz) Sh.noSums 100000 66 [.int .i64 15] (Sh.memG Tryd.prog []))=true:=by kernel_rfl
theorem Ycl:Sh.isVal (.string ⟨[76,101,110,79,102].toArray⟩) (Sh.call Tryd.prog (Sh.tabOf Tryd.prog Zlz) Sh.noSums 100000 66 [.int .i64 16] (Sh.memG Tryd.prog []))=true:=by kernel_rfl
theorem Yco:Sh.isVal (.string ⟨[87,111,114,100].toArray⟩) (Sh.call Tryd.prog (Sh.tabOf Tryd.prog Zlz) Sh.noSums 100000 66 [.int .i64 17] (Sh.memG Tryd.prog []))=true:=by kernel_rfl
theorem Ydv:Sh.isVal (.string ⟨[87,111,114,100,65,116].toArray⟩) (Sh.call Tryd.prog (Sh.tabOf Tryd.prog Zlz) Sh.noSums 100000 66 [.int .i64 18] (Sh.memG Tryd.prog []))=true:=by kernel_rfl
theorem Ydi:Sh.isVal (.string ⟨[80,117,116].toArray⟩) (Sh.call Tryd.prog (Sh.tabOf Tryd.prog Zlz) Sh.noSums 100000 66 [.int .i64 19] (Sh.memG Tryd.prog []))=true:=by kernel_rfl
theorem Ycp:Sh.isVal (.string ⟨[80,117,116,65,116].toArray⟩) (Sh.call Tryd.prog (Sh.tabOf Tryd.prog Zlz) Sh.noSums 100000 66 [.int .i64 20] (Sh.memG Tryd.prog []))=true:=by kernel_rfl
theorem Ydm:Sh.isVal (.string ⟨[80,104,105].toArray⟩) (Sh.call Tryd.prog (Sh.tabOf Tryd.prog Zlz) Sh.noSums 100000 66 [.int .i64 21] (Sh.memG Tryd.prog []))=true:=by kernel_rfl
theorem Ydd:Sh.isVal (.string ⟨[71,117,97,114,100].toArray⟩) (Sh.call Tryd.prog (Sh.tabOf Tryd.prog Zlz) Sh.noSums 100000 66 [.int .i64 22] (Sh.memG Tryd.prog []))=true:=by kernel_rfl
theorem Ydj:Sh.isVal (.string ⟨[80,111,108,108].toArray⟩) (Sh.call Tryd.prog (Sh.tabOf Tryd.prog Zlz) Sh.noSums 100000 66 [.int .i64 23] (Sh.memG Tryd.prog []))=true:=by kernel_rfl
def Yb4:List (List UInt8):=[[],[80,97,114,97,109],[67,111,110,115,116],[65,100,100],[83,117,98],[77,117,108],[68,105,118],[82,101,109],[78,101,103],[78,111,116],[69,113],[78,101],[76,116],[76,101],[66,101,108,111,119],[84,121,112,101,79,102],[76,101,110,79,102],[87,111,114,100],[87,111,114,100,65,116],[80,117,116],[80,117,116,65,116],[80,104,105],[71,117,97,114,100],[80,111,108,108]]
def nmL:List (List Value × Value):=[([.int .i64 1],.string ⟨[80,97,114,97,109].toArray⟩),([.int .i64 2],.string ⟨[67,111,110,115,116].toArray⟩),([.int .i64 3],.string ⟨[65,100,100].toArray⟩),([.int .i64 4],.string ⟨[83,117,98].toArray⟩),([.int .i64 5],.string ⟨[77,117,108].toArray⟩),([.int .i64 6],.string ⟨[68,105,118].toArray⟩),([.int .i64 7],.string ⟨[82,101,109].toArray⟩),([.int .i64 8],.string ⟨[78,101,103].toArray⟩),([.int .i64 9],.string ⟨[78,111,116].toArray⟩),([.int .i64 10],.string ⟨[69,113].toArray⟩),([.int .i64 11],.string ⟨[78,101].toArray⟩),([.int .i64 12],.string ⟨[76,116].toArray⟩),([.int .i64 13],.string ⟨[76,101].toArray⟩),([.int .i64 14],.string ⟨[66,101,108,111,119].toArray⟩),([.int .i64 15],.string ⟨[84,121,112,101,79,102].toArray⟩),([.int .i64 16],.string ⟨[76,101,110,79,102].toArray⟩),([.int .i64 17],.string ⟨[87,111,114,100].toArray⟩),([.int .i64 18],.string ⟨[87,111,114,100,65,116].toArray⟩),([.int .i64 19],.string ⟨[80,117,116].toArray⟩),([.int .i64 20],.string ⟨[80,117,116,65,116].toArray⟩),([.int .i64 21],.string ⟨[80,104,105].toArray⟩),([.int .i64 22],.string ⟨[71,117,97,114,100].toArray⟩),([.int .i64 23],.string ⟨[80,111,108,108].toArray⟩)]
def Zzx:Zc:=fun f=>if f=66 then nmL else []
theorem Z1g:Zlw Tryd.prog Zzx:=by
 intro f p hp
 unfold Zzx at hp
 split at hp
 ·rename_i hf
  subst hf
  simp only [nmL,List.mem_cons,List.not_mem_nil,or_false] at hp
  have key:∀ (a:List Value) (v:Value),Zc0 a=true→Zav v=true→Sh.isVal v (Sh.call Tryd.prog (Sh.tabOf Tryd.prog Zlz) Sh.noSums 100000 66 a (Sh.memG Tryd.prog []))=true→_:=fun a v h1 h2 h=>fun w=>Sh.closed_val Ztd (Sh.tab_ok Yci) (Sh.noSums_ok _) 100000 66 Tryd.func66 (by kernel_rfl) (gs:=[]) h1 h2 h w (fun p hp=>by simp at hp)
  have fin:Tryd.prog.funcs[66]?=some Tryd.f66:=Tryd.func66
  rcases hp with rfl | rfl | rfl | rfl | rfl | rfl | rfl | rfl | rfl | rfl | rfl | rfl | rfl | rfl | rfl | rfl | rfl | rfl | rfl | rfl | rfl | rfl | rfl
  ·exact⟨rfl,rfl,⟨Tryd.f66,Tryd.func66,by kernel_rfl,by kernel_rfl⟩,key _ _ rfl rfl nm1⟩
  ·exact⟨rfl,rfl,⟨Tryd.f66,Tryd.func66,by kernel_rfl,by kernel_rfl⟩,key _ _ rfl rfl nm2⟩
  ·exact⟨rfl,rfl,⟨Tryd.f66,Tryd.func66,by kernel_rfl,by kernel_rfl⟩,key _ _ rfl rfl nm3⟩
  ·exact⟨rfl,rfl,⟨Tryd.f66,Tryd.func66,by kernel_rfl,by kernel_rfl⟩,key _ _ rfl rfl nm4⟩
  ·exact⟨rfl,rfl,⟨Tryd.f66,Tryd.func66,by kernel_rfl,by kernel_rfl⟩,key _ _ rfl rfl nm5⟩
  ·exact⟨rfl,rfl,⟨Tryd.f66,Tryd.func66,by kernel_rfl,by kernel_rfl⟩,key _ _ rfl rfl nm6⟩
  ·exact⟨rfl,rfl,⟨Tryd.f66,Tryd.func66,by kernel_rfl,by kernel_rfl⟩,key _ _ rfl rfl nm7⟩
  ·exact⟨rfl,rfl,⟨Tryd.f66,Tryd.func66,by kernel_rfl,by kernel_rfl⟩,key _ _ rfl rfl nm8⟩
  ·exact⟨rfl,rfl,⟨Tryd.f66,Tryd.func66,by kernel_rfl,by kernel_rfl⟩,key _ _ rfl rfl nm9⟩
  ·exact⟨rfl,rfl,⟨Tryd.f66,Tryd.func66,by kernel_rfl,by kernel_rfl⟩,key _ _ rfl rfl Ydh⟩
  ·exact⟨rfl,rfl,⟨Tryd.f66,Tryd.func66,by kernel_rfl,by kernel_rfl⟩,key _ _ rfl rfl Yc1⟩
  ·exact⟨rfl,rfl,⟨Tryd.f66,Tryd.func66,by kernel_rfl,by kernel_rfl⟩,key _ _ rfl rfl Yc2⟩
  ·exact⟨rfl,rfl,⟨Tryd.f66,Tryd.func66,by kernel_rfl,by kernel_rfl⟩,key _ _ rfl rfl Ydr⟩
  ·exact⟨rfl,rfl,⟨Tryd.f66,Tryd.func66,by kernel_rfl,by kernel_rfl⟩,key _ _ rfl rfl Yc4⟩
  ·exact⟨rfl,rfl,⟨Tryd.f66,Tryd.func66,by kernel_rfl,by kernel_rfl⟩,key _ _ rfl rfl Yc8⟩
  ·exact⟨rfl,rfl,⟨Tryd.f66,Tryd.func66,by kernel_rfl,by kernel_rfl⟩,key _ _ rfl rfl Ycl⟩
  ·exact⟨rfl,rfl,⟨Tryd.f66,Tryd.func66,by kernel_rfl,by kernel_rfl⟩,key _ _ rfl rfl Yco⟩
  ·exact⟨rfl,rfl,⟨Tryd.f66,Tryd.func66,by kernel_rfl,by kernel_rfl⟩,key _ _ rfl rfl Ydv⟩
  ·exact⟨rfl,rfl,⟨Tryd.f66,Tryd.func66,by kernel_rfl,by kernel_rfl⟩,key _ _ rfl rfl Ydi⟩
  ·exact⟨rfl,rfl,⟨Tryd.f66,Tryd.func66,by kernel_rfl,by kernel_rfl⟩,key _ _ rfl rfl Ycp⟩
  ·exact⟨rfl,rfl,⟨Tryd.f66,Tryd.func66,by kernel_rfl,by kernel_rfl⟩,key _ _ rfl rfl Ydm⟩
  ·exact⟨rfl,rfl,⟨Tryd.f66,Tryd.func66,by kernel_rfl,by kernel_rfl⟩,key _ _ rfl rfl Ydd⟩
  ·exact⟨rfl,rfl,⟨Tryd.f66,Tryd.func66,by kernel_rfl,by kernel_rfl⟩,key _ _ rfl rfl Ydj⟩
 ·simp at hp
theorem known:Sh.isVal (.bool true) (Sh.call Tryd.prog (Sh.tabOf Tryd.prog Zlz) Zzx 100000 12 [] (Sh.memG Tryd.prog []))=true:=by kernel_rfl
def Z9o:Zc:=fun f=>if f=12 then [([],.bool true)] else Zzx f
theorem Z9k:Zlw Tryd.prog Z9o:=by
 intro f p hp
 unfold Z9o at hp
 split at hp
 ·rename_i hf
  subst hf
  simp only [List.mem_cons,List.not_mem_nil,or_false] at hp
  subst hp
  exact⟨rfl,rfl,⟨Tryd.f12,Tryd.func12,by kernel_rfl,by kernel_rfl⟩,fun w=>Sh.closed_val Ztd (Sh.tab_ok Yci) Z1g 100000 12 Tryd.func12 (by kernel_rfl) (gs:=[]) (by kernel_rfl) (by kernel_rfl) known w (fun p hp=>by simp at hp)⟩
 ·exact Z1g f p hp
end Go.Proofs.YtlogdohlcdhepaaDoor.base
end
section
set_option maxRecDepth 100000
namespace Go.Proofs.YtlogdohlcdhepaaDoor.base
open Go.Sh gen
variable {S:Zc}{m:Mem}
def Zec (op:Int):List UInt8:=if 1≤op∧op≤23 then Yb4.getD op.toNat [] else []
theorem Z4j (op:Int):(Zec op=[])↔¬ (1≤op∧op≤23):=by
 rcases Zp7 op with (rfl | rfl | rfl | rfl | rfl | rfl | rfl | rfl | rfl | rfl | rfl | rfl | rfl | rfl | rfl | rfl | rfl | rfl | rfl | rfl | rfl | rfl | rfl | hno)
 all_goals first
  | (simp [Zec,Yb4];done)
  | (unfold Zec;rw [if_neg (by omega)];simp;omega)
theorem Z2i (hS:S 66=nmL)(op:Int):Zal Tryd.prog TT S 66 [.int .i64 op] m=some (.string ⟨(Zec op).toArray⟩,m):=by
 rcases Zp7 op with (rfl | rfl | rfl | rfl | rfl | rfl | rfl | rfl | rfl | rfl | rfl | rfl | rfl | rfl | rfl | rfl | rfl | rfl | rfl | rfl | rfl | rfl | rfl | hno)
 ·exact Zdj (p:=([.int .i64 1],.string ⟨(Zec 1).toArray⟩)) (by rw [hS];rfl)
 ·exact Zdj (p:=([.int .i64 2],.string ⟨(Zec 2).toArray⟩)) (by rw [hS];rfl)
 ·exact Zdj (p:=([.int .i64 3],.string ⟨(Zec 3).toArray⟩)) (by rw [hS];rfl)
 ·exact Zdj (p:=([.int .i64 4],.string ⟨(Zec 4).toArray⟩)) (by rw [hS];rfl)
 ·exact Zdj (p:=([.int .i64 5],.string ⟨(Zec 5).toArray⟩)) (by rw [hS];rfl)
 ·exact Zdj (p:=([.int .i64 6],.string ⟨(Zec 6).toArray⟩)) (by rw [hS];rfl)
 ·exact Zdj (p:=([.int .i64 7],.string ⟨(Zec 7).toArray⟩)) (by rw [hS];rfl)
 ·exact Zdj (p:=([.int .i64 8],.string ⟨(Zec 8).toArray⟩)) (by rw [hS];rfl)
 ·exact Zdj (p:=([.int .i64 9],.string ⟨(Zec 9).toArray⟩)) (by rw [hS];rfl)
 ·exact Zdj (p:=([.int .i64 10],.string ⟨(Zec 10).toArray⟩)) (by rw [hS];rfl)
 ·exact Zdj (p:=([.int .i64 11],.string ⟨(Zec 11).toArray⟩)) (by rw [hS];rfl)
 ·exact Zdj (p:=([.int .i64 12],.string ⟨(Zec 12).toArray⟩)) (by rw [hS];rfl)
 ·exact Zdj (p:=([.int .i64 13],.string ⟨(Zec 13).toArray⟩)) (by rw [hS];rfl)
 ·exact Zdj (p:=([.int .i64 14],.string ⟨(Zec 14).toArray⟩)) (by rw [hS];rfl)
 ·exact Zdj (p:=([.int .i64 15],.string ⟨(Zec 15).toArray⟩)) (by rw [hS];rfl)
 ·exact Zdj (p:=([.int .i64 16],.string ⟨(Zec 16).toArray⟩)) (by rw [hS];rfl)
 ·exact Zdj (p:=([.int .i64 17],.string ⟨(Zec 17).toArray⟩)) (by rw [hS];rfl)
 ·exact Zdj (p:=([.int .i64 18],.string ⟨(Zec 18).toArray⟩)) (by rw [hS];rfl)
 ·exact Zdj (p:=([.int .i64 19],.string ⟨(Zec 19).toArray⟩)) (by rw [hS];rfl)
 ·exact Zdj (p:=([.int .i64 20],.string ⟨(Zec 20).toArray⟩)) (by rw [hS];rfl)
 ·exact Zdj (p:=([.int .i64 21],.string ⟨(Zec 21).toArray⟩)) (by rw [hS];rfl)
 ·exact Zdj (p:=([.int .i64 22],.string ⟨(Zec 22).toArray⟩)) (by rw [hS];rfl)
 ·exact Zdj (p:=([.int .i64 23],.string ⟨(Zec 23).toArray⟩)) (by rw [hS];rfl)
 ·have hf:(S 66).find? (fun p=>eqL p.1 [Value.int .i64 op])=none:=by
   rw [hS,List.find?_eq_none]
   intro p hp
   simp only [nmL,List.mem_cons,List.not_mem_nil,or_false] at hp
   rcases hp with rfl | rfl | rfl | rfl | rfl | rfl | rfl | rfl | rfl | rfl | rfl | rfl | rfl | rfl | rfl | rfl | rfl | rfl | rfl | rfl | rfl | rfl | rfl
   all_goals (simp [eqL,eqV];omega)
  have e0:Zec op=[]:=by unfold Zec;rw [if_neg (by omega)]
  rw [e0]
  refine Z9s 3 [8] k66 hf rfl ?_
  rcases hno with h | h
  ·simp [h]
  ·have h1:¬ op < 1:=by omega
   simp [h,h1]
theorem Z6i (hS:S 66=nmL):Ycc S:=by
 intro m op
 refine⟨Zec op,Z2i hS op,?_⟩
 rw [Z4j]
 unfold Zv5
 rw [Bool.and_eq_false_iff,decide_eq_false_iff_not,decide_eq_false_iff_not]
 omega
structure Nz (S:Zc):Prop where
 name:S 66=nmL
 e:∀ f,f≠66→f≠12→S f=[]
theorem nz:Nz Z9o:=⟨rfl,fun f h1 h2=>by simp [Z9o,Zzx,h1,h2]⟩
theorem Nz.nk (h:Nz S):Nk S:=
 ⟨h.e _ (by decide) (by decide),h.e _ (by decide) (by decide),h.e _ (by decide) (by decide),h.e _ (by decide) (by decide),h.e _ (by decide) (by decide),h.e _ (by decide) (by decide),
  ⟨Z6i h.name,h.e _ (by decide) (by decide),h.e _ (by decide) (by decide),h.e _ (by decide) (by decide),h.e _ (by decide) (by decide),h.e _ (by decide) (by decide),h.e _ (by decide) (by decide),h.e _ (by decide) (by decide),h.e _ (by decide) (by decide),h.e _ (by decide) (by decide)⟩,
  ⟨h.e _ (by decide) (by decide),h.e _ (by decide) (by decide),h.e _ (by decide) (by decide),h.e _ (by decide) (by decide)⟩,
  ⟨h.e _ (by decide) (by decide),h.e _ (by decide) (by decide),h.e _ (by decide) (by decide),h.e _ (by decide) (by decide),h.e _ (by decide) (by decide),h.e _ (by decide) (by decide)⟩,
  ⟨h.e _ (by decide) (by decide),h.e _ (by decide) (by decide),h.e _ (by decide) (by decide),h.e _ (by decide) (by decide),h.e _ (by decide) (by decide),h.e _ (by decide) (by decide),h.e _ (by decide) (by decide)⟩⟩
theorem Zz8 {u:UnT.D}{s:StS}(h:Zob u=some s):Zjm u=true∧Zwq u=true∧Zdt u=some s∧Zub u s.1=true∧Zrb u=true∧Zq3 u=true:=by
 unfold Zob at h
 split at h
 ·rename_i h1
  rw [Bool.and_eq_true] at h1
  obtain⟨h2,h3⟩:=Option.filter_eq_some_iff.1 h
  rw [Bool.and_eq_true,Bool.and_eq_true] at h3
  exact⟨h1.1,h1.2,h2,h3.1.1,h3.1.2,h3.2⟩
 ·cases h
end Go.Proofs.YtlogdohlcdhepaaDoor.base
end
section
set_option maxRecDepth 100000
namespace Go.Proofs.YtlogdohlcdhepaaDoor.base
open Go.Sh gen
variable {S:Zc}{m:Mem}{Q:Nat→Prop}
theorem Za5.atQ {ao:Option Addr}{l:List Int}(h:Za5 Q m ao l):AtQ Q m (Ty.slice 3 (Ty.int .i64)) l [.slice ao l.length l.length]:=by
 obtain⟨f,h1,h2⟩:=h
 refine⟨ao,l.map fun n=>[Value.int .i64 n],f,rfl,by simp,fun i d c hd hc=>?_,?_,h2⟩
 ·rw [List.getElem?_map,hd] at hc
  simp only [Option.map_some,Option.some.injEq] at hc
  exact hc.symm
 ·rw [← List.flatMap_def,← List.map_eq_flatMap]
  exact h1
theorem Zs2 {l:List Int}{e:TypeId}{css:List (List Value)}(h2:css.length=l.length)(h3:∀ (i:Nat) (d:(Ty.int .u64).D) c,l[i]?=some d→css[i]?=some c→At m (Ty.int .u64) d c):css.flatten=words l:=by
 have:css=l.map fun n=>[Value.int .u64 n]:=by
  apply List.ext_getElem?
  intro i
  by_cases hi:i < l.length
  ·have hc:i < css.length:=by omega
   have:=h3 i l[i] css[i] (List.getElem?_eq_getElem hi) (List.getElem?_eq_getElem hc)
   simp only [At] at this
   simp [hi,hc,this]
  ·rw [List.getElem?_eq_none (by omega),List.getElem?_eq_none (by simp;omega)]
 rw [this,← List.flatMap_def]
 exact List.map_eq_flatMap.symm
theorem Zvu {l:List Int}{c:List Value}(h:AtQ Q m (Ty.slice 45 (Ty.int .u64)) l c):∃ ao f,c=[.slice ao l.length l.length]∧Rs m ao l.length (words l) 45 1 f:=by
 obtain⟨ao,css,fam,h1,h2,h3,h4,h5⟩:=h
 have:=Zs2 (e:=45) h2 (fun i d c h6 h7=>(h3 i d c h6 h7).at_)
 rw [this] at h4
 exact⟨ao,fam,h1,h4⟩
theorem Zr7 {fs:List Yac.D}{fo:Option Addr}(h:AtQ Q m (Ty.slice 44 (Ty.pair (Ty.int .i64) (Ty.pair (Ty.int .i64) (Ty.pair (Ty.slice 45 (Ty.int .u64)) (Ty.pair (Ty.slice 45 (Ty.int .u64)) Ty.unit))))) fs [.slice fo fs.length fs.length]){i:Nat}(hi:i < fs.length) :
  ∃ (b:Nat) (lo so:Option Addr) (f1 f2:Nat),fo=some ⟨b,0,none⟩∧loadRow m ⟨b,i * 4,none⟩ 4=some [.int .i64 (fs[i]).1,.int .i64 (fs[i]).2.1,.slice lo (fs[i]).2.2.1.length (fs[i]).2.2.1.length,.slice so (fs[i]).2.2.2.1.length (fs[i]).2.2.2.1.length]∧
   Rs m lo (fs[i]).2.2.1.length (words (show List Int from (fs[i]).2.2.1)) 45 1 f1∧Rs m so (fs[i]).2.2.2.1.length (words (show List Int from (fs[i]).2.2.2.1)) 45 1 f2:=by
 obtain⟨vb,c,fam,e,hc,hl,hq,_⟩:=Zit h hi
 obtain⟨_,_,e1,rfl,_,_,e2,rfl,_,_,e3,h3,_,_,e4,h4,h5⟩:=hc
 simp only [AtQ] at h5
 subst h5
 obtain⟨lo,f1,rfl,r1⟩:=Zvu h3
 obtain⟨so,f2,rfl,r2⟩:=Zvu h4
 refine⟨vb,lo,so,f1,f2,e,?_,r1,r2⟩
 rw [e1,e2,e3,e4] at hl
 exact hl
def At2 (Q:Nat→Prop)(m:Mem)(t:Ty):List t.D→List (List Value)→Prop
 | [],[]=>True
 | d::r,c::s=>AtQ Q m t d c∧At2 Q m t r s
 | _,_=>False
theorem At2.len {t:Ty}:∀ {l:List t.D} {css:List (List Value)},At2 Q m t l css→css.length=l.length
 | [],[],_=>rfl
 | _::_,_::_,h=>by rw [List.length_cons,List.length_cons,At2.len h.2]
 | [],_::_,h=>h.elim
 | _::_,[],h=>h.elim
theorem At2.get {t:Ty}:∀ {l:List t.D} {css:List (List Value)},At2 Q m t l css→∀ (i:Nat) d c,l[i]?=some d→css[i]?=some c→AtQ Q m t d c
 | [],[],_,i,d,c,h1,_=>by simp at h1
 | a::r,b::s,h,0,d,c,h1,h2=>by simp at h1 h2;rw [← h1,← h2];exact h.1
 | a::r,b::s,h,i+1,d,c,h1,h2=>At2.get h.2 i d c (by simpa using h1) (by simpa using h2)
 | [],_::_,h,_,_,_,_,_=>h.elim
 | _::_,[],h,_,_,_,_,_=>h.elim
end Go.Proofs.YtlogdohlcdhepaaDoor.base
end
section
set_option maxRecDepth 100000
namespace Go.Proofs.YtlogdohlcdhepaaDoor.base
open Go.Sh gen
variable {S:Zc}{m:Mem}
theorem Zoz (hS:S 63=[]){ao bo:Option Addr}{a b:List Int}{af bf ae be:Nat}(ha:Rs m ao a.length (words a) ae 1 af)(hb:Rs m bo b.length (words b) be 1 bf)(hal:a.length≤4611686018427387904)(hbl:b.length≤4611686018427387904) :
  ∃ q:Bool,Zal Tryd.prog TT S 63 [.slice ao a.length a.length,.slice bo b.length b.length] m=some (.bool q,m)∧(q=true↔a=b):=by
 suffices h:∃ v m1,Zal Tryd.prog TT S 63 [.slice ao a.length a.length,.slice bo b.length b.length] m=some (v,m1)∧∃ q:Bool,v=.bool q∧(q=true↔a=b)∧m1=m by
  obtain⟨_,_,h,q,rfl,hq,rfl⟩:=h
  exact⟨q,h,hq⟩
 refine Zfz 6 [10,14,25] k63 hS rfl ?_
 by_cases hll:a.length=b.length
 ·simp [-Int.natCast_add,Zac u42,hll]
  rw [hll] at ha
  refine Zaq 6 [10,14,25] (fun d E m2=>∃ i:Nat,b.length - i=d∧i≤b.length∧a.take i=b.take i∧m2=m∧E=[(0,.slice ao b.length b.length),(1,.slice bo b.length b.length),(5,.int .i64 i)]) _ ⟨_,⟨0,rfl,by omega,by simp,rfl,rfl⟩,⟨by rfl,by rfl,by rfl,trivial⟩⟩ ?_
  rintro d E m2 ih ⟨i,hd,hi,heq,rfl,rfl⟩
  by_cases hlt:i < b.length
  ·have em:(i:Int)≤9223372036854775807:=by omega
   have hlt':(i:Int) < b.length:=by omega
   have wi:IntKind.i64.wrap ((i:Int)+1)=((i+1:Nat):Int):=by rw [Zaf (by omega) (by omega)];omega
   have hla:i < a.length:=by omega
   obtain⟨ab,rfl,oa⟩:=ha.rdo (by omega)
   obtain⟨bb,rfl,ob⟩:=hb.rdo (by omega)
   have la:loadRow m2 ⟨ab,i,none⟩ 1=some [.int .u64 a[i]]:=oa.load1 (by simp [words,hla])
   have lb:loadRow m2 ⟨bb,i,none⟩ 1=some [.int .u64 b[i]]:=ob.load1 (by simp [words,hlt])
   have ta:a.take (i+1)=a.take i++[a[i]]:=List.take_succ_eq_append_getElem hla
   have tb:b.take (i+1)=b.take i++[b[i]]:=List.take_succ_eq_append_getElem hlt
   have hne:=Z1h hla hlt
   generalize a[i]=x at *
   generalize b[i]=y at *
   by_cases c:x=y
   ·subst c
    simp [-Int.natCast_add,Zac u42,Zab u42 Zfu,Zaa Zn7,hlt,hlt',em,la,lb,wi]
    exact ih _ _ _ _ ⟨i+1,rfl,by omega,by rw [ta,tb,heq],rfl,rfl⟩ (by omega) ⟨by rfl,by rfl,by rfl,trivial⟩
   ·simp [-Int.natCast_add,Zac u42,Zab u42 Zfu,Zaa Zn7,hlt,hlt',em,la,lb,c]
    exact hne c
  ·have hlt':¬ (i:Int) < b.length:=by omega
   have e1:a=b:=by
    have h1:a.take i=a:=List.take_of_length_le (by omega)
    have h2:b.take i=b:=List.take_of_length_le (by omega)
    rw [← h1,heq,h2]
   simp [-Int.natCast_add,Zac u42,hlt']
   exact e1
 ·have hll':¬ (a.length:Int)=(b.length:Int):=by omega
  simp [-Int.natCast_add,Zac u42,hll']
  exact fun e=>hll (by rw [e])
set_option maxHeartbeats 4000000 in
theorem Zwb (hS:S 45=[])(hW:S 63=[]){Q R:Nat→Prop}{fs:List Yac.D}{fo go:Option Addr}(h:AtQ Q m (Ty.slice 44 (Ty.pair (Ty.int .i64) (Ty.pair (Ty.int .i64) (Ty.pair (Ty.slice 45 (Ty.int .u64)) (Ty.pair (Ty.slice 45 (Ty.int .u64)) Ty.unit))))) fs [.slice fo fs.length fs.length])(g:AtQ R m (Ty.slice 44 (Ty.pair (Ty.int .i64) (Ty.pair (Ty.int .i64) (Ty.pair (Ty.slice 45 (Ty.int .u64)) (Ty.pair (Ty.slice 45 (Ty.int .u64)) Ty.unit))))) fs [.slice go fs.length fs.length])
  (hl:fs.length≤1000000) (hf:∀ f∈fs,List.length f.2.2.1≤1000000∧List.length f.2.2.2.1≤1000000) :
  Zal Tryd.prog TT S 45 [.slice fo fs.length fs.length,.slice go fs.length fs.length] m=some (.bool true,m):=by
 refine Zb9 6 [10,14,68] k45 hS rfl ?_
 simp [-Int.natCast_add,Zac u26]
 refine Zaq 6 [10,14,68] (fun d E m2=>∃ i:Nat,fs.length - i=d∧i≤fs.length∧m2=m∧E=[(0,.slice fo fs.length fs.length),(1,.slice go fs.length fs.length),(5,.int .i64 (i:Nat))]) _ ⟨_,⟨0,rfl,by omega,rfl,rfl⟩,⟨by rfl,by rfl,by rfl,trivial⟩⟩ ?_
 rintro d E m2 ih ⟨i,hd,hi,rfl,rfl⟩
 by_cases hlt:i < fs.length
 ·have hlt':(i:Int) < fs.length:=by omega
  have em:(i:Int)≤9223372036854775807:=by omega
  have wi:IntKind.i64.wrap ((i:Int)+1)=((i+1:Nat):Int):=by rw [Zaf (by omega) (by omega)];omega
  obtain⟨b,lo,so,f1,f2,rfl,l1,r1,r2⟩:=Zr7 h hlt
  obtain⟨c,lo',so',f1',f2',rfl,l1',r1',r2'⟩:=Zr7 g hlt
  obtain⟨z1,z2⟩:=hf _ (List.getElem_mem hlt)
  obtain⟨p,hp,hp'⟩:=Zoz hW r1 r1' (by omega) (by omega)
  obtain⟨q,hq,hq'⟩:=Zoz hW r2 r2' (by omega) (by omega)
  have ep:p=true:=hp'.2 rfl
  have eq:q=true:=hq'.2 rfl
  subst ep eq
  have a0:=Zcd (k:=0) l1 rfl
  have a1:=Zcd (k:=1) l1 rfl
  have a2:=Zcd (k:=2) l1 rfl
  have a3:=Zcd (k:=3) l1 rfl
  have b0:=Zcd (k:=0) l1' rfl
  have b1:=Zcd (k:=1) l1' rfl
  have b2:=Zcd (k:=2) l1' rfl
  have b3:=Zcd (k:=3) l1' rfl
  simp only [Nat.add_zero] at a0 b0
  simp [-Int.natCast_add,Zac u26,Zab u26 Yc,Za Z80,Zaa ld3,Za Z90,Za Z8n,Zaa Zh1,Za Z96,hlt,hlt',em,a0,a1,a2,a3,b0,b1,b2,b3,hp,hq,wi]
  exact ih _ _ _ _ ⟨i+1,rfl,by omega,rfl,rfl⟩ (by omega) ⟨by rfl,by rfl,by rfl,trivial⟩
 ·have hlt':¬ (i:Int) < fs.length:=by omega
  simp [-Int.natCast_add,Zac u26,hlt']
set_option maxHeartbeats 4000000 in
theorem Z3d (hS:S 18=[]){c st val n:Int}{a b:Option Addr}{k:Nat}(hF:∀ m2,Zag m m2 []→Zal Tryd.prog TT S 45 [.slice a k k,.slice b k k] m2=some (.bool true,m2)) :
  ∃ v m1,Zal Tryd.prog TT S 18 [.agg #[.int .i64 c,.int .i64 st,.int .i64 val,.slice a k k,.int .i64 n],.agg #[.int .i64 c,.int .i64 st,.int .i64 val,.slice b k k,.int .i64 n]] m=some (v,m1)∧v=.bool true∧Zag m m1 []:=by
 obtain⟨o1,k1,n1⟩:=Zay (m:=m) (cs:=[.int .i64 c,.int .i64 st,.int .i64 val,.slice a k k,.int .i64 n]) (e:=28) rfl
 refine Zfz 5 [] k18 hS rfl ?_
 simp [-Int.natCast_add,-w18_1,Zdh b28]
 obtain⟨m1,hm1⟩:∃ mm,m.new [.int .i64 c,.int .i64 st,.int .i64 val,.slice a k k,.int .i64 n] 28=mm:=⟨_,rfl⟩
 obtain⟨b1,hb1⟩:∃ b,m.next=b:=⟨_,rfl⟩
 rw [hm1,hb1] at o1 n1
 rw [hm1] at k1
 simp only [hm1,hb1]
 obtain⟨o2,k2,n2⟩:=Zay (m:=m1) (cs:=[.int .i64 c,.int .i64 st,.int .i64 val,.slice b k k,.int .i64 n]) (e:=28) rfl
 generalize m1.new _ _=m2 at *
 generalize m1.next=b2 at *
 have o1:=o1.keep k2 (by simp)
 have x0:=o1.load1 (off:=0) rfl
 have x1:=o1.load1 (off:=1) rfl
 have x2:=o1.load1 (off:=2) rfl
 have x3:=o1.load1 (off:=3) rfl
 have x4:=o1.load1 (off:=4) rfl
 have y0:=o2.load1 (off:=0) rfl
 have y1:=o2.load1 (off:=1) rfl
 have y2:=o2.load1 (off:=2) rfl
 have y3:=o2.load1 (off:=3) rfl
 have y4:=o2.load1 (off:=4) rfl
 have hc:=hF m2 (k1.trans k2)
 simp [-Int.natCast_add,Za Zy5,Zaa ld3,Za Yaj,Za Z9u,Za Zy9,Za Zqx,Zaa Z87,x0,x1,x2,x3,x4,y0,y1,y2,y3,y4,hc]
 exact k1.trans k2
end Go.Proofs.YtlogdohlcdhepaaDoor.base
end
section
set_option maxRecDepth 100000
namespace Go.Proofs.YtlogdohlcdhepaaDoor.base
open Go.Sh gen
variable {u:UnT.D}{fuel:Int}
def up (V:Vv):Vv:={ V with wish:=V.wish+1 }
def Z0c (n:Int):Ro→Prop
 | .go V=>n≤V.steps
 | .tired _=>True
 | .left V _ _=>n < V.steps
def Zye (n:Int):Ro→Prop
 | .go V=>False
 | .tired _=>True
 | .left V _ _=>n < V.steps
theorem Z0c.mono {n k:Int}(h:n≤k):∀ {r:Ro},Z0c k r→Z0c n r
 | .go V,h1=>Int.le_trans h h1
 | .tired _,_=>trivial
 | .left V _ _,h1=>Int.lt_of_le_of_lt h h1
theorem Zye.mono {n k:Int}(h:n≤k):∀ {r:Ro},Zye k r→Zye n r
 | .go V,h1=>h1
 | .tired _,_=>trivial
 | .left V _ _,h1=>Int.lt_of_le_of_lt h h1
end Go.Proofs.YtlogdohlcdhepaaDoor.base
end
section
set_option maxRecDepth 100000
namespace Go.Proofs.YtlogdohlcdhepaaDoor.base
open Go.Sh gen
variable {S:Zc}{m:Mem}
end Go.Proofs.YtlogdohlcdhepaaDoor.base
end
section
set_option maxRecDepth 100000
namespace Go.Proofs.YtlogdohlcdhepaaDoor.base
open Go.Sh gen
variable {S:Zc}{m:Mem}{u:UnT.D}{fuel:Int}
theorem Sz.size {s:Us}(h:Sz s)(hv:s.vals.length≤300):Zv0 s.un:=by
 refine⟨fun b hb=>?_,fun t ht=>?_,fun x hx=>?_⟩
 ·have:=h.b b hb
  omega
 ·have:=h.t t ht
  exact⟨by omega,fun f hf=>by have:=this.2 f hf;omega⟩
 ·have:=(h.v x hx).1
  have e:List.length x.2.2.2.2.1=(Zfc x).length:=rfl
  omega
theorem Sz.rng {s:Us}(h:Sz s):∀ x∈s.un.2.2.1,-9223372036854775808≤(show Int from x.2.2.2.1)∧(show Int from x.2.2.2.1)≤9223372036854775807:=fun x hx=>by
 have:=(h.v x hx).2
 omega
theorem Z81 {s:Us}(h:Sz s)(h1:1≤s.vals.length)(hv:s.vals.length≤300){O I:List Int}(hc:Zj9 s.un O I=true):UOk s.un:=by
 unfold Zj9 at hc
 cases hp:Zob s.un with
 | none=>rw [hp] at hc;cases hc
 | some t =>
  obtain⟨a1,a2,a3,a4,a5,a6⟩:=Zz8 hp
  exact Z8x (h.size hv) a1 a2 a3 a4 a5 a6 (by show 0 < s.vals.length;omega) h.rng
def Ro.hb (b:Nat):Ro→Ro
 | .go V=>.go { V with hwb:=b }
 | .tired V=>.tired { V with hwb:=b }
 | .left V st val=>.left { V with hwb:=b } st val
theorem Zp1 (b:Nat):∀ (l:List Int) (V:Vv),Zcr u fuel l { V with hwb:=b }=(Zcr u fuel l V).hb b
 | [],V=>by rw [Zcr,Zcr];rfl
 | v::r,V=>by
  rw [Zcr,Zcr]
  dsimp only
  split
  ·exact Zp1 b r V
  split
  ·rfl
  split
  ·rfl
  ·exact Zp1 b r { V with steps:=V.steps+1,wish:=Zeg (Zbd u v) V.wish,hw:=Zni (Zbd u v) V.hw V.ws,ws:=Zpf (Zbd u v) v.toNat V.hw V.ws }
theorem Z1c (b:Nat):∀ (k a:Nat) (V:Vv),Zhk u fuel k a { V with hwb:=b }=(Zhk u fuel k a V).hb b
 | 0,a,V=>by rw [Zhk,Zhk];rfl
 | k+1,a,V=>by
  rw [Zhk,Zhk]
  dsimp only
  rw [Zp1]
  cases Zcr u fuel (Zbx u a).1 V with
  | go A =>
   rw [show (Ro.go A).hb b=Ro.go { A with hwb:=b } from rfl]
   dsimp only
   split
   ·rfl
   split
   ·rfl
   ·rw [← Z1c b k]
  | tired A=>rfl
  | left A st val=>rfl
def HwL (n:Nat):Ro→Prop
 | .go V=>V.hw.length=n
 | .tired V=>V.hw.length=n
 | .left V _ _=>V.hw.length=n
theorem Zzu (x:Zbu.D)(hw ws:List Int):(Zni x hw ws).length=hw.length:=by
 unfold Zni Zxi Zpz
 repeat' split
 all_goals simp
theorem Znj:∀ (l:List Int) (V:Vv),HwL V.hw.length (Zcr u fuel l V)
 | [],V=>by rw [Zcr];rfl
 | v::r,V=>by
  rw [Zcr]
  dsimp only
  split
  ·exact Znj r V
  split
  ·rfl
  split
  ·rfl
  ·have:=Znj r { V with steps:=V.steps+1,wish:=Zeg (Zbd u v) V.wish,hw:=Zni (Zbd u v) V.hw V.ws,ws:=Zpf (Zbd u v) v.toNat V.hw V.ws }
   dsimp only at this
   rw [Zzu] at this
   exact this
theorem Zux:∀ (k a:Nat) (V:Vv),HwL V.hw.length (Zhk u fuel k a V)
 | 0,a,V=>by rw [Zhk];rfl
 | k+1,a,V=>by
  have h:=Znj (u:=u) (fuel:=fuel) (Zbx u a).1 V
  rw [Zhk]
  dsimp only
  cases e:Zcr u fuel (Zbx u a).1 V with
  | go A =>
   rw [e] at h
   have h:A.hw.length=V.hw.length:=h
   dsimp only
   split
   ·exact h
   split
   ·exact h
   ·rw [← h]
    exact Zux k _ { A with ws:=_,steps:=_ }
  | tired A=>rw [e] at h;exact h
  | left A st val=>rw [e] at h;exact h
theorem Z4o (hN:Nz S):Nu S:=by
 refine⟨⟨⟨?_,?_,?_,?_,?_⟩,?_,?_,?_,?_,?_,?_,?_,?_⟩,?_,?_,?_,?_,?_,?_,?_⟩
 all_goals exact hN.e _ (by decide) (by decide)
theorem Z30 {zs vs:List Value}{e:TypeId}(hl:zs.length=vs.length)(h1:vs.all one=true):∃ m1 f,Zaj (m.new zs e) ⟨m.next,0,none⟩ vs=some m1∧Own m1 m.next vs e f∧Zag m m1 []∧m.next≤f:=by
 obtain⟨o,k,n⟩:=Zay (m:=m) (cs:=zs) (e:=e) rfl
 obtain⟨m1,h2,o1,k2⟩:=Zap (r:=_) rfl o (off:=0) (by omega) h1
 have ev:Zb5 zs 0 vs=vs:=by simp [Zb5,← hl]
 rw [ev] at o1
 exact⟨m1,_,h2,o1,k.fresh k2 (by simp),Nat.le_refl _⟩
end Go.Proofs.YtlogdohlcdhepaaDoor.base
end
section
set_option maxRecDepth 100000
namespace Go.Proofs.YtlogdohlcdhepaaDoor.base
open Go.Sh gen
variable {S:Zc}
theorem Zxc (hN:Nk S)(ops sh:List Int)(n:Int)(h0:1≤(Zdn ops sh n).vals.length)(hv:(Zdn ops sh n).vals.length≤300)(hb:(Zdn ops sh n).blks.length≤20)(hs:(Zdn ops sh n).sts.length≤330) :
  UOk (Zdn ops sh n).un∧(∀ i < nb (Zdn ops sh n).un,(vlD (Zdn ops sh n).un i).countP (fun v=>Za9 (Zbd (Zdn ops sh n).un v).1)≤4)∧∀ (m:Mem) {Q:Nat→Prop} {vo bo so:Option Addr},UAt Q m (Zdn ops sh n).un vo bo so→(∀ f,Q f→f < m.next)→
   ∃ m1,Zal Tryd.prog TT S 22 [.agg (Zcj (Zdn ops sh n).un vo bo so).toArray] m=some (.bool true,m1)∧Zag m m1 []:=by
 have hsz:=Zuz ops sh n
 obtain⟨B,D,hU,hh⟩:=Zwe ops sh n hv hb hs
 generalize Zdn ops sh n=s at *
 obtain⟨O,I,hT,hO,hI⟩:=Z9t (Zpn hU.ends) hU.pos
 have hc:=hU.right hT hO hI
 refine⟨Z81 hsz h0 hv hc,hh,fun m Q vo bo so hA hQ=>?_⟩
 obtain⟨_,m1,c1,rfl,k1⟩:=Zyo hN hA hQ (hsz.size hv) (show s.vals.length≤_ by omega) (show s.blks.length≤_ by omega) (show s.sts.length≤_ by omega) (fun _ _=>hT)
 rw [hc] at c1
 exact⟨m1,c1,k1⟩
def stR:Ro→Int
 | .go V=>V.steps
 | .tired V=>V.steps
 | .left V _ _=>V.steps
variable {u:UnT.D}{f f':Int}
theorem Zj2:∀ (l:List Int) (V:Vv),V.steps≤stR (Zcr u f l V)
 | [],V=>by rw [Zcr];exact Int.le_refl _
 | v::r,V=>by
  rw [Zcr]
  dsimp only
  split
  ·exact Zj2 r V
  split
  ·exact Int.le_refl _
  split
  ·show V.steps≤V.steps+1
   omega
  ·have:=Zj2 r { V with steps:=V.steps+1,wish:=Zeg (Zbd u v) V.wish,hw:=Zni (Zbd u v) V.hw V.ws,ws:=Zpf (Zbd u v) v.toNat V.hw V.ws }
   refine Int.le_trans ?_ this
   dsimp only
   omega
theorem Zqi:∀ (k a:Nat) (V:Vv),V.steps≤stR (Zhk u f k a V)
 | 0,a,V=>by rw [Zhk];exact Int.le_refl _
 | k+1,a,V=>by
  have h:=Zj2 (u:=u) (f:=f) (Zbx u a).1 V
  rw [Zhk]
  dsimp only
  cases e:Zcr u f (Zbx u a).1 V with
  | go V1 =>
   rw [e] at h
   have h:V.steps≤V1.steps:=h
   dsimp only
   split
   ·exact h
   split
   ·show V.steps≤V1.steps+1
    omega
   ·refine Int.le_trans ?_ (Zqi k _ _)
    dsimp only
    omega
  | tired V1=>rw [e] at h;exact h
  | left V1 st v=>rw [e] at h;exact h
theorem Zkw (hf:f≤f'):∀ (l:List Int) (V:Vv),match Zcr u f l V with
  | .go V1=>Zcr u f' l V=.go V1
  | .left A st val=>Zcr u f' l V=.left A st val
  | .tired A=>f≤A.steps∧A.steps≤stR (Zcr u f' l V)
 | [],V=>by rw [Zcr];rfl
 | v::r,V=>by
  have ge:=Zj2 (u:=u) (f:=f') (v::r) V
  rw [Zcr] at ge ⊢
  rw [Zcr]
  dsimp only at ge ⊢
  by_cases h1:(Zbd u v).1=21∨(Zbd u v).1=1
  ·rw [if_pos h1,if_pos h1];exact Zkw hf r V
  rw [if_neg h1] at ge
  rw [if_neg h1,if_neg h1]
  by_cases h2:f≤V.steps
  ·rw [if_pos h2];exact⟨h2,ge⟩
  rw [if_neg h2]
  have h3:¬ f'≤V.steps:=by omega
  rw [if_neg h3]
  by_cases h4:Zhh (Zbd u v) V.ws V.wish=true
  ·rw [if_pos h4,if_pos h4]
  ·rw [if_neg h4,if_neg h4];exact Zkw hf r _
theorem Zun {V:Vv}(hf:f≤V.steps):∀ (l:List Int),Zcr u f l V=.go V∨Zcr u f l V=.tired V
 | []=>Or.inl (by rw [Zcr])
 | v::r=>by
  rw [Zcr]
  dsimp only
  split
  ·exact Zun hf r
  ·exact Or.inr rfl
theorem Z0m (hf:f≤f'):∀ (k k' a:Nat) (V:Vv),f < V.steps+k→f' < V.steps+k'→match Zhk u f k a V with
  | .go _=>False
  | .left A st val=>Zhk u f' k' a V=.left A st val
  | .tired A=>f≤A.steps∧A.steps≤stR (Zhk u f' k' a V):=by
 intro k
 induction k with
 | zero =>
  intro k' a V h1 h2
  rw [Zhk]
  exact⟨by omega,Zqi _ _ _⟩
 | succ k ih =>
  intro k' a V h1 h2
  cases k' with
  | zero =>
   have hv:f≤V.steps:=by omega
   have e2:Zhk u f' 0 a V=.tired V:=by rw [Zhk]
   rw [e2]
   rcases Zun (u:=u) hv (Zbx u a).1 with e | e
   ·rw [Zhk];dsimp only;rw [e];dsimp only;rw [if_pos hv];exact⟨hv,Int.le_refl _⟩
   ·rw [Zhk];dsimp only;rw [e];exact⟨hv,Int.le_refl _⟩
  | succ k' =>
   have hv:=Zkw (u:=u) hf (Zbx u a).1 V
   have hg:=Zj2 (u:=u) (f:=f) (Zbx u a).1 V
   rw [Zhk]
   dsimp only
   cases e:Zcr u f (Zbx u a).1 V with
   | go V1 =>
    rw [e] at hv hg
    have hv:Zcr u f' (Zbx u a).1 V=.go V1:=hv
    have hg:V.steps≤V1.steps:=hg
    rw [Zhk]
    dsimp only
    rw [hv]
    dsimp only
    by_cases c1:f≤V1.steps
    ·rw [if_pos c1]
     refine⟨c1,?_⟩
     split
     ·exact Int.le_refl _
     split
     ·show V1.steps≤V1.steps+1
      omega
     ·refine Int.le_trans ?_ (Zqi k' _ _)
      dsimp only
      omega
    ·rw [if_neg c1,if_neg (show ¬ f'≤V1.steps by omega)]
     by_cases c2:(Zbx u a).2.1=3
     ·rw [if_pos c2,if_pos c2]
     ·rw [if_neg c2,if_neg c2]
      exact ih k' _ _ (by dsimp only;omega) (by dsimp only;omega)
   | left A st val =>
    rw [e] at hv
    have hv:Zcr u f' (Zbx u a).1 V=.left A st val:=hv
    show Zhk u f' (k'+1) a V=.left A st val
    rw [Zhk]
    dsimp only
    rw [hv]
   | tired A =>
    rw [e] at hv
    obtain⟨g1,g2⟩:=hv
    refine⟨g1,?_⟩
    rw [Zhk]
    dsimp only
    cases e2:Zcr u f' (Zbx u a).1 V with
    | go W =>
     rw [e2] at g2
     have g2:A.steps≤W.steps:=g2
     dsimp only
     split
     ·exact g2
     split
     ·show A.steps≤W.steps+1
      omega
     ·refine Int.le_trans ?_ (Zqi k' _ _)
      dsimp only
      omega
    | tired W=>rw [e2] at g2;exact g2
    | left W st val=>rw [e2] at g2;exact g2
theorem Zjx:∀ (l:List Int) (V:Vv),V.steps≤f+4→match Zcr u f l V with
  | .go V1=>V1.steps≤f+4
  | .left _ _ _=>True
  | .tired A=>A.steps≤f+4
 | [],V,h=>by rw [Zcr];exact h
 | v::r,V,h=>by
  rw [Zcr]
  dsimp only
  split
  ·rename_i e
   split at e
   ·have:=Zjx r V h;rw [e] at this;exact this
   split at e
   ·cases e
   split at e
   ·cases e
   ·have:=Zjx r { V with steps:=V.steps+1,wish:=Zeg (Zbd u v) V.wish,hw:=Zni (Zbd u v) V.hw V.ws,ws:=Zpf (Zbd u v) v.toNat V.hw V.ws } (by dsimp only;omega)
    rw [e] at this;exact this
  ·trivial
  ·rename_i e
   split at e
   ·have:=Zjx r V h;rw [e] at this;exact this
   split at e
   ·cases e;exact h
   split at e
   ·cases e
   ·have:=Zjx r { V with steps:=V.steps+1,wish:=Zeg (Zbd u v) V.wish,hw:=Zni (Zbd u v) V.hw V.ws,ws:=Zpf (Zbd u v) v.toNat V.hw V.ws } (by dsimp only;omega)
    rw [e] at this;exact this
theorem Zxp (l:List Int)(i:Nat)(ws:List Int):(Zkr u l i ws).length≤l.countP (fun v=>Za9 (Zbd u v).1):=by
 induction l with
 | nil=>simp [Zkr]
 | cons v r ih =>
  have e:Zkr u (v::r) i ws=(if (Zbd u v).1=21 then [ws.getD ((show List Int from (Zbd u v).2.2.2.2.1).getD i 0).toNat 0] else [])++Zkr u r i ws:=rfl
  rw [e,List.length_append,List.countP_cons]
  split
  ·rename_i h
   have:Za9 (Zbd u v).1=true:=by rw [h];rfl
   rw [if_pos this]
   simp only [List.length_singleton]
   omega
  ·simp only [List.length_nil]
   omega
theorem Zv2 (loc l:List Int)(p:List Int × Int):(Zjl u loc l p).2≤p.2+l.countP (fun v=>Za9 (Zbd u v).1):=by
 induction l generalizing p with
 | nil=>simp [Zjl]
 | cons v r ih =>
  have e:Zjl u loc (v::r) p=Zjl u loc r (Zxq u loc p v):=rfl
  rw [e,List.countP_cons]
  have:=ih (Zxq u loc p v)
  have h2:(Zxq u loc p v).2≤p.2+(if Za9 (Zbd u v).1=true then 1 else 0:Nat):=by
   unfold Zxq
   split
   ·rename_i h
    have:Za9 (Zbd u v).1=true:=by rw [h];rfl
    rw [if_pos this]
    dsimp only
    omega
   ·omega
  omega
theorem Z5u (hok:UOk u)(hh:∀ i < nb u,(vlD u i).countP (fun v=>Za9 (Zbd u v).1)≤4)(hf:0≤f):∀ (k a:Nat) (V:Vv),a < nb u→V.steps≤f+4→match Zhk u f k a V with
  | .tired A=>A.steps≤f+4
  | _=>True:=by
 intro k
 induction k with
 | zero=>intro a V _ h;rw [Zhk];exact h
 | succ k ih =>
  intro a V ha h
  have hv:=Zjx (u:=u) (f:=f) (Zbx u a).1 V h
  rw [Zhk]
  dsimp only
  cases e:Zcr u f (Zbx u a).1 V with
  | go V1 =>
   rw [e] at hv
   have hv:V1.steps≤f+4:=hv
   dsimp only
   by_cases c1:f≤V1.steps
   ·rw [if_pos c1];exact hv
   rw [if_neg c1]
   by_cases c2:(Zbx u a).2.1=3
   ·rw [if_pos c2];trivial
   rw [if_neg c2]
   have hB:=hok.bl a ha
   have hw:Zi6 (Zbx u a) V1.ws < List.length (Zbx u a).2.2.2.1:=by
    have:=hB.n2 c2
    unfold Zi6
    split
    ·rename_i h2
     rw [if_pos h2.1] at this;exact this
    ·split at this <;> omega
   have hm:=hB.nx _ (Za8 hw)
   have ht:((show List Int from (Zbx u a).2.2.2.1).getD (Zi6 (Zbx u a) V1.ws) 0).toNat < nb u:=by omega
   refine ih _ _ ht ?_
   dsimp only
   have hp:=Zxp (u:=u) (Zbx u ((show List Int from (Zbx u a).2.2.2.1).getD (Zi6 (Zbx u a) V1.ws) 0).toNat).1 (Zks (Zbx u ((show List Int from (Zbx u a).2.2.2.1).getD (Zi6 (Zbx u a) V1.ws) 0).toNat).2.2.2.2.1 (a:Int)) V1.ws
   have h4:=hh _ ht
   have h5:(Zkr u (Zbx u ((show List Int from (Zbx u a).2.2.2.1).getD (Zi6 (Zbx u a) V1.ws) 0).toNat).1 (Zks (Zbx u ((show List Int from (Zbx u a).2.2.2.1).getD (Zi6 (Zbx u a) V1.ws) 0).toNat).2.2.2.2.1 (a:Int)) V1.ws).length≤4:=Nat.le_trans hp h4
   exact Int.le_trans (Int.add_le_add_left (Int.ofNat_le.2 h5) _) (show V1.steps+1+((4:Nat):Int)≤f+4 by omega)
  | tired A=>rw [e] at hv;exact hv
  | left A st val=>trivial
end Go.Proofs.YtlogdohlcdhepaaDoor.base
end
