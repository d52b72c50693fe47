/- This text proves that eval.Two and the document's Value make the same of two words, for an op of a machine, Zbr the abstract run. Condition: nothing is known of their calls ahead ('S f = []'). -/
import Derived.Test.YtlogdohlcdhepaaDoorM1
set_option linter.unusedVariables false
set_option linter.unusedSimpArgs false
section
set_option maxRecDepth 100000
namespace Go.Proofs.YtlogdohlcdhepaaDoor.base
open Go.Sh gen
variable {S:Zb2}{m:Mem}
theorem Zhv (z:Int):IntKind.u64.wrap z=z % 18446744073709551616:=by
 have e1:(2:Int) ^ IntKind.u64.bits=18446744073709551616:=by decide
 have e3:IntKind.u64.signed=false:=rfl
 simp only [IntKind.wrap,e1,e3]
 simp
theorem Zs8 (z:Int):IntKind.i64.wrap z=if z % 18446744073709551616 < 9223372036854775808 then z % 18446744073709551616 else z % 18446744073709551616 - 18446744073709551616:=by
 have e1:(2:Int) ^ IntKind.i64.bits=18446744073709551616:=by decide
 have e2:(2:Int) ^ (IntKind.i64.bits - 1)=9223372036854775808:=by decide
 have e3:IntKind.i64.signed=true:=rfl
 simp only [IntKind.wrap,e1,e2,e3,Bool.true_and,decide_eq_true_eq]
 split <;> split <;> omega
theorem Zov (z:Int):-9223372036854775808≤IntKind.i64.wrap z∧IntKind.i64.wrap z≤9223372036854775807:=by
 rw [Zs8];split <;> omega
structure Tw (S:Zb2):Prop where
 two:S 61=[]
 div:S 78=[]
 bit:S 79=[]
 val:S 44=[]
 flag:S 62=[]
theorem Z5t (h:S 79=[])(b:Bool):Zag Tryd.prog TT S 79 [.bool b] m=some (.int .u64 (if b then 1 else 0),m):=by
 refine Zb3 3 [3] k79 h rfl ?_
 cases b <;> simp
theorem Z1 (h:S 62=[])(b:Bool):Zag Tryd.prog TT S 62 [.bool b] m=some (.int .u64 (if b then 1 else 0),m):=by
 refine Zb3 3 [3] k62 h rfl ?_
 cases b <;> simp
def wd (x:Int):Prop:=0≤x∧x≤18446744073709551615
theorem Zds (z:Int):wd (IntKind.u64.wrap z):=by
 rw [Zhv];unfold wd;omega
theorem Znr (c:Prop)[Decidable c]:wd (if c then 1 else 0):=by unfold wd;split <;> omega
theorem uw (z:Int):IntKind.u64.wrap (IntKind.i64.wrap z)=IntKind.u64.wrap z:=by rw [Zs8,Zhv,Zhv];split <;> omega
theorem u0:IntKind.u64.wrap 0=0:=by rw [Zhv];rfl
theorem Ydg:IntKind.u64.wrap (-9223372036854775808)=IntKind.u64.wrap 9223372036854775808:=by rw [Zhv,Zhv];rfl
def Z5d (x y:Int):Int:=if y=0 then 0 else if y=-1 then IntKind.u64.wrap (-x) else IntKind.u64.wrap (x.tdiv y)
def Z4z (x y:Int):Int:=if y=0 then 0 else if y=-1 then 0 else IntKind.u64.wrap (x.tmod y)
theorem Z8f (x y:Int):wd (Z5d x y):=by
 unfold Z5d
 split
 ·unfold wd;omega
 ·split <;> exact Zds _
theorem Z8w (x y:Int):wd (Z4z x y):=by
 unfold Z4z
 split
 ·unfold wd;omega
 ·split
  ·unfold wd;omega
  ·exact Zds _
theorem Zxv (hT:Tw S){x y:Int}(hx:-9223372036854775808≤x∧x≤9223372036854775807)(hy:-9223372036854775808≤y∧y≤9223372036854775807) :
  (∀ m:Mem,Zag Tryd.prog TT S 78 [.int .i64 6,.int .i64 x,.int .i64 y] m=some (.int .u64 (Z5d x y),m))∧(∀ m:Mem,Zag Tryd.prog TT S 78 [.int .i64 7,.int .i64 x,.int .i64 y] m=some (.int .u64 (Z4z x y),m)):=by
 refine⟨fun m=>?_,fun m=>?_⟩
 ·refine Zb3 7 [12,13,16] k78 hT.div rfl ?_
  unfold Z5d
  by_cases x1:x=-9223372036854775808
  ·by_cases y1:y=-1
   ·simp [uw,Ydg,x1,y1]
   ·by_cases y0:y=0
    ·simp [x1,y0]
    ·simp [uw,x1,y1,y0]
  ·by_cases y1:y=-1
   ·simp [uw,x1,y1]
   ·by_cases y0:y=0
    ·simp [x1,y0]
    ·simp [uw,x1,y1,y0]
 ·refine Zb3 7 [12,13,16] k78 hT.div rfl ?_
  unfold Z4z
  by_cases x1:x=-9223372036854775808
  ·by_cases y1:y=-1
   ·simp [u0,x1,y1]
   ·by_cases y0:y=0
    ·simp [x1,y0]
    ·simp [x1,y1,y0]
  ·by_cases y1:y=-1
   ·simp [u0,x1,y1]
   ·by_cases y0:y=0
    ·simp [x1,y0]
    ·simp [x1,y1,y0]
def Z0t (k a b:Int):Int:=
 if k=3 then (IntKind.u64.wrap (a+b)) else
 if k=4 then (IntKind.u64.wrap (a - b)) else
 if k=5 then (IntKind.u64.wrap (a * b)) else
 if k=8 then (IntKind.u64.wrap (-a)) else
 if k=9 then (if a=0 then 1 else 0) else
 if k=10 then (if a=b then 1 else 0) else
 if k=11 then (if a≠b then 1 else 0) else
 if k=12 then (if IntKind.i64.wrap a < IntKind.i64.wrap b then 1 else 0) else
 if k=13 then (if IntKind.i64.wrap a≤IntKind.i64.wrap b then 1 else 0) else
 if k=14 then (if a < b then 1 else 0) else
 if k=6 then (Z5d (IntKind.i64.wrap a) (IntKind.i64.wrap b)) else
 if k=7 then (Z4z (IntKind.i64.wrap a) (IntKind.i64.wrap b)) else
 0
theorem Zld {k a b r:Int}(e:Z0t k a b=r)(h:wd r∧(∀ m:Mem,Zag Tryd.prog TT S 61 [.int .i64 k,.int .u64 a,.int .u64 b] m=some (.int .u64 r,m))∧(∀ m:Mem,Zag Tryd.prog TT S 44 [.int .i64 k,.int .u64 a,.int .u64 b] m=some (.tuple #[.int .u64 r,.bool true],m))) :
  wd (Z0t k a b)∧(∀ m:Mem,Zag Tryd.prog TT S 61 [.int .i64 k,.int .u64 a,.int .u64 b] m=some (.int .u64 (Z0t k a b),m))∧(∀ m:Mem,Zag Tryd.prog TT S 44 [.int .i64 k,.int .u64 a,.int .u64 b] m=some (.tuple #[.int .u64 (Z0t k a b),.bool true],m)):=by rw [e];exact h
set_option maxHeartbeats 4000000 in
theorem Z3b (hT:Tw S){k:Int}(hk:3≤k∧k≤14){a b:Int}(ha:wd a)(hb:wd b) :
  wd (Z0t k a b)∧(∀ m:Mem,Zag Tryd.prog TT S 61 [.int .i64 k,.int .u64 a,.int .u64 b] m=some (.int .u64 (Z0t k a b),m))∧(∀ m:Mem,Zag Tryd.prog TT S 44 [.int .i64 k,.int .u64 a,.int .u64 b] m=some (.tuple #[.int .u64 (Z0t k a b),.bool true],m)):=by
 have hbit:=fun (m:Mem) b=>Z5t (m:=m) hT.bit b
 have hflag:=fun (m:Mem) b=>Z1 (m:=m) hT.flag b
 rcases (by omega:k=3∨k=4∨k=5∨k=8∨k=9∨k=10∨k=11∨k=12∨k=13∨k=14∨k=6∨k=7) with rfl | rfl | rfl | rfl | rfl | rfl | rfl | rfl | rfl | rfl | rfl | rfl
 ·refine Zld (r:=IntKind.u64.wrap (a+b)) (by rfl) ⟨Zds _,fun m=>?_,fun m=>?_⟩
  ·refine Zb3 14 [14,19,24,29,29,36,40,45,51,57,63,69] k61 hT.two rfl ?_
   simp []
  ·refine Zb3 15 [15,20,25,30,33,35,42,49,54,58,63,69,75,81,87] k44 hT.val rfl ?_
   simp []
 ·refine Zld (r:=IntKind.u64.wrap (a - b)) (by rfl) ⟨Zds _,fun m=>?_,fun m=>?_⟩
  ·refine Zb3 14 [14,19,24,29,29,36,40,45,51,57,63,69] k61 hT.two rfl ?_
   simp []
  ·refine Zb3 15 [15,20,25,30,33,35,42,49,54,58,63,69,75,81,87] k44 hT.val rfl ?_
   simp []
 ·refine Zld (r:=IntKind.u64.wrap (a * b)) (by rfl) ⟨Zds _,fun m=>?_,fun m=>?_⟩
  ·refine Zb3 14 [14,19,24,29,29,36,40,45,51,57,63,69] k61 hT.two rfl ?_
   simp []
  ·refine Zb3 15 [15,20,25,30,33,35,42,49,54,58,63,69,75,81,87] k44 hT.val rfl ?_
   simp []
 ·refine Zld (r:=IntKind.u64.wrap (-a)) (by rfl) ⟨Zds _,fun m=>?_,fun m=>?_⟩
  ·refine Zb3 14 [14,19,24,29,29,36,40,45,51,57,63,69] k61 hT.two rfl ?_
   simp [Zzt]
  ·refine Zb3 15 [15,20,25,30,33,35,42,49,54,58,63,69,75,81,87] k44 hT.val rfl ?_
   simp [Zzt]
 ·refine Zld (r:=if a=0 then 1 else 0) (by rfl) ⟨Znr _,fun m=>?_,fun m=>?_⟩
  ·refine Zb3 14 [14,19,24,29,29,36,40,45,51,57,63,69] k61 hT.two rfl ?_
   simp [hbit]
  ·refine Zb3 15 [15,20,25,30,33,35,42,49,54,58,63,69,75,81,87] k44 hT.val rfl ?_
   simp [hflag]
 ·refine Zld (r:=if a=b then 1 else 0) (by rfl) ⟨Znr _,fun m=>?_,fun m=>?_⟩
  ·refine Zb3 14 [14,19,24,29,29,36,40,45,51,57,63,69] k61 hT.two rfl ?_
   simp [hbit]
  ·refine Zb3 15 [15,20,25,30,33,35,42,49,54,58,63,69,75,81,87] k44 hT.val rfl ?_
   simp [hflag]
 ·refine Zld (r:=if a≠b then 1 else 0) (by rfl) ⟨Znr _,fun m=>?_,fun m=>?_⟩
  ·refine Zb3 14 [14,19,24,29,29,36,40,45,51,57,63,69] k61 hT.two rfl ?_
   simp [hbit]
  ·refine Zb3 15 [15,20,25,30,33,35,42,49,54,58,63,69,75,81,87] k44 hT.val rfl ?_
   simp [hflag]
 ·refine Zld (r:=if IntKind.i64.wrap a < IntKind.i64.wrap b then 1 else 0) (by rfl) ⟨Znr _,fun m=>?_,fun m=>?_⟩
  ·refine Zb3 14 [14,19,24,29,29,36,40,45,51,57,63,69] k61 hT.two rfl ?_
   simp [hbit]
  ·refine Zb3 15 [15,20,25,30,33,35,42,49,54,58,63,69,75,81,87] k44 hT.val rfl ?_
   simp [hflag]
 ·refine Zld (r:=if IntKind.i64.wrap a≤IntKind.i64.wrap b then 1 else 0) (by rfl) ⟨Znr _,fun m=>?_,fun m=>?_⟩
  ·refine Zb3 14 [14,19,24,29,29,36,40,45,51,57,63,69] k61 hT.two rfl ?_
   simp [hbit]
  ·refine Zb3 15 [15,20,25,30,33,35,42,49,54,58,63,69,75,81,87] k44 hT.val rfl ?_
   simp [hflag]
 ·refine Zld (r:=if a < b then 1 else 0) (by rfl) ⟨Znr _,fun m=>?_,fun m=>?_⟩
  ·refine Zb3 14 [14,19,24,29,29,36,40,45,51,57,63,69] k61 hT.two rfl ?_
   simp [hbit]
  ·refine Zb3 15 [15,20,25,30,33,35,42,49,54,58,63,69,75,81,87] k44 hT.val rfl ?_
   simp [hflag]
 ·obtain⟨hd,_⟩:=Zxv hT (Zov a) (Zov b)
  have hax:IntKind.u64.wrap (-IntKind.i64.wrap a)=IntKind.u64.wrap (-a):=by rw [Zs8,Zhv,Zhv];split <;> omega
  obtain⟨x,hxe⟩:∃ x,IntKind.i64.wrap a=x:=⟨_,rfl⟩
  obtain⟨y,hye⟩:∃ y,IntKind.i64.wrap b=y:=⟨_,rfl⟩
  rw [hxe] at hax hd
  rw [hye] at hd
  refine Zld (r:=Z5d x y) (by rw [← hxe,← hye];rfl) ⟨Z8f _ _,fun m=>?_,fun m=>?_⟩
  ·refine Zb3 14 [14,19,24,29,29,36,40,45,51,57,63,69] k61 hT.two rfl ?_
   simp [hxe,hye,hd]
  ·refine Zb3 15 [15,20,25,30,33,35,42,49,54,58,63,69,75,81,87] k44 hT.val rfl ?_
   unfold Z5d
   by_cases y0:y=0
   ·simp [hxe,hye,y0]
   ·by_cases y1:y=-1
    ·simp [Zzt,hxe,hye,y1,hax]
    ·simp [uw,hxe,hye,y0,y1]
 ·obtain⟨_,hd⟩:=Zxv hT (Zov a) (Zov b)
  obtain⟨x,hxe⟩:∃ x,IntKind.i64.wrap a=x:=⟨_,rfl⟩
  obtain⟨y,hye⟩:∃ y,IntKind.i64.wrap b=y:=⟨_,rfl⟩
  rw [hxe,hye] at hd
  refine Zld (r:=Z4z x y) (by rw [← hxe,← hye];rfl) ⟨Z8w _ _,fun m=>?_,fun m=>?_⟩
  ·refine Zb3 14 [14,19,24,29,29,36,40,45,51,57,63,69] k61 hT.two rfl ?_
   simp [hxe,hye,hd]
  ·refine Zb3 15 [15,20,25,30,33,35,42,49,54,58,63,69,75,81,87] k44 hT.val rfl ?_
   unfold Z4z
   by_cases y0:y=0
   ·simp [hxe,hye,y0]
   ·by_cases y1:y=-1
    ·simp [hxe,hye,y1]
    ·simp [hxe,hye,y0,y1]
end Go.Proofs.YtlogdohlcdhepaaDoor.base
end
section
set_option maxRecDepth 100000
namespace Go.Proofs.YtlogdohlcdhepaaDoor.base
open Go.Sh gen
variable {S:Zb2}{m:Mem}
abbrev Zbj:Ty:=(Ty.pair (Ty.int .i64) (Ty.pair (Ty.int .i64) (Ty.pair (Ty.int .i64) (Ty.pair (Ty.int .i64) (Ty.pair (Ty.slice 3 (Ty.int .i64)) (Ty.pair (Ty.int .i64) Ty.unit))))))
theorem Zpd (op:Int):op=1∨op=2∨op=3∨op=4∨op=5∨op=6∨op=7∨op=8∨op=9∨op=10∨op=11∨op=12∨op=13∨op=14∨op=15∨op=16∨op=17∨op=18∨op=19∨op=20∨op=21∨op=22∨op=23∨(op < 1∨23 < op):=by omega
def Zc5 (op:Int):Bool:=[3,4,5,6,7,10,11,12,13,14,18,19,20].contains op
def Zgb (op:Int):Bool:=[8,9,15,16,17,22].contains op
def Zb5 (op:Int):Nat:=if Zc5 op=true then 2 else if Zgb op=true then 1 else 0
theorem Zyt (hS:S 76=[])(op:Int):Zag Tryd.prog TT S 76 [.int .i64 op] m=some (.int .i64 (Zb5 op),m):=by
 refine Zb3 4 [4,4,4,4,4,4,4,4,4,4,4,4,4,18,18,18,18,18,18] k76 hS rfl ?_
 rcases Zpd op with (rfl | rfl | rfl | rfl | rfl | rfl | rfl | rfl | rfl | rfl | rfl | rfl | rfl | rfl | rfl | rfl | rfl | rfl | rfl | rfl | rfl | rfl | rfl | hno)
 ·simp [-Int.natCast_add,Zb5,Zc5,Zgb]
 ·simp [-Int.natCast_add,Zb5,Zc5,Zgb]
 ·simp [-Int.natCast_add,Zb5,Zc5]
 ·simp [-Int.natCast_add,Zb5,Zc5]
 ·simp [-Int.natCast_add,Zb5,Zc5]
 ·simp [-Int.natCast_add,Zb5,Zc5]
 ·simp [-Int.natCast_add,Zb5,Zc5]
 ·simp [-Int.natCast_add,Zb5,Zc5,Zgb]
 ·simp [-Int.natCast_add,Zb5,Zc5,Zgb]
 ·simp [-Int.natCast_add,Zb5,Zc5]
 ·simp [-Int.natCast_add,Zb5,Zc5]
 ·simp [-Int.natCast_add,Zb5,Zc5]
 ·simp [-Int.natCast_add,Zb5,Zc5]
 ·simp [-Int.natCast_add,Zb5,Zc5]
 ·simp [-Int.natCast_add,Zb5,Zc5,Zgb]
 ·simp [-Int.natCast_add,Zb5,Zc5,Zgb]
 ·simp [-Int.natCast_add,Zb5,Zc5,Zgb]
 ·simp [-Int.natCast_add,Zb5,Zc5]
 ·simp [-Int.natCast_add,Zb5,Zc5]
 ·simp [-Int.natCast_add,Zb5,Zc5]
 ·simp [-Int.natCast_add,Zb5,Zc5,Zgb]
 ·simp [-Int.natCast_add,Zb5,Zc5,Zgb]
 ·simp [-Int.natCast_add,Zb5,Zc5,Zgb]
 ·have n1:¬ op=1:=by omega
  have n2:¬ op=2:=by omega
  have n3:¬ op=3:=by omega
  have n4:¬ op=4:=by omega
  have n5:¬ op=5:=by omega
  have n6:¬ op=6:=by omega
  have n7:¬ op=7:=by omega
  have n8:¬ op=8:=by omega
  have n9:¬ op=9:=by omega
  have n10:¬ op=10:=by omega
  have n11:¬ op=11:=by omega
  have n12:¬ op=12:=by omega
  have n13:¬ op=13:=by omega
  have n14:¬ op=14:=by omega
  have n15:¬ op=15:=by omega
  have n16:¬ op=16:=by omega
  have n17:¬ op=17:=by omega
  have n18:¬ op=18:=by omega
  have n19:¬ op=19:=by omega
  have n20:¬ op=20:=by omega
  have n21:¬ op=21:=by omega
  have n22:¬ op=22:=by omega
  have n23:¬ op=23:=by omega
  simp [-Int.natCast_add,Zb5,Zc5,Zgb,n3,n4,n5,n6,n7,n8,n9,n10,n11,n12,n13,n14,n15,n16,n17,n18,n19,n20,n22]
def Ze7 (op a b:Int)(l:List Int):List Int:=(if Zc5 op=true then [a,b] else if Zgb op=true then [a] else [])++(if op=20 then l.take 1 else if op=21 then l else [])
theorem Zv3 {l:List Int}{e:TypeId}{css:List (List Value)}(h2:css.length=l.length)(h3:∀ (i:Nat) (d:(Ty.int .i64).D) c,l[i]?=some d→css[i]?=some c→At m (Ty.int .i64) d c):css.flatten=l.map (Value.int .i64):=by
 have:css=l.map fun n=>[Value.int .i64 n]:=by
  apply List.ext_getElem?
  intro i
  by_cases hi:i < l.length
  ·have hc:i < css.length:=by omega
   have:=h3 i l[i] css[i] (List.getElem?_eq_getElem hi) (List.getElem?_eq_getElem hc)
   simp only [At] at this
   simp [hi,hc,this]
  ·rw [List.getElem?_eq_none (by omega),List.getElem?_eq_none (by simp;omega)]
 rw [this,← List.flatMap_def]
 exact List.map_eq_flatMap.symm
theorem Zi2 (op a b:Int)(l:List Int):Ze7 op a b l=[a,b].take (Zb5 op)++(if op=20 then l.take 1 else if op=21 then l else []):=by
 unfold Ze7 Zb5
 by_cases h1:Zc5 op=true
 ·simp [h1]
 ·by_cases h2:Zgb op=true
  ·simp [h1,h2]
  ·simp [h1,h2]
theorem Zpk (hS:S 58=[])(hP:S 76=[]){op a b n st:Int}{l:List Int}{ao:Option Addr}{f:Nat}(hl:l.length * 8≤140737488351232)(hr:Rs m ao l.length (l.map (Value.int .i64)) 3 1 f) :
  ∃ v m1,Zag Tryd.prog TT S 58 [.agg #[.int .i64 op,.int .i64 a,.int .i64 b,.int .i64 n,.slice ao l.length l.length,.int .i64 st]] m=some (v,m1)∧(∃ ao' f',v=.slice ao' (Ze7 op a b l).length (Ze7 op a b l).length∧Rs m1 ao' (Ze7 op a b l).length ((Ze7 op a b l).map (Value.int .i64)) 3 1 f')∧Zaa m m1 []:=by
 refine Zfi 17 [17,28] k58 hS rfl ?_
 have pr:=fun m'=>Zyt (m:=m') hP op
 simp [-Int.natCast_add,-w58_1,Zcu b38]
 obtain⟨o1,k1,n1⟩:=Zat (m:=m) (cs:=[.int .i64 op,.int .i64 a,.int .i64 b,.int .i64 n,.slice ao l.length l.length,.int .i64 st]) (e:=38) rfl
 generalize m.new _ 38=m1 at *
 obtain⟨vb,hvb⟩:∃ vb,m.next=vb:=⟨_,rfl⟩
 rw [hvb] at o1 n1 ⊢
 have l0:=o1.load1 (off:=0) rfl
 have l1:=o1.load1 (off:=1) rfl
 have l2:=o1.load1 (off:=2) rfl
 obtain⟨bb,hbb⟩:∃ bb,m1.next=bb:=⟨_,rfl⟩
 obtain⟨p,hp⟩:∃ p,Zb5 op=p:=⟨_,rfl⟩
 have hp2:p≤2:=by
  rw [← hp];unfold Zb5;split
  ·omega
  ·split <;> omega
 have hpi:(p:Int)≤9223372036854775807:=by omega
 rw [hp] at pr
 apply Z9 (fun (mX:Mem) (bX:Nat)=>∃ fX,Own mX bX (([a,b].take p).map (Value.int .i64)) 3 fX∧Own mX vb [.int .i64 op,.int .i64 a,.int .i64 b,.int .i64 n,.slice ao l.length l.length,.int .i64 st] 38 vb∧fX≠vb∧m.next≤fX∧Zaa m mX [])
 case main =>
  obtain⟨o2,k2,n2⟩:=Zat (m:=m1) (cs:=[.int .i64 a,.int .i64 b]) (e:=3) rfl
  obtain⟨o3,k3,n3⟩:=Zat (m:=m1.new [.int .i64 a,.int .i64 b] 3) (cs:=[]) (e:=3) rfl
  have o23:=o2.keep k3 (by simp)
  rw [hbb] at o23 o2
  have ld:=o23.load (off:=0) p (by simp;omega)
  have el:Zin (m1.new [Value.int IntKind.i64 a,Value.int IntKind.i64 b] 3) bb 3=true:=by unfold Zin;rw [o2.blk];simp
  obtain⟨cb,hcb⟩:∃ cb,(m1.new [Value.int IntKind.i64 a,Value.int IntKind.i64 b] 3).next=cb:=⟨_,rfl⟩
  have ncb:m1.next < cb:=by rw [← hcb];exact n2
  rw [hcb] at o3
  have news:Zao [Value.int IntKind.i64 a,Value.int IntKind.i64 b] 0 p=([a,b].take p).map (Value.int .i64):=by simp only [Zao,List.drop_zero,List.map_take,List.map_cons,List.map_nil]
  rw [news] at ld
  have ha2:(([a,b].take p).map (Value.int .i64)).all one=true:=by
   rw [List.all_eq_true]
   intro x hx
   obtain⟨y,_,rfl⟩:=List.mem_map.1 hx
   rfl
  have ff:m.next≤cb:=by have:=k1.1;omega
  have ov3:=(o1.keep k2 (by simp)).keep k3 (by simp)
  have K3:=(k1.trans k2).trans k3
  have l0b:=(o1.keep k2 (by simp)).load1 (off:=0) rfl
  have l1b:=(o1.keep k2 (by simp)).load1 (off:=1) rfl
  have l2b:=(o1.keep k2 (by simp)).load1 (off:=2) rfl
  have l0c:=ov3.load1 (off:=0) rfl
  have l1c:=ov3.load1 (off:=1) rfl
  have l2c:=ov3.load1 (off:=2) rfl
  have el3:Zin ((m1.new [Value.int IntKind.i64 a,Value.int IntKind.i64 b] 3).new [] 3) bb 3=true:=by unfold Zin;rw [o23.blk];simp
  by_cases hp0:p=0
  case' pos =>
   have hp0':(p:Int)=0:=by omega
   have tk0:([a,b].take p).map (Value.int .i64)=[]:=by rw [hp0];rfl
   intro meth
   simp [-Int.natCast_add,-w58_2,Za u36 bs3 rfl,Zc2 u36 sz3,Za0 u36 sz3,pr,l0,l1,l2,hbb,el,hcb,hp0]
   generalize hra:Zan _ _ _ _ _ _=ra
   obtain⟨m4,b4,rfl,o4,k4⟩:=Zf9 hra u36 ap3 o3 (by simp) (by simp) (by simp) (by omega) (by omega)
  case' neg =>
   have tk0:p≠0:=by omega
   intro meth
   simp [-Int.natCast_add,-w58_2,Za u36 bs3 rfl,Zc2 u36 sz3,Za0 u36 sz3,pr,l0,l1,l2,hbb,hp2,hpi,el,ld,hcb,hp0]
   generalize hra:Zan _ _ _ _ _ _=ra
   obtain⟨m4,b4,rfl,o4,k4⟩:=Zf9 hra u36 ap3 o3 (by simp) (by simp;omega) (by simpa [List.map_take] using ha2) (by omega) (by omega)
  all_goals
   simp [-Int.natCast_add,-w58_2,Zc2 u36 sz3,l0,l1,l2,hp2,hpi,el]
   exact Ze4 (E:=[(1,.pointer (some ⟨vb,0,none⟩)),(3,.slice (some ⟨b4,0,none⟩) p p)]) (meth m4 b4 ⟨cb,by simpa [tk0] using o4,ov3.keep k4 (by simp;omega),by omega,ff,K3.fresh k4 (by simpa using ff)⟩) ⟨by rfl,by simp [Zbu,hp0],trivial⟩
 intro mX bX ⟨fX,oX,ov,hfX,hfm,kX⟩
 have l0:=ov.load1 (off:=0) rfl
 have l4:=ov.load1 (off:=4) rfl
 have lp:([a,b].take p).length=p:=by simp;omega
 have eu:=Zi2 op a b l
 rw [hp] at eu
 have hrX:=hr.keep kX (by simp)
 have pl:p≤2∧l.length≤17592186044404:=⟨hp2,by omega⟩
 by_cases c20:op=20
 ·by_cases hl00:l.length=0
  ·have e0:(l.length:Int) < 1:=by omega
   have el:l=[]:=List.length_eq_zero_iff.1 hl00
   rw [if_pos c20,el,c20] at eu
   have elen:(Ze7 20 a b l).length=p:=by rw [el,eu];simp;omega
   have hsp:=hr.spot
   cases ao
   case' some a=>have hsp':=hsp a rfl
   case' none=>have hsp':True:=trivial
   all_goals
    simp [-Int.natCast_add,Zc2 u36 sz3,Za0 u36 sz3,l0,l4,c20,hl00,hsp']
    generalize hra:Zan _ _ _ _ _ _=ra
    obtain⟨m4,b4,rfl,o4,k4⟩:=Zf9 hra u36 ap3 oX (by simp;omega) (by simp) (by simp) (by omega) (by omega)
    simp [-Int.natCast_add]
    rw [elen,el]
    exact⟨⟨_,⟨rfl,rfl⟩,fX,by rw [eu];exact (Sl.of (by simpa [List.map_take] using o4) (by simp;omega)).rs⟩,kX.fresh k4 (by simpa using hfm)⟩
  ·have hl0:0 < l.length:=by omega
   obtain⟨rb,rfl,hrb⟩:=hrX.rdo (by omega)
   have ldr:=hrb.load (off:=0) 1 (by simp;omega)
   have wn:Zao (l.map (Value.int .i64)) 0 1=(l.take 1).map (Value.int .i64):=by simp only [Zao,List.drop_zero,List.map_take]
   rw [wn] at ldr
   have i1:¬ (l.length:Int) < 1:=by omega
   have i2:1≤l.length:=by omega
   have i3:(l.length:Int)≤9223372036854775807:=by omega
   simp [-Int.natCast_add,Zc2 u36 sz3,Za0 u36 sz3,l0,l4,c20,i1,i2,ldr]
   generalize hra:Zan _ _ _ _ _ _=ra
   obtain⟨m4,b4,rfl,o4,k4⟩:=Zf9 hra u36 ap3 oX (by simp;omega) (by simp;omega) (by simp [Zam,← List.map_take]) (by omega) (by omega)
   simp [-Int.natCast_add]
   rw [if_pos c20] at eu
   have el:(Ze7 op a b l).length=p+1:=by rw [eu,List.length_append,lp];simp;omega
   rw [c20] at eu el
   rw [el]
   exact⟨⟨_,⟨rfl,rfl⟩,fX,by rw [eu];exact (Sl.of (by simpa [List.map_take] using o4) (by simp;omega)).rs⟩,kX.fresh k4 (by simpa using hfm)⟩
 ·by_cases c21:op=21
  ·by_cases hl0:l.length=0
   ·have e0:(l.length:Int)=0:=by omega
    have el:l=[]:=List.length_eq_zero_iff.1 hl0
    rw [if_neg c20,if_pos c21,el,List.append_nil,c21] at eu
    have elen:(Ze7 21 a b l).length=p:=by rw [el,eu];exact lp
    cases ao
    all_goals
     simp [-Int.natCast_add,Za0 u36 sz3,l0,l4,c21,hl0]
     generalize hra:Zan _ _ _ _ _ _=ra
     obtain⟨m4,b4,rfl,o4,k4⟩:=Zf9 hra u36 ap3 oX (by simp;omega) (by simp) (by simp) (by omega) (by omega)
     simp [-Int.natCast_add]
     rw [elen,el]
     exact⟨⟨_,⟨rfl,rfl⟩,fX,by rw [eu];exact (Sl.of (by simpa [List.map_take] using o4) (by simp;omega)).rs⟩,kX.fresh k4 (by simpa using hfm)⟩
   ·obtain⟨rb,rfl,hrb⟩:=hrX.rdo hl0
    have ldr:=hrb.load (off:=0) l.length (by simp)
    have wn:Zao (l.map (Value.int .i64)) 0 l.length=l.map (Value.int .i64):=by simp [Zao,← List.map_take]
    rw [wn] at ldr
    simp [-Int.natCast_add,Za0 u36 sz3,l0,l4,c21,hl0,ldr]
    generalize hra:Zan _ _ _ _ _ _=ra
    obtain⟨m4,b4,rfl,o4,k4⟩:=Zf9 hra u36 ap3 oX (by simp;omega) (by simp) (by simp [List.all_eq_true,Zam]) (by omega) (by omega)
    simp [-Int.natCast_add]
    rw [if_neg c20,if_pos c21,c21] at eu
    have elen:(Ze7 21 a b l).length=p+l.length:=by rw [eu,List.length_append,lp]
    rw [elen]
    exact⟨⟨_,⟨rfl,rfl⟩,fX,by rw [eu];exact (Sl.of (by simpa [List.map_take] using o4) (by simp;omega)).rs⟩,kX.fresh k4 (by simpa using hfm)⟩
  ·simp [-Int.natCast_add,l0,c20,c21]
   rw [if_neg c20,if_neg c21,List.append_nil] at eu
   rw [eu,lp]
   exact⟨⟨_,⟨rfl,rfl⟩,fX,(Sl.of oX (by simp;omega)).rs⟩,kX⟩
end Go.Proofs.YtlogdohlcdhepaaDoor.base
end
section
set_option maxRecDepth 100000
namespace Go.Proofs.YtlogdohlcdhepaaDoor.base
open Go.Sh gen
variable {S:Zb2}{m:Mem}
abbrev UnT:Ty:=(Ty.pair (Ty.int .i64) (Ty.pair (Ty.int .i64) (Ty.pair (Ty.slice 38 (Ty.pair (Ty.int .i64) (Ty.pair (Ty.int .i64) (Ty.pair (Ty.int .i64) (Ty.pair (Ty.int .i64) (Ty.pair (Ty.slice 3 (Ty.int .i64)) (Ty.pair (Ty.int .i64) Ty.unit))))))) (Ty.pair (Ty.slice 40 (Ty.pair (Ty.slice 3 (Ty.int .i64)) (Ty.pair (Ty.int .i64) (Ty.pair (Ty.int .i64) (Ty.pair (Ty.slice 3 (Ty.int .i64)) (Ty.pair (Ty.slice 3 (Ty.int .i64)) (Ty.pair (Ty.int .i64) Ty.unit))))))) (Ty.pair (Ty.slice 67 (Ty.pair (Ty.slice 64 (Ty.pair (Ty.int .i64) (Ty.pair (Ty.int .i64) (Ty.pair (Ty.slice 3 (Ty.int .i64)) (Ty.pair (Ty.slice 3 (Ty.int .i64)) Ty.unit))))) Ty.unit)) Ty.unit)))))
abbrev Zfk:Ty:=(Ty.pair (Ty.slice 3 (Ty.int .i64)) (Ty.pair (Ty.int .i64) (Ty.pair (Ty.int .i64) (Ty.pair (Ty.slice 3 (Ty.int .i64)) (Ty.pair (Ty.slice 3 (Ty.int .i64)) (Ty.pair (Ty.int .i64) Ty.unit))))))
abbrev StT:Ty:=(Ty.pair (Ty.slice 64 (Ty.pair (Ty.int .i64) (Ty.pair (Ty.int .i64) (Ty.pair (Ty.slice 3 (Ty.int .i64)) (Ty.pair (Ty.slice 3 (Ty.int .i64)) Ty.unit))))) Ty.unit)
abbrev Zmw:Ty:=(Ty.pair (Ty.int .i64) (Ty.pair (Ty.int .i64) (Ty.pair (Ty.slice 3 (Ty.int .i64)) (Ty.pair (Ty.slice 3 (Ty.int .i64)) Ty.unit))))
theorem Zq5 {css:List (List Value)}{z:Nat}(h:∀ x∈css,x.length=z):css.flatten.length=css.length * z:=by
 induction css with
 | nil=>simp
 | cons a r ih =>
  rw [List.flatten_cons,List.length_append,ih (fun c hc=>h c (by simp [hc])),h a (by simp),List.length_cons,Nat.add_mul]
  omega
theorem Zuw {css:List (List Value)}{z i:Nat}(h:∀ x∈css,x.length=z)(hi:i < css.length):Zao css.flatten (i * z) z=css[i]:=by
 induction css generalizing i with
 | nil=>simp at hi
 | cons a r ih =>
  have ha:=h a (by simp)
  cases i with
  | zero=>simp [Zao,← ha]
  | succ i =>
   have:=ih (i:=i) (fun x hx=>h x (by simp [hx])) (by simpa using hi)
   simp only [Zao,List.flatten_cons] at this ⊢
   rw [show (i+1) * z=a.length+i * z by rw [ha,Nat.add_mul];omega,List.drop_append]
   have e:List.drop (a.length+i * z) a=[]:=List.drop_of_length_le (by omega)
   rw [e]
   simpa using this
theorem Zuh {Q:Nat→Prop}{e:TypeId}{t:Ty}{l:List t.D}{ao:Option Addr}(h:AtQ Q m (Ty.slice e t) l [.slice ao l.length l.length]) :
  ∃ (css:List (List Value)) (fam:Nat),css.length=l.length∧(∀ (i:Nat) d c,l[i]?=some d→css[i]?=some c→AtQ Q m t d c)∧Rs m ao l.length css.flatten e t.size fam∧(l.length≠0→Q fam):=by
 obtain⟨ao',css,fam,h1,h2,h3,h4,h5⟩:=h
 simp only [List.cons.injEq,Value.slice.injEq,and_true] at h1
 rw [← h1] at h4
 exact⟨css,fam,h2,h3,h4,h5⟩
theorem Zhw {Q:Nat→Prop}{e:TypeId}{t:Ty}{l:List t.D}{ao:Option Addr}(h:AtQ Q m (Ty.slice e t) l [.slice ao l.length l.length]){i:Nat}(hi:i < l.length) :
  ∃ (vb:Nat) (c:List Value) (fam:Nat),ao=some ⟨vb,0,none⟩∧AtQ Q m t l[i] c∧loadRow m ⟨vb,i * t.size,none⟩ t.size=some c∧Q fam∧c.length=t.size:=by
 obtain⟨css,fam,hcl,hce,hr,hq⟩:=Zuh h
 obtain⟨vb,rfl,o⟩:=hr.rdo (by omega)
 have hce':∀ (j:Nat) d c,l[j]?=some d→css[j]?=some c→At m t d c:=fun j d c h1 h2=>(hce j d c h1 h2).at_
 obtain⟨c,hc,hw⟩:=At.elem hcl hce' hi
 have hci:i < css.length:=by omega
 have hat:=hce i l[i] css[i] (List.getElem?_eq_getElem hi) (List.getElem?_eq_getElem hci)
 have hlen:∀ x∈css,x.length=t.size:=by
  intro x hx
  obtain⟨j,hj⟩:=List.getElem?_of_mem hx
  have hjl:j < l.length:=by have:=(List.getElem?_eq_some_iff.1 hj).1;omega
  exact (hce' j l[j] x (List.getElem?_eq_getElem hjl) hj).len
 have hwin:=Zuw hlen hci
 have hfl:css.flatten.length=css.length * t.size:=Zq5 hlen
 have hb:i * t.size+t.size≤css.flatten.length:=by
  rw [hfl,← Nat.succ_mul]
  exact Nat.mul_le_mul_right _ hci
 exact⟨vb,css[i],fam,rfl,hat,by rw [o.load t.size hb,hwin],hq (by omega),hlen _ (List.getElem_mem hci)⟩
theorem Zb8 {b off n k:Nat}{cs:List Value}{v:Value}(h:loadRow m ⟨b,off,none⟩ n=some cs)(hk:cs[k]?=some v):loadRow m ⟨b,off+k,none⟩ 1=some [v]:=by
 unfold loadRow at h ⊢
 simp only at h ⊢
 cases hr:m.readable b with
 | none=>rw [hr] at h;cases h
 | some bl =>
  rw [hr] at h
  simp only at h ⊢
  split at h
  ·rename_i hle
   simp only [Option.some.injEq] at h
   subst h
   have hkl:=(List.getElem?_eq_some_iff.1 hk).1
   have hwl:(Zao bl.cells off n).length=n:=Zed hle
   rw [hwl] at hkl
   rw [if_pos (by omega)]
   obtain⟨_,hk2⟩:=Zh2 hk
   have hlt:=(List.getElem?_eq_some_iff.1 hk2).1
   unfold Zao
   rw [List.drop_eq_getElem_cons hlt]
   have:=(List.getElem?_eq_some_iff.1 hk2).2
   rw [this]
   rfl
  ·cases h
structure UAt (Q:Nat→Prop)(m:Mem)(u:UnT.D)(vo bo so:Option Addr):Prop where
 v:AtQ Q m (Ty.slice 38 (Ty.pair (Ty.int .i64) (Ty.pair (Ty.int .i64) (Ty.pair (Ty.int .i64) (Ty.pair (Ty.int .i64) (Ty.pair (Ty.slice 3 (Ty.int .i64)) (Ty.pair (Ty.int .i64) Ty.unit))))))) u.2.2.1 [.slice vo u.2.2.1.length u.2.2.1.length]
 b:AtQ Q m (Ty.slice 40 (Ty.pair (Ty.slice 3 (Ty.int .i64)) (Ty.pair (Ty.int .i64) (Ty.pair (Ty.int .i64) (Ty.pair (Ty.slice 3 (Ty.int .i64)) (Ty.pair (Ty.slice 3 (Ty.int .i64)) (Ty.pair (Ty.int .i64) Ty.unit))))))) u.2.2.2.1 [.slice bo u.2.2.2.1.length u.2.2.2.1.length]
 s:AtQ Q m (Ty.slice 67 (Ty.pair (Ty.slice 64 (Ty.pair (Ty.int .i64) (Ty.pair (Ty.int .i64) (Ty.pair (Ty.slice 3 (Ty.int .i64)) (Ty.pair (Ty.slice 3 (Ty.int .i64)) Ty.unit))))) Ty.unit)) u.2.2.2.2.1 [.slice so u.2.2.2.2.1.length u.2.2.2.2.1.length]
theorem UAt.keep {Q:Nat→Prop}{m1:Mem}{u:UnT.D}{vo bo so:Option Addr}{fs:List Nat}(h:UAt Q m u vo bo so)(k:Zaa m m1 fs)(hf:∀ f∈fs,¬ Q f):UAt Q m1 u vo bo so:=
 ⟨h.v.keep k hf,h.b.keep k hf,h.s.keep k hf⟩
theorem Zfr {Q:Nat→Prop}{l:List Int}{c:List Value}(h:AtQ Q m (Ty.slice 3 (Ty.int .i64)) l c):∃ ao f,c=[.slice ao l.length l.length]∧Rs m ao l.length (l.map (Value.int .i64)) 3 1 f∧(l.length≠0→Q f):=by
 obtain⟨ao,css,fam,h1,h2,h3,h4,h5⟩:=h
 have:=Zv3 (e:=3) h2 (fun i d c h6 h7=>(h3 i d c h6 h7).at_)
 rw [this] at h4
 exact⟨ao,fam,h1,h4,h5⟩
abbrev Zkr (x:Zbj.D)(ao:Option Addr):List Value:=[.int .i64 x.1,.int .i64 x.2.1,.int .i64 x.2.2.1,.int .i64 x.2.2.2.1,.slice ao x.2.2.2.2.1.length x.2.2.2.2.1.length,.int .i64 x.2.2.2.2.2.1]
theorem Zh {Q:Nat→Prop}{u:UnT.D}{vo bo so:Option Addr}(h:UAt Q m u vo bo so){i:Nat}(hi:i < u.2.2.1.length) :
  ∃ (vb:Nat) (ao:Option Addr) (f:Nat),vo=some ⟨vb,0,none⟩∧loadRow m ⟨vb,i * 6,none⟩ 6=some (Zkr (u.2.2.1[i]) ao)∧Rs m ao (u.2.2.1[i]).2.2.2.2.1.length ((show List Int from (u.2.2.1[i]).2.2.2.2.1).map (Value.int .i64)) 3 1 f∧((u.2.2.1[i]).2.2.2.2.1.length≠0→Q f):=by
 obtain⟨vb,c,fam,e,hc,hl,hq,_⟩:=Zhw h.v hi
 obtain⟨_,_,e1,rfl,_,_,e2,rfl,_,_,e3,rfl,_,_,e4,rfl,_,_,e5,h5,_,_,e6,rfl,h7⟩:=hc
 simp only [AtQ] at h7
 subst h7
 obtain⟨ao,f,rfl,hr,hqf⟩:=Zfr h5
 refine⟨vb,ao,f,e,?_,hr,hqf⟩
 rw [e1,e2,e3,e4,e5,e6] at hl
 exact hl
structure Kv where
 x:Nat
 f:Nat
 hb:Nat
 hf:Nat
 hwf:Nat
 wb:Nat
 wf:Nat
 room:Int
 vo:Option Addr
 bo:Option Addr
 so:Option Addr
structure Vv where
 hwb:Nat
 hw:List Int
 ws:List Int
 wish:Int
 steps:Int
abbrev nv (u:UnT.D):Nat:=u.2.2.1.length
structure Ev (Q:Nat→Prop)(m:Mem)(u:UnT.D)(K:Kv)(V:Vv):Prop where
 own:Own m K.x [.int .i64 u.1,.int .i64 u.2.1,.slice K.vo (nv u) (nv u),.slice K.bo u.2.2.2.1.length u.2.2.2.1.length,.slice K.so u.2.2.2.2.1.length u.2.2.2.2.1.length,.pointer (some ⟨K.hb,0,none⟩),.slice (some ⟨K.wb,0,none⟩) (nv u) (nv u),.int .i64 V.wish,.int .i64 V.steps] 78 K.f
 wds:Own m K.wb (words V.ws) 45 K.wf
 len:V.ws.length=nv u
 wd:Wd V.ws
 hwd:Wd V.hw
 hl:V.hw.length≤65536
 heap:Zdn m K.hb K.hf V.hwb K.hwf V.hw K.room
 unit:UAt Q m u K.vo K.bo K.so
 nq:¬ Q K.f∧¬ Q K.wf∧¬ Q K.hf∧¬ Q K.hwf
 nd:K.f≠K.wf∧K.f≠K.hf∧K.f≠K.hwf∧K.wf≠K.hf∧K.wf≠K.hwf∧K.hf≠K.hwf
theorem Ev.keep {Q:Nat→Prop}{m1:Mem}{u:UnT.D}{K:Kv}{V:Vv}{fs:List Nat}(h:Ev Q m u K V)(k:Zaa m m1 fs)(h1:K.f∉fs)(h2:K.wf∉fs)(h3:K.hf∉fs)(h4:K.hwf∉fs)(h5:∀ f∈fs,¬ Q f):Ev Q m1 u K V:=
 ⟨h.own.keep k h1,h.wds.keep k h2,h.len,h.wd,h.hwd,h.hl,h.heap.keep k h3 h4,h.unit.keep k h5,h.nq,h.nd⟩
theorem Ev.keep0 {Q:Nat→Prop}{m1:Mem}{u:UnT.D}{K:Kv}{V:Vv}(h:Ev Q m u K V)(k:Zaa m m1 []):Ev Q m1 u K V:=h.keep k (by simp) (by simp) (by simp) (by simp) (by simp)
theorem Ze5 (l:List Int):(words l).length=l.length:=by simp [words]
theorem Ev.setw {Q:Nat→Prop}{u:UnT.D}{K:Kv}{V:Vv}(h:Ev Q m u K V){i:Nat}(hi:i < nv u){v:Int}(hv:0≤v∧v≤18446744073709551615) :
  ∃ m1,Zaf m ⟨K.wb,i,none⟩ [.int .u64 v]=some m1∧Ev Q m1 u K { V with ws:=V.ws.set i v }∧Zaa m m1 [K.wf]:=by
 obtain⟨m1,e1,o1,k1⟩:=Zaj (r:=_) rfl h.wds (off:=i) (vs:=[.int .u64 v]) (by rw [Ze5,h.len];simp;omega) (by simp [Zam])
 rw [Zk v (by rw [h.len];exact hi)] at o1
 have nd:=h.nd
 refine⟨m1,e1,⟨h.own.keep k1 (by simpa using nd.1),o1,by simpa using h.len,?_,h.hwd,h.hl,h.heap.keep k1 (by simpa using fun e=>nd.2.2.2.1 e.symm) (by simpa using fun e=>nd.2.2.2.2.1 e.symm),h.unit.keep k1 (by simpa using h.nq.2.1),h.nq,nd⟩,k1⟩
 intro w hw
 rcases List.mem_or_eq_of_mem_set hw with h1 | h1
 ·exact h.wd w h1
 ·rw [h1];exact hv
end Go.Proofs.YtlogdohlcdhepaaDoor.base
end
