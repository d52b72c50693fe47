/- This text proves what package verify asks of an instruction alone, how many values it takes, which method is meant. Condition: nothing is known of the calls ahead ('S f = []') but code.Name's names. -/
import Derived.Test.YtbldiceiindbdaaGreatDoorVeB
set_option linter.unusedVariables false
set_option linter.unusedSimpArgs false
set_option maxRecDepth 100000
namespace Go.Proofs.YtbldiceiindbdaaGreatDoor.base
open Go.Sh gen
variable {S:Zed}{m:Mem}{wb:Nat}{p:Pr}{q:Pp}{f:Fn}{fp:Fp}
def inB (a:Int)(n:Nat):Bool:=decide (0≤a∧a < (n:Int))
def Zl0 (F:List Fn)(a:Int):Nat:=(F.getD a.toNat ⟨[],[],0,[],[]⟩).ps.length
def Zda (p:Pr)(x:Ix):Bool:=
 if x.1=1 then inB x.2.1 p.nN else
 if x.1=3 then inB x.2.1 p.X.length else
 if x.1=2∨x.1=41 then decide (x.2.1=0∨x.2.1=1) else
 if x.1=4 then Zun p.L x.2.1 else
 if x.1=39 then decide (1≤x.2.1∧x.2.1≤3) else
 if x.1=34∨x.1=38 then decide (Zdy p.L x.2.1=5) else
 if x.1=35 then decide (Zdy p.L x.2.1=6) else
 if x.1=36 then inB x.2.1 p.F.length && decide (x.2.2=Zl0 p.F x.2.1) else
 if x.1=37 then inB x.2.1 p.X.length && decide (1≤x.2.2∧x.2.2≤8) else
 if x.1=28∨x.1=29 then inB x.2.1 12 else true
def Zfe (p:Pr)(nl nc:Nat)(x:Ix)(pc:Nat):Int:=
 if ¬ (1≤x.1∧x.1≤41)∨Zda p x=false then 30 else
 if (x.1=5∨x.1=6)∧inB x.2.1 nl=false then 33 else
 if (x.1=26∨x.1=27)∧inB x.2.1 nc=false then 31 else
 if pc+1=nc∧x.1≠26∧x.1≠41 then 34 else 0
theorem wkF (hN:Nw S)(h:Wa m wb p q f fp)(t:Int)(k:Int)(hk:k=5∨k=6∨k=7):∃ v,Zbi Tryz.prog TT S 114 [.pointer (some ⟨wb,0,none⟩),.int .i64 t] m=some (.int .i64 v,m)∧(v=k↔Zdy p.L t=k):=by
 obtain⟨v,hv,h1,h2⟩:=Zju hN.wkind hN.below h t
 refine⟨v,hv,?_⟩
 by_cases hin:0≤t∧t < p.L.length
 ·obtain⟨i,rfl⟩:∃ i:Nat,t=i:=⟨t.toNat,by omega⟩
  have hi:i < p.L.length:=by omega
  rw [h1 i hi rfl,Zf1 hi]
 ·rw [h2 hin,Zil hin]
  omega
set_option maxHeartbeats 2000000 in
theorem Zzw (hN:Nw S)(h:Wa m wb p q f fp)(x:Ix):∃ m1,Zbi Tryz.prog TT S 73 [.pointer (some ⟨wb,0,none⟩),.agg #[.int .i64 x.1,.int .i64 x.2.1,.int .i64 x.2.2]] m=some (.bool (Zda p x),m1)∧Zao m m1 []:=by
 suffices hg:∃ v m1,Zbi Tryz.prog TT S 73 [.pointer (some ⟨wb,0,none⟩),.agg #[.int .i64 x.1,.int .i64 x.2.1,.int .i64 x.2.2]] m=some (v,m1)∧v=.bool (Zda p x)∧Zao m m1 [] by
  obtain⟨_,m1,h1,rfl,h2⟩:=hg
  exact⟨m1,h1,h2⟩
 obtain⟨op,a,b⟩:=x
 obtain⟨o1,k1,n1⟩:=Za7 (m:=m) (cs:=[.int .i64 op,.int .i64 a,.int .i64 b]) (e:=40) rfl
 obtain⟨xb,hxb⟩:∃ xb,m.next=xb:=⟨_,rfl⟩
 rw [hxb] at o1 n1
 obtain⟨m1,hm1⟩:∃ mF,m.new [.int .i64 op,.int .i64 a,.int .i64 b] 40=mF:=⟨_,rfl⟩
 rw [hm1] at o1 k1 n1
 have w:=h.keep k1
 have x0:=o1.load1 (off:=0) rfl
 have x1:=o1.load1 (off:=1) rfl
 have x2:=o1.load1 (off:=2) rfl
 have l0:=w.l0
 have l1:=w.l1
 have l3:=w.l3
 have l4:=w.l4
 have bl:=fun m' k n=>Zl9 (m:=m') hN.below k n
 refine Zey 7 [7,18,29,29,40,50,60,60,68,75,102,123,123] k73 hN.opnd rfl ?_
 simp only []
 by_cases e1:op=1
 ·subst e1
  simp [-Int.natCast_add,-BitVec.toNat_or,-BitVec.toNat_ofInt,-BitVec.toNat_and,Zah b40,Za Zak,Zab ld3,Za Zal,Za Zbt,Za Zb7,Zab Zez,Zac u43,Za Za2,Zab Zcr,Zac u42,Za Zas,Zab Zb2,Za Zan,Zab Zbw,Zac u41,Za Za0,Zaa u41 Za5,Za Zav,Zab Zbe,Zac u23,hxb,hm1,x0,x1,l4,bl,Zda,inB]
  exact k1
 by_cases e3:op=3
 ·subst e3
  simp [-Int.natCast_add,-BitVec.toNat_or,-BitVec.toNat_ofInt,-BitVec.toNat_and,Zah b40,Za Zak,Zab ld3,Za Zal,Za Zbt,Za Zb7,Zab Zez,Zac u43,Za Za2,Zab Zcr,Zac u42,Za Zas,Zab Zb2,Za Zan,Zab Zbw,Zac u41,Za Za0,Zaa u41 Za5,Za Zav,Zab Zbe,Zac u23,hxb,hm1,x0,x1,l3,bl,Zda,inB]
  exact k1
 by_cases e2:op=2
 ·subst e2
  by_cases a0:a=0
  ·subst a0
   simp [-Int.natCast_add,-BitVec.toNat_or,-BitVec.toNat_ofInt,-BitVec.toNat_and,Zah b40,Za Zak,Zab ld3,Za Zal,Za Zbt,Za Zb7,Zab Zez,Zac u43,Za Za2,Zab Zcr,Zac u42,Za Zas,Zab Zb2,Za Zan,Zab Zbw,Zac u41,Za Za0,Zaa u41 Za5,Za Zav,Zab Zbe,Zac u23,hxb,hm1,x0,x1,Zda]
   exact k1
  ·simp [-Int.natCast_add,-BitVec.toNat_or,-BitVec.toNat_ofInt,-BitVec.toNat_and,Zah b40,Za Zak,Zab ld3,Za Zal,Za Zbt,Za Zb7,Zab Zez,Zac u43,Za Za2,Zab Zcr,Zac u42,Za Zas,Zab Zb2,Za Zan,Zab Zbw,Zac u41,Za Za0,Zaa u41 Za5,Za Zav,Zab Zbe,Zac u23,hxb,hm1,x0,x1,Zda,a0]
   exact k1
 by_cases e41:op=41
 ·subst e41
  by_cases a0:a=0
  ·subst a0
   simp [-Int.natCast_add,-BitVec.toNat_or,-BitVec.toNat_ofInt,-BitVec.toNat_and,Zah b40,Za Zak,Zab ld3,Za Zal,Za Zbt,Za Zb7,Zab Zez,Zac u43,Za Za2,Zab Zcr,Zac u42,Za Zas,Zab Zb2,Za Zan,Zab Zbw,Zac u41,Za Za0,Zaa u41 Za5,Za Zav,Zab Zbe,Zac u23,hxb,hm1,x0,x1,Zda]
   exact k1
  ·simp [-Int.natCast_add,-BitVec.toNat_or,-BitVec.toNat_ofInt,-BitVec.toNat_and,Zah b40,Za Zak,Zab ld3,Za Zal,Za Zbt,Za Zb7,Zab Zez,Zac u43,Za Za2,Zab Zcr,Zac u42,Za Zas,Zab Zb2,Za Zan,Zab Zbw,Zac u41,Za Za0,Zaa u41 Za5,Za Zav,Zab Zbe,Zac u23,hxb,hm1,x0,x1,Zda,a0]
   exact k1
 by_cases e4:op=4
 ·subst e4
  obtain⟨_,m2,h2,rfl,k2⟩:=Zv3 (m:=m1) hN.isref hN.h.kind hN.h.of w.pr.tb a
  simp [-Int.natCast_add,-BitVec.toNat_or,-BitVec.toNat_ofInt,-BitVec.toNat_and,Zah b40,Za Zak,Zab ld3,Za Zal,Za Zbt,Za Zb7,Zab Zez,Zac u43,Za Za2,Zab Zcr,Zac u42,Za Zas,Zab Zb2,Za Zan,Zab Zbw,Zac u41,Za Za0,Zaa u41 Za5,Za Zav,Zab Zbe,Zac u23,hxb,hm1,x0,x1,l0,h2,Zda]
  exact k1.trans k2
 by_cases e39:op=39
 ·subst e39
  by_cases a0:1≤a
  ·simp [-Int.natCast_add,-BitVec.toNat_or,-BitVec.toNat_ofInt,-BitVec.toNat_and,Zah b40,Za Zak,Zab ld3,Za Zal,Za Zbt,Za Zb7,Zab Zez,Zac u43,Za Za2,Zab Zcr,Zac u42,Za Zas,Zab Zb2,Za Zan,Zab Zbw,Zac u41,Za Za0,Zaa u41 Za5,Za Zav,Zab Zbe,Zac u23,hxb,hm1,x0,x1,Zda,a0]
   exact k1
  ·simp [-Int.natCast_add,-BitVec.toNat_or,-BitVec.toNat_ofInt,-BitVec.toNat_and,Zah b40,Za Zak,Zab ld3,Za Zal,Za Zbt,Za Zb7,Zab Zez,Zac u43,Za Za2,Zab Zcr,Zac u42,Za Zas,Zab Zb2,Za Zan,Zab Zbw,Zac u41,Za Za0,Zaa u41 Za5,Za Zav,Zab Zbe,Zac u23,hxb,hm1,x0,x1,Zda,a0]
   exact k1
 by_cases e34:op=34
 ·subst e34
  obtain⟨v,h2,hv⟩:=wkF hN w a 5 (by omega)
  simp [-Int.natCast_add,-BitVec.toNat_or,-BitVec.toNat_ofInt,-BitVec.toNat_and,Zah b40,Za Zak,Zab ld3,Za Zal,Za Zbt,Za Zb7,Zab Zez,Zac u43,Za Za2,Zab Zcr,Zac u42,Za Zas,Zab Zb2,Za Zan,Zab Zbw,Zac u41,Za Za0,Zaa u41 Za5,Za Zav,Zab Zbe,Zac u23,hxb,hm1,x0,x1,h2,Zda,hv]
  exact k1
 by_cases e38:op=38
 ·subst e38
  obtain⟨v,h2,hv⟩:=wkF hN w a 5 (by omega)
  simp [-Int.natCast_add,-BitVec.toNat_or,-BitVec.toNat_ofInt,-BitVec.toNat_and,Zah b40,Za Zak,Zab ld3,Za Zal,Za Zbt,Za Zb7,Zab Zez,Zac u43,Za Za2,Zab Zcr,Zac u42,Za Zas,Zab Zb2,Za Zan,Zab Zbw,Zac u41,Za Za0,Zaa u41 Za5,Za Zav,Zab Zbe,Zac u23,hxb,hm1,x0,x1,h2,Zda,hv]
  exact k1
 by_cases e35:op=35
 ·subst e35
  obtain⟨v,h2,hv⟩:=wkF hN w a 6 (by omega)
  simp [-Int.natCast_add,-BitVec.toNat_or,-BitVec.toNat_ofInt,-BitVec.toNat_and,Zah b40,Za Zak,Zab ld3,Za Zal,Za Zbt,Za Zb7,Zab Zez,Zac u43,Za Za2,Zab Zcr,Zac u42,Za Zas,Zab Zb2,Za Zan,Zab Zbw,Zac u41,Za Za0,Zaa u41 Za5,Za Zav,Zab Zbe,Zac u23,hxb,hm1,x0,x1,h2,Zda,hv]
  exact k1
 by_cases e36:op=36
 ·subst e36
  by_cases hin:0≤a∧a < p.F.length
  ·have bl1:=fun m'=>(bl m' a (p.F.length:Int)).trans (by rw [decide_eq_true hin])
   obtain⟨i,rfl⟩:∃ i:Nat,a=i:=⟨a.toNat,by omega⟩
   have hi:i < p.F.length:=by omega
   obtain⟨fb,fq,he,hfn,hld⟩:=w.pr.fs.one hi
   rw [he] at l1
   have l9:=(hld _ (Zaj _)).2.1
   have hle:=w.pr.fs.le
   have em:(i:Int)≤9223372036854775807:=by omega
   have e9:Zl0 p.F (i:Int)=p.F[i].ps.length:=by simp [Zl0,List.getD_eq_getElem?_getD,hi]
   have ei:inB (i:Int) p.F.length=true:=decide_eq_true hin
   simp [-Int.natCast_add,-BitVec.toNat_or,-BitVec.toNat_ofInt,-BitVec.toNat_and,Zah b40,Za Zak,Zab ld3,Za Zal,Za Zbt,Za Zb7,Zab Zez,Zac u43,Za Za2,Zab Zcr,Zac u42,Za Zas,Zab Zb2,Za Zan,Zab Zbw,Zac u41,Za Za0,Zaa u41 Za5,Za Zav,Zab Zbe,Zac u23,hxb,hm1,x0,x1,x2,l1,bl1,em,hi,l9,Zda,e9,ei]
   exact k1
  ·have bl1:=fun m'=>(bl m' a (p.F.length:Int)).trans (by rw [decide_eq_false hin])
   have ei:inB a p.F.length=false:=decide_eq_false hin
   simp [-Int.natCast_add,-BitVec.toNat_or,-BitVec.toNat_ofInt,-BitVec.toNat_and,Zah b40,Za Zak,Zab ld3,Za Zal,Za Zbt,Za Zb7,Zab Zez,Zac u43,Za Za2,Zab Zcr,Zac u42,Za Zas,Zab Zb2,Za Zan,Zab Zbw,Zac u41,Za Za0,Zaa u41 Za5,Za Zav,Zab Zbe,Zac u23,hxb,hm1,x0,x1,x2,l1,bl1,Zda,ei]
   exact k1
 by_cases e37:op=37
 ·subst e37
  by_cases hin:0≤a∧a < p.X.length
  ·have bl1:=fun m'=>(bl m' a (p.X.length:Int)).trans (by rw [decide_eq_true hin])
   have ei:inB a p.X.length=true:=decide_eq_true hin
   by_cases b0:1≤b
   ·simp [-Int.natCast_add,-BitVec.toNat_or,-BitVec.toNat_ofInt,-BitVec.toNat_and,Zah b40,Za Zak,Zab ld3,Za Zal,Za Zbt,Za Zb7,Zab Zez,Zac u43,Za Za2,Zab Zcr,Zac u42,Za Zas,Zab Zb2,Za Zan,Zab Zbw,Zac u41,Za Za0,Zaa u41 Za5,Za Zav,Zab Zbe,Zac u23,hxb,hm1,x0,x1,x2,l3,bl1,Zda,ei,b0]
    exact k1
   ·simp [-Int.natCast_add,-BitVec.toNat_or,-BitVec.toNat_ofInt,-BitVec.toNat_and,Zah b40,Za Zak,Zab ld3,Za Zal,Za Zbt,Za Zb7,Zab Zez,Zac u43,Za Za2,Zab Zcr,Zac u42,Za Zas,Zab Zb2,Za Zan,Zab Zbw,Zac u41,Za Za0,Zaa u41 Za5,Za Zav,Zab Zbe,Zac u23,hxb,hm1,x0,x1,x2,l3,bl1,Zda,ei,b0]
    exact k1
  ·have bl1:=fun m'=>(bl m' a (p.X.length:Int)).trans (by rw [decide_eq_false hin])
   have ei:inB a p.X.length=false:=decide_eq_false hin
   simp [-Int.natCast_add,-BitVec.toNat_or,-BitVec.toNat_ofInt,-BitVec.toNat_and,Zah b40,Za Zak,Zab ld3,Za Zal,Za Zbt,Za Zb7,Zab Zez,Zac u43,Za Za2,Zab Zcr,Zac u42,Za Zas,Zab Zb2,Za Zan,Zab Zbw,Zac u41,Za Za0,Zaa u41 Za5,Za Zav,Zab Zbe,Zac u23,hxb,hm1,x0,x1,x2,l3,bl1,Zda,ei]
   exact k1
 by_cases e28:op=28
 ·subst e28
  simp [-Int.natCast_add,-BitVec.toNat_or,-BitVec.toNat_ofInt,-BitVec.toNat_and,Zah b40,Za Zak,Zab ld3,Za Zal,Za Zbt,Za Zb7,Zab Zez,Zac u43,Za Za2,Zab Zcr,Zac u42,Za Zas,Zab Zb2,Za Zan,Zab Zbw,Zac u41,Za Za0,Zaa u41 Za5,Za Zav,Zab Zbe,Zac u23,hxb,hm1,x0,x1,bl,Zda,inB]
  exact k1
 by_cases e29:op=29
 ·subst e29
  simp [-Int.natCast_add,-BitVec.toNat_or,-BitVec.toNat_ofInt,-BitVec.toNat_and,Zah b40,Za Zak,Zab ld3,Za Zal,Za Zbt,Za Zb7,Zab Zez,Zac u43,Za Za2,Zab Zcr,Zac u42,Za Zas,Zab Zb2,Za Zan,Zab Zbw,Zac u41,Za Za0,Zaa u41 Za5,Za Zav,Zab Zbe,Zac u23,hxb,hm1,x0,x1,bl,Zda,inB]
  exact k1
 simp [-Int.natCast_add,-BitVec.toNat_or,-BitVec.toNat_ofInt,-BitVec.toNat_and,Zah b40,Za Zak,Zab ld3,Za Zal,Za Zbt,Za Zb7,Zab Zez,Zac u43,Za Za2,Zab Zcr,Zac u42,Za Zas,Zab Zb2,Za Zan,Zab Zbw,Zac u41,Za Za0,Zaa u41 Za5,Za Zav,Zab Zbe,Zac u23,hxb,hm1,x0,x1,Zda, *]
end Go.Proofs.YtbldiceiindbdaaGreatDoor.base
