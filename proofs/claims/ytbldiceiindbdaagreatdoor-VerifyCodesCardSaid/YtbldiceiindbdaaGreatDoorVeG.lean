/- This text proves what package verify's gives and does answer: what an instruction does to a stack of types. Condition: nothing is known of the calls ahead ('S f = []') but code.Name's names. -/
import Derived.Test.YtbldiceiindbdaaGreatDoorVeF
set_option linter.unusedVariables false
set_option linter.unusedSimpArgs false
set_option maxRecDepth 100000
namespace Go.Proofs.YtbldiceiindbdaaGreatDoor.base
open Go.Sh gen
variable {S:Zed}{m:Mem}{wb:Nat}{p:Pr}{q:Pp}{f:Fn}{fp:Fp}
def Zg1 (l:List Int)(t:Int):Bool:=l.all fun x=>decide (x=t)
def Za6 (p:Pr)(f:Fn)(x:Ix)(l:List Int):Int × Bool:=
 if x.1=1∨x.1=40 then (1,true) else
 if x.1=2 then (2,true) else
 if x.1=3 then (3,true) else
 if x.1=4∨x.1=34 then (x.2.1,true) else
 if x.1=5 then (f.ls.getD x.2.1.toNat 0,true) else
 if x.1=6 then (0,Zhd p.L l [f.ls.getD x.2.1.toNat 0]) else
 if x.1=7∨x.1=26 then (0,true) else
 if x.1=8∨x.1=9∨x.1=10∨x.1=11∨x.1=12∨x.1=13 then (1,Zg1 l 1) else
 if x.1=17∨x.1=18∨x.1=19∨x.1=20 then (2,Zg1 l 1) else
 if x.1=14 then (2,Zg1 l 2) else
 if x.1=15∨x.1=16 then (2,eqI p.L (l.getD 0 0) (l.getD 1 0)) else
 if x.1=21 then (3,Zg1 l 3) else
 if x.1=22∨x.1=23∨x.1=24∨x.1=25 then (2,Zg1 l 3) else
 if x.1=27 then (0,Zg1 l 2) else
 if x.1=39 then (0,Zg1 l x.2.1) else
 if x.1=35 then (x.2.1,Zg1 l 1) else
 if x.1=33 then (1,decide (Zdy p.L (l.getD 0 0)=6∨l.getD 0 0=3)) else
 if x.1=32 then (1,decide (l.getD 0 0=3∧l.getD 1 0=1)) else Zdg p f x l
set_option maxHeartbeats 8000000 in
theorem Zve (hN:Nw S)(hP:Zu0 p)(h:Wa m wb p q f fp)(hf:f∈p.F)(hfl:f.ls.length≤1000)(x:Ix)(hx:Zlh p f.ls.length x){ao:Option Addr}{l:List Int}(hl:Iv m ao l)(hlv:Val p.L l)(hlt:(l.length:Int)=Zcp x)(hll:l.length≤1000):∃ m1,Zbi Tryz.prog TT S 76 [.pointer (some ⟨wb,0,none⟩),.agg #[.int .i64 x.1,.int .i64 x.2.1,.int .i64 x.2.2],.slice ao l.length l.length] m=some (.tuple #[.int .i64 (Za6 p f x l).1,.bool (Za6 p f x l).2],m1)∧Zao m m1 []:=by
 suffices hg:∃ v m1,Zbi Tryz.prog TT S 76 [.pointer (some ⟨wb,0,none⟩),.agg #[.int .i64 x.1,.int .i64 x.2.1,.int .i64 x.2.2],.slice ao l.length l.length] m=some (v,m1)∧v=.tuple #[.int .i64 (Za6 p f x l).1,.bool (Za6 p f x l).2]∧Zao m m1 [] by
  obtain⟨_,m1,h1,rfl,h2⟩:=hg
  exact⟨m1,h1,h2⟩
 have hR:=hP.L
 have hpr:=fun m' w hl e=>Zws (m:=m') (wb:=wb) (q:=q) (fp:=fp) hN hP w hf hfl x hx (ao:=ao) hl hlv hlt hll e
 obtain⟨op,a,b⟩:=x
 have hloc:=hx.loc
 have hop:=hx.op
 simp only at hloc hop hpr
 obtain⟨o1,k1,n1⟩:=Za7 (m:=m) (cs:=[.int .i64 op,.int .i64 a,.int .i64 b]) (e:=40) rfl
 obtain⟨xb,hxb⟩:∃ xb,m.next=xb:=⟨_,rfl⟩
 rw [hxb] at o1 n1
 obtain⟨m1,hm1⟩:∃ mF,m.new [.int .i64 op,.int .i64 a,.int .i64 b] 40=mF:=⟨_,rfl⟩
 rw [hm1] at o1 k1 n1
 have w:=h.keep k1
 have x0:=o1.load1 (off:=0) rfl
 have x1:=o1.load1 (off:=1) rfl
 have xa:=o1.load (off:=0) 3 (by simp)
 simp [Zb] at xa
 have hl1:=hl.keep k1
 have l8:=w.l8
 have al:=fun t=>Z15 (m:=m1) hN.all hl1 hll t
 have hprs:=hpr m1 w hl1
 have loc:0≤a∧a < f.ls.length→∃ (i lb:Nat),a=i∧i < f.ls.length∧fp.la=some ⟨lb,0,none⟩∧loadRow m1 ⟨lb,i,none⟩ 1=some [.int .i64 (f.ls.getD i 0)]∧Zgc p.L.length (f.ls.getD i 0):=by
  intro hin
  obtain⟨i,rfl⟩:∃ i:Nat,a=i:=⟨a.toNat,by omega⟩
  have hi:i < f.ls.length:=by omega
  obtain⟨lb,he,hr⟩:=w.fn.ls.rdo (by omega)
  refine⟨i,lb,rfl,hi,he,?_,by rw [gd hi];exact hP.ls f hf _ (List.getElem_mem hi)⟩
  rw [gd hi]
  exact hr.load1 (by simp [ic,hi])
 refine Zey 10 [10,10,13,15,17,17,22,33,48,48,51,51,51,51,51,51,60,60,60,60,67,71,71,82,86,86,86,86,93,97,103,109,123] k76 hN.gives rfl ?_
 simp only []
 by_cases e1:op=1
 ·subst e1;simp [-Int.natCast_add,-BitVec.toNat_or,-BitVec.toNat_ofInt,-BitVec.toNat_and,Zah b40,Za Zak,Zab ld3,Za Zal,Za Zbm,Za Zat,Zab Zbe,Zaa u23 sz3,Zad u23 bs3 rfl,Zae Zcb,hxb,hm1,x0,Za6];exact k1
 by_cases e40:op=40
 ·subst e40;simp [-Int.natCast_add,-BitVec.toNat_or,-BitVec.toNat_ofInt,-BitVec.toNat_and,Zah b40,Za Zak,Zab ld3,Za Zal,Za Zbm,Za Zat,Zab Zbe,Zaa u23 sz3,Zad u23 bs3 rfl,Zae Zcb,hxb,hm1,x0,Za6];exact k1
 by_cases e2:op=2
 ·subst e2;simp [-Int.natCast_add,-BitVec.toNat_or,-BitVec.toNat_ofInt,-BitVec.toNat_and,Zah b40,Za Zak,Zab ld3,Za Zal,Za Zbm,Za Zat,Zab Zbe,Zaa u23 sz3,Zad u23 bs3 rfl,Zae Zcb,hxb,hm1,x0,Za6];exact k1
 by_cases e3:op=3
 ·subst e3;simp [-Int.natCast_add,-BitVec.toNat_or,-BitVec.toNat_ofInt,-BitVec.toNat_and,Zah b40,Za Zak,Zab ld3,Za Zal,Za Zbm,Za Zat,Zab Zbe,Zaa u23 sz3,Zad u23 bs3 rfl,Zae Zcb,hxb,hm1,x0,Za6];exact k1
 by_cases e4:op=4
 ·subst e4;simp [-Int.natCast_add,-BitVec.toNat_or,-BitVec.toNat_ofInt,-BitVec.toNat_and,Zah b40,Za Zak,Zab ld3,Za Zal,Za Zbm,Za Zat,Zab Zbe,Zaa u23 sz3,Zad u23 bs3 rfl,Zae Zcb,hxb,hm1,x0,x1,Za6];exact k1
 by_cases e34:op=34
 ·subst e34;simp [-Int.natCast_add,-BitVec.toNat_or,-BitVec.toNat_ofInt,-BitVec.toNat_and,Zah b40,Za Zak,Zab ld3,Za Zal,Za Zbm,Za Zat,Zab Zbe,Zaa u23 sz3,Zad u23 bs3 rfl,Zae Zcb,hxb,hm1,x0,x1,Za6];exact k1
 by_cases e5:op=5
 ·subst e5
  obtain⟨i,lb,rfl,hi,he,ld,_⟩:=loc (hloc (Or.inl rfl))
  rw [he] at l8
  have em:(i:Int)≤9223372036854775807:=by omega
  have e9:Za6 p f (5,(i:Int),b) l=(f.ls.getD i 0,true):=by simp [Za6]
  rw [e9]
  generalize f.ls.getD i 0=t at ld ⊢
  simp [-Int.natCast_add,-BitVec.toNat_or,-BitVec.toNat_ofInt,-BitVec.toNat_and,Zah b40,Za Zak,Zab ld3,Za Zal,Za Zbm,Za Zat,Zab Zbe,Zaa u23 sz3,Zad u23 bs3 rfl,Zae Zcb,hxb,hm1,x0,x1,l8,em,hi,ld];exact k1
 by_cases e6:op=6
 ·subst e6
  obtain⟨i,lb,rfl,hi,he,ld,hvt⟩:=loc (hloc (Or.inr rfl))
  rw [he] at l8
  have em:(i:Int)≤9223372036854775807:=by omega
  have e9:Za6 p f (6,(i:Int),b) l=(0,Zhd p.L l [f.ls.getD i 0]):=by simp [Za6]
  rw [e9]
  have hln:l.length=1:=by have:(l.length:Int)=1:=hlt;omega
  generalize f.ls.getD i 0=t at ld hvt ⊢
  obtain⟨m2,hm2⟩:∃ mF,m1.new [.int .i64 t] 3=mF:=⟨_,rfl⟩
  have k2:=Zb9 m1 [.int .i64 t] 3 []
  rw [hm2] at k2
  obtain⟨m3,h3,k3⟩:=Zlt hN hR w hl1 hlv hvt hll hm2 hln
  have l8':=(w.keep k2).l8
  rw [he] at l8'
  have x1':=(o1.keep k2 (by simp)).load1 (off:=1) rfl
  generalize Zhd p.L l [t]=fb2 at h3 ⊢
  simp [-Int.natCast_add,-BitVec.toNat_or,-BitVec.toNat_ofInt,-BitVec.toNat_and,Zah b40,Za Zak,Zab ld3,Za Zal,Za Zbm,Za Zat,Zab Zbe,Zaa u23 sz3,Zad u23 bs3 rfl,Zae Zcb,hxb,hm1,x0,x1,l8,em,hi,ld,hln,hm2,h3];exact k1.trans k3
 by_cases e7:op=7
 ·subst e7;simp [-Int.natCast_add,-BitVec.toNat_or,-BitVec.toNat_ofInt,-BitVec.toNat_and,Zah b40,Za Zak,Zab ld3,Za Zal,Za Zbm,Za Zat,Zab Zbe,Zaa u23 sz3,Zad u23 bs3 rfl,Zae Zcb,hxb,hm1,x0,Za6];exact k1
 by_cases e26:op=26
 ·subst e26;simp [-Int.natCast_add,-BitVec.toNat_or,-BitVec.toNat_ofInt,-BitVec.toNat_and,Zah b40,Za Zak,Zab ld3,Za Zal,Za Zbm,Za Zat,Zab Zbe,Zaa u23 sz3,Zad u23 bs3 rfl,Zae Zcb,hxb,hm1,x0,Za6];exact k1
 by_cases e8:op=8∨op=9∨op=10∨op=11∨op=12∨op=13
 ·rcases e8 with e | e | e | e | e | e <;> (subst e;simp [-Int.natCast_add,-BitVec.toNat_or,-BitVec.toNat_ofInt,-BitVec.toNat_and,Zah b40,Za Zak,Zab ld3,Za Zal,Za Zbm,Za Zat,Zab Zbe,Zaa u23 sz3,Zad u23 bs3 rfl,Zae Zcb,hxb,hm1,x0,al,Za6,Zg1];exact k1)
 by_cases e17:op=17∨op=18∨op=19∨op=20
 ·rcases e17 with e | e | e | e <;> (subst e;simp [-Int.natCast_add,-BitVec.toNat_or,-BitVec.toNat_ofInt,-BitVec.toNat_and,Zah b40,Za Zak,Zab ld3,Za Zal,Za Zbm,Za Zat,Zab Zbe,Zaa u23 sz3,Zad u23 bs3 rfl,Zae Zcb,hxb,hm1,x0,al,Za6,Zg1];exact k1)
 by_cases e14:op=14
 ·subst e14;simp [-Int.natCast_add,-BitVec.toNat_or,-BitVec.toNat_ofInt,-BitVec.toNat_and,Zah b40,Za Zak,Zab ld3,Za Zal,Za Zbm,Za Zat,Zab Zbe,Zaa u23 sz3,Zad u23 bs3 rfl,Zae Zcb,hxb,hm1,x0,al,Za6,Zg1];exact k1
 by_cases e15:op=15∨op=16
 ·have hln:l.length=2:=by rcases e15 with e | e <;> (subst e;have:(l.length:Int)=2:=hlt;omega)
  obtain⟨lb,of,rfl,_,_⟩:=hl1.load (by intro e;rw [e] at hln;simp at hln)
  have t0:=hl1.at_ (i:=0) (by omega) _ (Zaj _)
  have t1:=hl1.at_ (i:=1) (by omega) _ (Zaj _)
  have v0:=hlv _ (List.getElem_mem (show 0 < l.length by omega))
  have v1:=hlv _ (List.getElem_mem (show 1 < l.length by omega))
  rw [← gd] at v0 v1
  obtain⟨m2,h2,k2⟩:=Zw3 hN hR w v0 v1
  have e9:Za6 p f (op,a,b) l=(2,eqI p.L (l.getD 0 0) (l.getD 1 0)):=by rcases e15 with e | e <;> (subst e;simp [Za6])
  rw [e9]
  simp only [Nat.add_zero] at t0
  generalize eqI p.L (l.getD 0 0) (l.getD 1 0)=fb2 at h2 ⊢
  generalize l.getD 0 0=u0 at t0 h2
  generalize l.getD 1 0=u1 at t1 h2
  rcases e15 with e | e <;> (subst e;simp [-Int.natCast_add,-BitVec.toNat_or,-BitVec.toNat_ofInt,-BitVec.toNat_and,Zah b40,Za Zak,Zab ld3,Za Zal,Za Zbm,Za Zat,Zab Zbe,Zaa u23 sz3,Zad u23 bs3 rfl,Zae Zcb,hxb,hm1,x0,hln,t0,t1,h2];exact k1.trans k2)
 by_cases e21:op=21
 ·subst e21;simp [-Int.natCast_add,-BitVec.toNat_or,-BitVec.toNat_ofInt,-BitVec.toNat_and,Zah b40,Za Zak,Zab ld3,Za Zal,Za Zbm,Za Zat,Zab Zbe,Zaa u23 sz3,Zad u23 bs3 rfl,Zae Zcb,hxb,hm1,x0,al,Za6,Zg1];exact k1
 by_cases e22:op=22∨op=23∨op=24∨op=25
 ·rcases e22 with e | e | e | e <;> (subst e;simp [-Int.natCast_add,-BitVec.toNat_or,-BitVec.toNat_ofInt,-BitVec.toNat_and,Zah b40,Za Zak,Zab ld3,Za Zal,Za Zbm,Za Zat,Zab Zbe,Zaa u23 sz3,Zad u23 bs3 rfl,Zae Zcb,hxb,hm1,x0,al,Za6,Zg1];exact k1)
 by_cases e27:op=27
 ·subst e27;simp [-Int.natCast_add,-BitVec.toNat_or,-BitVec.toNat_ofInt,-BitVec.toNat_and,Zah b40,Za Zak,Zab ld3,Za Zal,Za Zbm,Za Zat,Zab Zbe,Zaa u23 sz3,Zad u23 bs3 rfl,Zae Zcb,hxb,hm1,x0,al,Za6,Zg1];exact k1
 by_cases e39:op=39
 ·subst e39;simp [-Int.natCast_add,-BitVec.toNat_or,-BitVec.toNat_ofInt,-BitVec.toNat_and,Zah b40,Za Zak,Zab ld3,Za Zal,Za Zbm,Za Zat,Zab Zbe,Zaa u23 sz3,Zad u23 bs3 rfl,Zae Zcb,hxb,hm1,x0,x1,al,Za6,Zg1];exact k1
 by_cases e35:op=35
 ·subst e35;simp [-Int.natCast_add,-BitVec.toNat_or,-BitVec.toNat_ofInt,-BitVec.toNat_and,Zah b40,Za Zak,Zab ld3,Za Zal,Za Zbm,Za Zat,Zab Zbe,Zaa u23 sz3,Zad u23 bs3 rfl,Zae Zcb,hxb,hm1,x0,x1,al,Za6,Zg1];exact k1
 by_cases e33:op=33
 ·subst e33
  have hln:l.length=1:=by have:(l.length:Int)=1:=hlt;omega
  obtain⟨lb,of,rfl,_,_⟩:=hl1.load (by intro e;rw [e] at hln;simp at hln)
  have t0:=hl1.at_ (i:=0) (by omega) _ (Zaj _)
  simp only [Nat.add_zero] at t0
  have e9:Za6 p f (33,a,b) l=(1,decide (Zdy p.L (l.getD 0 0)=6∨l.getD 0 0=3)):=by simp [Za6]
  rw [e9]
  obtain⟨v,h2,hv⟩:=wkF hN w (l.getD 0 0) 6 (by omega)
  generalize l.getD 0 0=u0 at t0 h2 hv ⊢
  by_cases h6:v=6
  ·subst h6
   have h6':=hv.1 rfl
   simp [-Int.natCast_add,-BitVec.toNat_or,-BitVec.toNat_ofInt,-BitVec.toNat_and,Zah b40,Za Zak,Zab ld3,Za Zal,Za Zbm,Za Zat,Zab Zbe,Zaa u23 sz3,Zad u23 bs3 rfl,Zae Zcb,hxb,hm1,x0,hln,t0,h2,h6'];exact k1
  ·have h6':¬ Zdy p.L u0=6:=fun e=>h6 (hv.2 e)
   simp [-Int.natCast_add,-BitVec.toNat_or,-BitVec.toNat_ofInt,-BitVec.toNat_and,Zah b40,Za Zak,Zab ld3,Za Zal,Za Zbm,Za Zat,Zab Zbe,Zaa u23 sz3,Zad u23 bs3 rfl,Zae Zcb,hxb,hm1,x0,hln,t0,h2,h6,h6'];exact k1
 by_cases e32:op=32
 ·subst e32
  have hln:l.length=2:=by have:(l.length:Int)=2:=hlt;omega
  obtain⟨lb,of,rfl,_,_⟩:=hl1.load (by intro e;rw [e] at hln;simp at hln)
  have t0:=hl1.at_ (i:=0) (by omega) _ (Zaj _)
  have t1:=hl1.at_ (i:=1) (by omega) _ (Zaj _)
  simp only [Nat.add_zero] at t0
  have e9:Za6 p f (32,a,b) l=(1,decide (l.getD 0 0=3∧l.getD 1 0=1)):=by simp [Za6]
  rw [e9]
  generalize l.getD 0 0=u0 at t0 ⊢
  generalize l.getD 1 0=u1 at t1 ⊢
  by_cases h3:u0=3
  ·subst h3
   simp [-Int.natCast_add,-BitVec.toNat_or,-BitVec.toNat_ofInt,-BitVec.toNat_and,Zah b40,Za Zak,Zab ld3,Za Zal,Za Zbm,Za Zat,Zab Zbe,Zaa u23 sz3,Zad u23 bs3 rfl,Zae Zcb,hxb,hm1,x0,hln,t0,t1];exact k1
  ·simp [-Int.natCast_add,-BitVec.toNat_or,-BitVec.toNat_ofInt,-BitVec.toNat_and,Zah b40,Za Zak,Zab ld3,Za Zal,Za Zbm,Za Zat,Zab Zbe,Zaa u23 sz3,Zad u23 bs3 rfl,Zae Zcb,hxb,hm1,x0,hln,t0,t1,h3];exact k1
 obtain⟨m2,h2,k2⟩:=hprs (by omega)
 simp only [not_or] at e8 e17 e15 e22
 have e9:Za6 p f (op,a,b) l=Zdg p f (op,a,b) l:=by simp [Za6, *]
 rw [e9]
 generalize Zdg p f (op,a,b) l=gr at h2 ⊢
 simp [-Int.natCast_add,-BitVec.toNat_or,-BitVec.toNat_ofInt,-BitVec.toNat_and,Zah b40,Za Zak,Zab ld3,Za Zal,Za Zbm,Za Zat,Zab Zbe,Zaa u23 sz3,Zad u23 bs3 rfl,Zae Zcb,hxb,hm1,x0,xa,h2,e1,e40,e2,e3,e4,e34,e5,e6,e7,e26,e8,e17,e14,e15,e21,e22,e27,e39,e35,e33,e32]
 exact k1.trans k2
end Go.Proofs.YtbldiceiindbdaaGreatDoor.base
