/- This text proves what package verify's Verify asks of a program ahead of its code: where it is right, each of these says yes. Condition: nothing is known of the calls ahead ('S f = []') but code.Name's names. -/
import Derived.Test.YtbldiceiindbdaaGreatDoorVeS
set_option linter.unusedVariables false
set_option linter.unusedSimpArgs false
set_option maxRecDepth 100000
namespace Go.Proofs.YtbldiceiindbdaaGreatDoor.base
open Go.Sh gen
variable {S:Zed}{m:Mem}{p:Pr}{q:Pp}
structure Zjv (p:Pr):Prop where
 ok:Zu0 p
 fl:p.F.length≤60
 main:0≤p.main∧p.main < p.F.length
 mps:(Zp p.F p.main).ps=[]
 mres:(Zp p.F p.main).res=0
 nl:p.nN≤10000
 tl:∀ x∈p.X,x.length≤2000
 sig:∀ g∈p.F,g.ps.length≤8∧g.ls.length≤40∧g.ps.length≤g.ls.length∧g.ps=g.ls.take g.ps.length
 mth:∀ (t:Nat) (ht:t < p.L.length),p.L[t].1=5→∀ y∈tM p.L[t],0≤y.2.2.2.1∧@LT.lt Int _ y.2.2.2.1 (p.F.length:Int)∧(Zp p.F y.2.2.2.1).res=y.2.2.1∧(Zp p.F y.2.2.2.1).ps=(t:Int)::(show List Int from y.2.1)
structure Nd (S:Zed):Prop where
 right:S 36=[]
 one:S 70=[]
 base:S 68=[]
 nk:Nk S
 ns:Ns S
 head:S 22=[]
 sig:S 23=[]
 mth:S 24=[]
 value:S 40=[]
 cf:S 37=[]
 idx:S 71=[]
 h1:S 38=[]
 eq:S 39=[]
 ver:S 12=[]
theorem Zke (m:Mem)(p:Pr)(q:Pp):∃ pb m1,m.next=pb∧m.new (p.row q) 45=m1∧Own m1 pb (p.row q) 45 pb∧Zao m m1 []∧pb < m1.next:=by
 obtain⟨o1,k1,n1⟩:=Za7 (m:=m) (cs:=p.row q) (e:=45) rfl
 exact⟨_,_,rfl,rfl,o1,k1,n1⟩
theorem Z4e (hS:S 39=[]){a1 a2:Option Addr}{l:List Int}(r1:Iv m a1 l)(n1:l.length≤100000)(r2:Iv m a2 l) :
  Zbi Tryz.prog TT S 39 [.slice a1 l.length l.length,.slice a2 l.length l.length] m=some (.bool true,m):=by
 refine Zgh 14 [14,24] k39 hS rfl ?_
 simp [-Int.natCast_add,-BitVec.toNat_or,-BitVec.toNat_ofInt,-BitVec.toNat_and,Zac u23,Zaa u23 sz3,Zab ld3]
 refine Zbg 14 [14,24] (fun d E m6=>∃ i:Nat,l.length - i=d∧i≤l.length∧m6=m∧E=[(0,.slice a1 l.length l.length),(1,.slice a2 l.length l.length),(12,.int .i64 l.length),(13,.int .i64 i)]) _ ⟨_,⟨0,rfl,by omega,rfl,rfl⟩,⟨by rfl,by rfl,by rfl,by rfl,trivial⟩⟩ ?_
 rintro d E m6 ih ⟨i,hd,hi,rfl,rfl⟩
 by_cases hlt:i < l.length
 ·have i1:(i:Int) < l.length:=by omega
  have em:(i:Int)≤9223372036854775807:=by omega
  have wi:IntKind.i64.wrap ((i:Int)+1)=((i+1:Nat):Int):=by rw [Zbh (by omega) (by omega)];omega
  have hne:l≠[]:=by intro e;rw [e] at hlt;simp at hlt
  obtain⟨b1,o1,rfl,_,h1⟩:=r1.load hne
  obtain⟨b2,o2,rfl,_,h2⟩:=r2.load hne
  have t1:=h1 i hlt _ (Zaj _)
  have t2:=h2 i hlt _ (Zaj _)
  obtain⟨x,hx⟩:∃ x,l[i]=x:=⟨_,rfl⟩
  rw [hx] at t1 t2
  simp [-Int.natCast_add,-BitVec.toNat_or,-BitVec.toNat_ofInt,-BitVec.toNat_and,Zac u23,Zaa u23 sz3,Zab ld3,i1,em,hlt,t1,t2,wi]
  exact ih _ _ _ _ ⟨i+1,rfl,by omega,rfl,rfl⟩ (by omega) ⟨by rfl,by rfl,by rfl,by simp [Zcm],trivial⟩
 ·have i1:¬ (i:Int) < l.length:=by omega
  simp [-Int.natCast_add,-BitVec.toNat_or,-BitVec.toNat_ofInt,-BitVec.toNat_and,Zac u23,Zaa u23 sz3,Zab ld3,i1]
theorem Znx (hS:S 40=[]){t:Int}(ht:Zgc p.L.length t):∃ m1,Zbi Tryz.prog TT S 40 [.agg (p.row q).toArray,.int .i64 t] m=some (.bool true,m1)∧Zao m m1 []:=by
 suffices hg:∃ v m1,Zbi Tryz.prog TT S 40 [.agg (p.row q).toArray,.int .i64 t] m=some (v,m1)∧v=.bool true∧Zao m m1 [] by
  obtain⟨_,m1,h1,rfl,h2⟩:=hg
  exact⟨m1,h1,h2⟩
 obtain⟨pb,m1,hpb,hm1,o1,k1,n1⟩:=Zke m p q
 have l0:=o1.load1 (off:=0) rfl
 simp only [Pr.row] at hm1 o1
 refine Zey 5 [] k40 hS rfl ?_
 obtain⟨h1,h2,h3⟩:=ht
 simp [-Int.natCast_add,-BitVec.toNat_or,-BitVec.toNat_ofInt,-BitVec.toNat_and,Zah b45,Za Zas,Zab Zb2,Zac u24,Pr.row,hpb,hm1,l0,h1,h2,h3]
 exact k1
set_option maxHeartbeats 1000000 in
theorem Z2b (hN:Nd S)(hP:Zjv p){g:Fn}(hg:g∈p.F){fq:Fp}(hfn:Zwt m g fq):∃ m1,Zbi Tryz.prog TT S 23 [.agg (p.row q).toArray,.agg (g.row fq).toArray] m=some (.bool true,m1)∧Zao m m1 []:=by
 suffices hgl:∃ v m1,Zbi Tryz.prog TT S 23 [.agg (p.row q).toArray,.agg (g.row fq).toArray] m=some (v,m1)∧v=.bool true∧Zao m m1 [] by
  obtain⟨_,m1,h1,rfl,h2⟩:=hgl
  exact⟨m1,h1,h2⟩
 obtain⟨s8,s40,sle,spre⟩:=hP.sig g hg
 have hvl:=hP.ok.ls g hg
 have hvr:=hP.ok.res g hg
 obtain⟨pb,m1,hpb,hm1,o1,k1,n1⟩:=Zke m p q
 obtain⟨o2,k2,n2⟩:=Za7 (m:=m1) (cs:=g.row fq) (e:=37) rfl
 obtain⟨gb,hgb⟩:∃ z,m1.next=z:=⟨_,rfl⟩
 rw [hgb] at o2 n2
 obtain⟨m2,hm2⟩:∃ z,m1.new (g.row fq) 37=z:=⟨_,rfl⟩
 rw [hm2] at o2 k2 n2
 have K2:=k1.trans k2
 have y1:=o2.load1 (off:=1) rfl
 have y2:=o2.load1 (off:=2) rfl
 have y3:=o2.load1 (off:=3) rfl
 have pl:=fun m' (k:Zao m2 m' [])=>((o1.keep k2 (by simp)).keep k (by simp)).load (off:=0) 5 (by simp [Pr.row])
 simp only [Pr.row,Fn.row] at hm1 o1 hm2 o2 pl
 simp [Zb] at pl
 have hls:=hfn.ls.keep K2 (by simp)
 obtain⟨ro,lo,hrl,_,hro⟩:=Zse hls sle
 have s1:=(hrl _ (Zaj _)).1
 rw [← spre] at hro
 have hps:=Rs.iv (hfn.ps.keep K2 (by simp))
 have he:=Z4e (m:=m2) hN.eq hps (by omega) hro
 have c8:¬ 8 < g.ps.length:=by omega
 have c8':¬ (8:Int) < g.ps.length:=by omega
 have c40:¬ 40 < g.ls.length:=by omega
 have c40':¬ (40:Int) < g.ls.length:=by omega
 have cle:¬ g.ls.length < g.ps.length:=by omega
 have cle':¬ (g.ls.length:Int) < (g.ps.length:Int):=by omega
 have emp:(g.ps.length:Int)≤9223372036854775807:=by omega
 refine Zey 42 [42,48] k23 hN.sig rfl ?_
 simp [-Int.natCast_add,-BitVec.toNat_or,-BitVec.toNat_ofInt,-BitVec.toNat_and,Zah b45,Zah b37,Za Zav,Zab Zbe,Zac u23,Za Zat,Za1 u23 sz3,Zaa u23 sz3,Zab ld3,Zae Zbx,Za Zaz,Zgn,Zgk,Pr.row,Fn.row,hpb,hm1,hgb,hm2,y1,y2,y3,c8,c8',c40,c40',cle,cle',emp,s1,he]
 refine Zbg 42 [42,48] (fun d E mC=>∃ i:Nat,g.ls.length - i=d∧i≤g.ls.length∧Zao m2 mC []∧E=[(2,.pointer (some ⟨pb,0,none⟩)),(3,.pointer (some ⟨gb,0,none⟩)),(39,.slice fq.la g.ls.length g.ls.length),(40,.int .i64 g.ls.length),(41,.int .i64 i)]) _ ⟨_,⟨0,rfl,by omega,Zaj _,rfl⟩,⟨by rfl,by rfl,by rfl,by rfl,by rfl,trivial⟩⟩ ?_
 rintro d E mC ih ⟨i,hd,hi,kC,rfl⟩
 have plC:=pl _ kC
 by_cases hlt:i < g.ls.length
 ·have i1:(i:Int) < g.ls.length:=by omega
  have em:(i:Int)≤9223372036854775807:=by omega
  have wi:IntKind.i64.wrap ((i:Int)+1)=((i+1:Nat):Int):=by rw [Zbh (by omega) (by omega)];omega
  obtain⟨lb,hlb,hr⟩:=(hls.keep kC (by simp)).rdo (by omega)
  have lt:loadRow mC ⟨lb,i,none⟩ 1=some [.int .i64 g.ls[i]]:=hr.load1 (by simp [ic,hlt])
  obtain⟨m3,h3,k3⟩:=Znx (m:=mC) (q:=q) hN.value (hvl _ (List.getElem_mem hlt))
  simp only [Pr.row] at h3
  obtain⟨x,hx⟩:∃ x,g.ls[i]=x:=⟨_,rfl⟩
  rw [hx] at lt h3
  simp [-Int.natCast_add,-BitVec.toNat_or,-BitVec.toNat_ofInt,-BitVec.toNat_and,Zah b45,Zah b37,Za Zav,Zab Zbe,Zac u23,Za Zat,Za1 u23 sz3,Zaa u23 sz3,Zab ld3,Zae Zbx,Za Zaz,i1,em,hlt,hlb,lt,plC,h3,wi]
  exact ih _ _ _ _ ⟨i+1,rfl,by omega,kC.trans k3,rfl⟩ (by omega) ⟨by rfl,by rfl,by rw [hlb];rfl,by rfl,by simp [Zcm],trivial⟩
 ·have i1:¬ (i:Int) < g.ls.length:=by omega
  have y2C:=(o2.keep kC (by simp)).load1 (off:=2) rfl
  rcases hvr with h0 | hv
  ·rw [h0] at y2C
   simp [-Int.natCast_add,-BitVec.toNat_or,-BitVec.toNat_ofInt,-BitVec.toNat_and,Zah b45,Zah b37,Za Zav,Zab Zbe,Zac u23,Za Zat,Za1 u23 sz3,Zaa u23 sz3,Zab ld3,Zae Zbx,Za Zaz,i1,y2C]
   exact K2.trans kC
  ·obtain⟨m3,h3,k3⟩:=Znx (m:=mC) (q:=q) hN.value hv
   simp only [Pr.row] at h3
   have hr0:¬ g.res=0:=by have:=hv.1;omega
   simp [-Int.natCast_add,-BitVec.toNat_or,-BitVec.toNat_ofInt,-BitVec.toNat_and,Zah b45,Zah b37,Za Zav,Zab Zbe,Zac u23,Za Zat,Za1 u23 sz3,Zaa u23 sz3,Zab ld3,Zae Zbx,Za Zaz,i1,y2C,hr0,plC,h3]
   exact (K2.trans kC).trans k3
theorem Z08 (hS:S 38=[]){s:List UInt8}(h:s.length≤2000):Zbi Tryz.prog TT S 38 [.string ⟨s.toArray⟩] m=some (.bool false,m):=by
 refine Zgh 3 [] k38 hS rfl ?_
 have h1:¬ 2000 < s.length:=by omega
 have h2:¬ (2000:Int) < s.length:=by omega
 simp [-Int.natCast_add,-BitVec.toNat_or,-BitVec.toNat_ofInt,-BitVec.toNat_and,Zc9 u9,h1,h2]
end Go.Proofs.YtbldiceiindbdaaGreatDoor.base
