/- This text proves what package verify's Verify answers of a program whose head is right. Condition: nothing is known of the calls ahead ('S f = []') but code.Name's names. -/
import Derived.Test.YtbldiceiindbdaaGreatDoorVeT
set_option linter.unusedVariables false
set_option linter.unusedSimpArgs false
set_option maxRecDepth 100000
namespace Go.Proofs.YtbldiceiindbdaaGreatDoor.base
open Go.Sh gen
variable {S:Zed}{m:Mem}{p:Pr}{q:Pp}
theorem Z1p (hI:S 71=[])(hH:S 38=[]){xa:Option Addr}{X:List (List UInt8)}{xf:Nat}(h:Rs m xa X.length (X.map fun x=>Value.string ⟨x.toArray⟩) 9 1 xf)(hl:X.length≤10000)(hx:∀ x∈X,x.length≤2000) :
  Zbi Tryz.prog TT S 71 [.slice xa X.length X.length,.func (.func 38) #[] #[]] m=some (.int .i64 (-1),m):=by
 refine Zgh 9 [9,16] k71 hI rfl ?_
 simp [-Int.natCast_add,-BitVec.toNat_or,-BitVec.toNat_ofInt,-BitVec.toNat_and,Zac u42,Zaa u42 sz9,Zab ld9]
 refine Zbg 9 [9,16] (fun d E mC=>∃ i:Nat,X.length - i=d∧i≤X.length∧mC=m∧E=[(0,.slice xa X.length X.length),(1,.func (.func 38) #[] #[]),(7,.int .i64 X.length),(8,.int .i64 i)]) _ ⟨_,⟨0,rfl,by omega,rfl,rfl⟩,⟨by rfl,by rfl,by rfl,by rfl,trivial⟩⟩ ?_
 rintro d E mC ih ⟨i,hd,hi,rfl,rfl⟩
 by_cases hlt:i < X.length
 ·have i1:(i:Int) < X.length:=by omega
  have em:(i:Int)≤9223372036854775807:=by omega
  have wi:IntKind.i64.wrap ((i:Int)+1)=((i+1:Nat):Int):=by rw [Zbh (by omega) (by omega)];omega
  obtain⟨b,rfl,hld⟩:=Zls h hlt
  have lt:=hld _ (Zaj _)
  have hlx:=Z08 (m:=mC) hH (hx _ (List.getElem_mem hlt))
  obtain⟨x,hxe⟩:∃ x,X[i]=x:=⟨_,rfl⟩
  rw [hxe] at lt hlx
  simp [-Int.natCast_add,-BitVec.toNat_or,-BitVec.toNat_ofInt,-BitVec.toNat_and,Zac u42,Zaa u42 sz9,Zab ld9,i1,em,hlt,lt,hlx,wi]
  exact ih _ _ _ _ ⟨i+1,rfl,by omega,rfl,rfl⟩ (by omega) ⟨by rfl,by rfl,by rfl,by simp [Zcm],trivial⟩
 ·have i1:¬ (i:Int) < X.length:=by omega
  simp [-Int.natCast_add,-BitVec.toNat_or,-BitVec.toNat_ofInt,-BitVec.toNat_and,Zac u42,Zaa u42 sz9,Zab ld9,i1]
theorem Zxz (hC:S 37=[])(hI:S 71=[])(hH:S 38=[]){xa:Option Addr}{X:List (List UInt8)}{xf:Nat}(h:Rs m xa X.length (X.map fun x=>Value.string ⟨x.toArray⟩) 9 1 xf)(hl:X.length≤10000)(hx:∀ x∈X,x.length≤2000) :
  Zbi Tryz.prog TT S 37 [.slice xa X.length X.length,.func (.func 38) #[] #[]] m=some (.bool false,m):=by
 have h1:=Z1p hI hH h hl hx
 refine Zgh 5 [] k37 hC rfl ?_
 simp [-Int.natCast_add,-BitVec.toNat_or,-BitVec.toNat_ofInt,-BitVec.toNat_and,id,h1]
set_option maxHeartbeats 1000000 in
theorem Zyz (hN:Nd S)(hP:Zjv p)(h:Zmg m p q):∃ m1,Zbi Tryz.prog TT S 22 [.agg (p.row q).toArray] m=some (.bool true,m1)∧Zao m m1 []:=by
 suffices hgl:∃ v m1,Zbi Tryz.prog TT S 22 [.agg (p.row q).toArray] m=some (v,m1)∧v=.bool true∧Zao m m1 [] by
  obtain⟨_,m1,h1,rfl,h2⟩:=hgl
  exact⟨m1,h1,h2⟩
 obtain⟨i,hi⟩:∃ i:Nat,p.main=i:=⟨p.main.toNat,by have:=hP.main;omega⟩
 have hmain:=hP.main
 have hil:i < p.F.length:=by omega
 have hps:=hP.mps
 have hres:=hP.mres
 rw [hi,Zjw hil] at hps hres
 obtain⟨fb,fq,hfb,hfn,hld⟩:=h.fs.one hil
 have hrow:p.row q=[.slice q.ta p.L.length p.L.length,.slice (some ⟨fb,0,none⟩) p.F.length p.F.length,.int .i64 i,.slice q.xa p.X.length p.X.length,.slice q.na p.nN p.nN]:=by simp [Pr.row,hfb,hi]
 obtain⟨pb,m1,hpb,hm1,o1,k1,n1⟩:=Zke m p q
 rw [hrow] at hm1 o1 ⊢
 obtain⟨_,m2,h2,rfl,k2⟩:=Zwp hN.nk hN.ns hN.one hN.base hN.right (h.keep k1).tb hP.ok.L
 have ld:=fun off v (hv:[Value.slice q.ta p.L.length p.L.length,.slice (some ⟨fb,0,none⟩) p.F.length p.F.length,.int .i64 i,.slice q.xa p.X.length p.X.length,.slice q.na p.nN p.nN][off]?=some v) m' (k:Zao m1 m' [])=>(o1.keep k (by simp)).load1 (off:=off) hv
 have a0:=ld 0 _ rfl _ (Zaj _)
 have b1:=ld 1 _ rfl _ k2
 have b2:=ld 2 _ rfl _ k2
 have b3:=ld 3 _ rfl _ k2
 have b4:=ld 4 _ rfl _ k2
 have K2:=k1.trans k2
 have lf:=(hld _ K2).1
 simp only [Fn.row] at lf
 obtain⟨g,hg⟩:∃ g,p.F[i]=g:=⟨_,rfl⟩
 rw [hg] at lf hps hres
 rw [hps,hres] at lf
 obtain⟨o3,k3,n3⟩:=Za7 (m:=m2) (cs:=[.string ⟨#[]⟩,.slice none 0 0,.int .i64 0,.slice none 0 0,.slice none 0 0]) (e:=37) rfl
 obtain⟨yb,hyb⟩:∃ xb,m2.next=xb:=⟨_,rfl⟩
 rw [hyb] at o3 n3
 obtain⟨m3,hm3⟩:∃ mF,m2.new [.string ⟨#[]⟩,.slice none 0 0,.int .i64 0,.slice none 0 0,.slice none 0 0] 37=mF:=⟨_,rfl⟩
 rw [hm3] at o3 k3 n3
 have c60:¬ 60 < p.F.length:=by have:=hP.fl;omega
 have c60':¬ (60:Int) < p.F.length:=by have:=hP.fl;omega
 have ci:¬ (i:Int) < 0:=by omega
 have cil:¬ (p.F.length:Int)≤(i:Int):=by omega
 have cil2:¬ p.F.length≤i:=by omega
 have em:(i:Int)≤9223372036854775807:=by have:=hP.fl;omega
 have cN:¬ 10000 < p.nN:=by have:=hP.nl;omega
 have cN':¬ (10000:Int) < p.nN:=by have:=hP.nl;omega
 have cX:¬ 10000 < p.X.length:=by have:=hP.ok.xl;omega
 have cX':¬ (10000:Int) < p.X.length:=by have:=hP.ok.xl;omega
 refine Zey 4 [26,53] k22 hN.head rfl ?_
 simp [-Int.natCast_add,-BitVec.toNat_or,-BitVec.toNat_ofInt,-BitVec.toNat_and,Zah b45,Za Zas,Zab Zb2,Za Zan,Zab Zbw,Zac u41,Za Zfk,Zab ld3,Zaa u41 Za5,Zae Zby,Zag Zb4,Zaf Za5,Za Zav,Zab Zbe,Zac u23,Za Zaz,Za Zb7,Zab Zez,Zac u43,Za Za2,Zab Zcr,Zac u42,hpb,hm1,a0,h2,b1,b2,c60,c60',ci,cil,cil2,em,hil,lf,hyb,hm3]
 generalize hra:Za8 _ _ _=ra
 obtain⟨m4,rfl,o4,k4⟩:=Za4 hra o3 (by simp) (by simp [Zbk,Zco,Zbp])
 simp [Zdh] at o4
 have k24:Zao m2 m4 []:=k3.fresh k4 (by simp;omega)
 have y1:=o4.load1 (off:=1) rfl
 have y2:=o4.load1 (off:=2) rfl
 have K14:=k2.trans k24
 have d3:=ld 3 _ rfl _ K14
 have d4:=ld 4 _ rfl _ K14
 have hcf:=Zxz (m:=m4) hN.cf hN.idx hN.h1 ((h.keep k1).keep K14).xs hP.ok.xl hP.tl
 simp [-Int.natCast_add,-BitVec.toNat_or,-BitVec.toNat_ofInt,-BitVec.toNat_and,Zah b45,Za Zas,Zab Zb2,Za Zan,Zab Zbw,Zac u41,Za Zfk,Zab ld3,Zaa u41 Za5,Zae Zby,Zag Zb4,Zaf Za5,Za Zav,Zab Zbe,Zac u23,Za Zaz,Za Zb7,Zab Zez,Zac u43,Za Za2,Zab Zcr,Zac u42,y1,y2,d3,d4,cN,cN',cX,cX',hcf]
 exact k1.trans K14
set_option maxHeartbeats 2000000 in
theorem Z1k (hN:Nd S)(hP:Zjv p)(h:Zmg m p q):∃ m1,Zbi Tryz.prog TT S 24 [.agg (p.row q).toArray] m=some (.bool true,m1)∧Zao m m1 []:=by
 suffices hgl:∃ v m1,Zbi Tryz.prog TT S 24 [.agg (p.row q).toArray] m=some (v,m1)∧v=.bool true∧Zao m m1 [] by
  obtain⟨_,m1,h1,rfl,h2⟩:=hgl
  exact⟨m1,h1,h2⟩
 obtain⟨pb,m1,hpb,hm1,o1,k1,n1⟩:=Zke m p q
 have ld:=fun off v (hv:(p.row q)[off]?=some v) m' (k:Zao m1 m' [])=>(o1.keep k (by simp)).load1 (off:=off) hv
 have a0:=ld 0 _ rfl _ (Zaj _)
 simp only [Pr.row] at hm1
 refine Zey 20 [20,25,31,53] k24 hN.mth rfl ?_
 simp [-Int.natCast_add,-BitVec.toNat_or,-BitVec.toNat_ofInt,-BitVec.toNat_and,Zah b45,Za Zas,Zab Zb2,Zac u24,Zaa u24 Zbn,Zae Zf5,Zag Zgb,Zaf Zbn,Za Zaq,Zab Zb1,Zac u31,Zaa u31 Zbd,Zae Zc6,Zag Zcw,Zaf Zbd,Za Za3,Zab ld3,Za Zbq,Za Zan,Zab Zbw,Zac u41,Zaa u41 Za5,Zae Zby,Zag Zb4,Zaf Za5,Za Zaz,Za Zap,Za Zav,Zab Zbe,Zad u23 bs3 rfl,Za Zar,Zam u23 sz3,Pr.row,hpb,hm1,a0]
 refine Zbg 20 [20,25,31,53] (fun d E mC=>∃ i:Nat,p.L.length - i=d∧i≤p.L.length∧Zao m1 mC []∧E=[(1,.pointer (some ⟨pb,0,none⟩)),(9,.slice q.ta p.L.length p.L.length),(10,.int .i64 p.L.length),(11,.int .i64 i)]) _ ⟨_,⟨0,rfl,by omega,Zaj _,rfl⟩,⟨by rfl,by rfl,by rfl,by rfl,trivial⟩⟩ ?_
 rintro d E mC ih ⟨i,hd,hi,kC,rfl⟩
 by_cases hlt:i < p.L.length
 case neg =>
  have i1:¬ (i:Int) < p.L.length:=by omega
  simp [-Int.natCast_add,-BitVec.toNat_or,-BitVec.toNat_ofInt,-BitVec.toNat_and,Zah b45,Za Zas,Zab Zb2,Zac u24,Zaa u24 Zbn,Zae Zf5,Zag Zgb,Zaf Zbn,Za Zaq,Zab Zb1,Zac u31,Zaa u31 Zbd,Zae Zc6,Zag Zcw,Zaf Zbd,Za Za3,Zab ld3,Za Zbq,Za Zan,Zab Zbw,Zac u41,Zaa u41 Za5,Zae Zby,Zag Zb4,Zaf Za5,Za Zaz,Za Zap,Za Zav,Zab Zbe,Zad u23 bs3 rfl,Za Zar,Zam u23 sz3,i1]
  exact k1.trans kC
 have hl60:=hP.ok.L.hi
 have i1:(i:Int) < p.L.length:=by omega
 have em:(i:Int)≤9223372036854775807:=by omega
 have wi:IntKind.i64.wrap ((i:Int)+1)=((i+1:Nat):Int):=by rw [Zbh (by omega) (by omega)];omega
 obtain⟨tb,ao,tf,bo,htb,ty⟩:=(h.keep k1).tb.ty hlt
 have lx:=ty.l _ kC
 have hmth:=hP.mth i hlt
 have hms:=ty.ms
 obtain⟨o2,k2,n2⟩:=Za7 (m:=mC) (cs:=[.int .i64 0,.string ⟨#[]⟩,.int .i64 0,.slice none 0 0,.slice none 0 0]) (e:=33) rfl
 obtain⟨xb,hxb⟩:∃ z,mC.next=z:=⟨_,rfl⟩
 rw [hxb] at o2 n2
 obtain⟨m2,hm2⟩:∃ z,mC.new [.int .i64 0,.string ⟨#[]⟩,.int .i64 0,.slice none 0 0,.slice none 0 0] 33=z:=⟨_,rfl⟩
 rw [hm2] at o2 k2 n2
 obtain⟨x,hx⟩:∃ x,p.L[i]=x:=⟨_,rfl⟩
 simp only [hx] at lx hmth hms
 simp [-Int.natCast_add,-BitVec.toNat_or,-BitVec.toNat_ofInt,-BitVec.toNat_and,Zah b45,Za Zas,Zab Zb2,Zac u24,Zaa u24 Zbn,Zae Zf5,Zag Zgb,Zaf Zbn,Za Zaq,Zab Zb1,Zac u31,Zaa u31 Zbd,Zae Zc6,Zag Zcw,Zaf Zbd,Za Za3,Zab ld3,Za Zbq,Za Zan,Zab Zbw,Zac u41,Zaa u41 Za5,Zae Zby,Zag Zb4,Zaf Za5,Za Zaz,Za Zap,Za Zav,Zab Zbe,Zad u23 bs3 rfl,Za Zar,Zam u23 sz3,i1,em,htb,hlt,lx,hxb,hm2]
 generalize hra:Za8 _ _ _=ra
 obtain⟨m3,rfl,o3,k3⟩:=Za4 hra o2 (by simp) (by simp [Zbk,Zco,Zbp])
 simp [Zdh] at o3
 have kC3:Zao mC m3 []:=k2.fresh k3 (by simp;omega)
 have x4:=o3.load1 (off:=4) rfl
 have hml:=hms.le
 obtain⟨B,hB⟩:∃ B,tM x=B:=⟨_,rfl⟩
 have hB2:x.2.2.2.2.1=B:=hB
 simp only [hB,hB2] at hms x4 hmth hml o3
 simp [-Int.natCast_add,-BitVec.toNat_or,-BitVec.toNat_ofInt,-BitVec.toNat_and,Zah b45,Za Zas,Zab Zb2,Zac u24,Zaa u24 Zbn,Zae Zf5,Zag Zgb,Zaf Zbn,Za Zaq,Zab Zb1,Zac u31,Zaa u31 Zbd,Zae Zc6,Zag Zcw,Zaf Zbd,Za Za3,Zab ld3,Za Zbq,Za Zan,Zab Zbw,Zac u41,Zaa u41 Za5,Zae Zby,Zag Zb4,Zaf Za5,Za Zaz,Za Zap,Za Zav,Zab Zbe,Zad u23 bs3 rfl,Za Zar,Zam u23 sz3,x4]
 refine Zbg 20 [20,25,31,53] (fun d E mD=>∃ j:Nat,B.length - j=d∧j≤B.length∧Zao m3 mD []∧E=[(1,.pointer (some ⟨pb,0,none⟩)),(3,.int .i64 i),(4,.pointer (some ⟨xb,0,none⟩)),(9,.slice q.ta p.L.length p.L.length),(10,.int .i64 p.L.length),(11,.int .i64 i),(17,.slice bo B.length B.length),(18,.int .i64 B.length),(19,.int .i64 j)]) _ ⟨_,⟨0,rfl,by omega,Zaj _,rfl⟩,⟨by rfl,by rfl,by rfl,by rw [htb];rfl,by rfl,by rfl,by rfl,by rfl,by rfl,trivial⟩⟩ ?_
 rintro d E mD ihD ⟨j,hdj,hj,kD,rfl⟩
 have K3D:=kC.trans (kC3.trans kD)
 by_cases hlj:j < B.length
 case neg =>
  have j1:¬ (j:Int) < B.length:=by omega
  simp [-Int.natCast_add,-BitVec.toNat_or,-BitVec.toNat_ofInt,-BitVec.toNat_and,Zah b45,Za Zas,Zab Zb2,Zac u24,Zaa u24 Zbn,Zae Zf5,Zag Zgb,Zaf Zbn,Za Zaq,Zab Zb1,Zac u31,Zaa u31 Zbd,Zae Zc6,Zag Zcw,Zaf Zbd,Za Za3,Zab ld3,Za Zbq,Za Zan,Zab Zbw,Zac u41,Zaa u41 Za5,Zae Zby,Zag Zb4,Zaf Za5,Za Zaz,Za Zap,Za Zav,Zab Zbe,Zad u23 bs3 rfl,Za Zar,Zam u23 sz3,j1,wi]
  exact ih _ _ _ _ ⟨i+1,rfl,by omega,K3D,rfl⟩ (by omega) ⟨by rfl,by rfl,by rfl,by simp [Zcm],trivial⟩
 have j1:(j:Int) < B.length:=by omega
 have emj:(j:Int)≤9223372036854775807:=by omega
 have wj:IntKind.i64.wrap ((j:Int)+1)=((j+1:Nat):Int):=by rw [Zbh (by omega) (by omega)];omega
 obtain⟨mb,po,pf,rfl,hp,hld1⟩:=hms.one hlj
 have l4:=(hld1 _ K3D).1
 have hme:=fun e=>hmth e _ (List.getElem_mem hlj)
 have hwm:=(hms.wf _ (List.getElem_mem hlj)).2.1.1
 obtain⟨z,hz⟩:∃ x,B[j]=x:=⟨_,rfl⟩
 rw [hz] at l4 hp hme hwm
 obtain⟨zn,zp,zr,zf,zu⟩:=z
 simp only at l4 hp hme hwm
 obtain⟨o4,k4,n4⟩:=Za7 (m:=mD) (cs:=[.string ⟨#[]⟩,.slice none 0 0,.int .i64 0,.int .i64 0]) (e:=30) rfl
 obtain⟨yb,hyb⟩:∃ z,mD.next=z:=⟨_,rfl⟩
 rw [hyb] at o4 n4
 obtain⟨m4,hm4⟩:∃ z,mD.new [.string ⟨#[]⟩,.slice none 0 0,.int .i64 0,.int .i64 0] 30=z:=⟨_,rfl⟩
 rw [hm4] at o4 k4 n4
 simp [-Int.natCast_add,-BitVec.toNat_or,-BitVec.toNat_ofInt,-BitVec.toNat_and,Zah b45,Za Zas,Zab Zb2,Zac u24,Zaa u24 Zbn,Zae Zf5,Zag Zgb,Zaf Zbn,Za Zaq,Zab Zb1,Zac u31,Zaa u31 Zbd,Zae Zc6,Zag Zcw,Zaf Zbd,Za Za3,Zab ld3,Za Zbq,Za Zan,Zab Zbw,Zac u41,Zaa u41 Za5,Zae Zby,Zag Zb4,Zaf Za5,Za Zaz,Za Zap,Za Zav,Zab Zbe,Zad u23 bs3 rfl,Za Zar,Zam u23 sz3,j1,emj,hlj,l4,hyb,hm4]
 generalize hrb:Za8 _ _ _=rb
 obtain⟨m5,rfl,o5,k5⟩:=Za4 hrb o4 (by simp) (by simp [Zbk,Zco,Zbp])
 simp [Zdh] at o5
 have kD5:Zao mD m5 []:=k4.fresh k5 (by simp;omega)
 have x05:=(o3.keep (kD.trans kD5) (by simp)).load1 (off:=0) rfl
 by_cases e5:x.1=5
 case neg =>
  simp [-Int.natCast_add,-BitVec.toNat_or,-BitVec.toNat_ofInt,-BitVec.toNat_and,Zah b45,Za Zas,Zab Zb2,Zac u24,Zaa u24 Zbn,Zae Zf5,Zag Zgb,Zaf Zbn,Za Zaq,Zab Zb1,Zac u31,Zaa u31 Zbd,Zae Zc6,Zag Zcw,Zaf Zbd,Za Za3,Zab ld3,Za Zbq,Za Zan,Zab Zbw,Zac u41,Zaa u41 Za5,Zae Zby,Zag Zb4,Zaf Za5,Za Zaz,Za Zap,Za Zav,Zab Zbe,Zad u23 bs3 rfl,Za Zar,Zam u23 sz3,x05,e5,wj]
  exact ihD _ _ _ _ ⟨j+1,rfl,by omega,kD.trans kD5,rfl⟩ (by omega) ⟨by rfl,by rfl,by rfl,by rfl,by rfl,by rfl,by rfl,by rfl,by simp [Zcm],trivial⟩
 rw [e5] at x05
 obtain⟨z0,zl,zres,zps⟩:=hme e5
 obtain⟨fi,hfi⟩:∃ fi:Nat,zf=fi:=⟨(show Int from zf).toNat,(Int.toNat_of_nonneg z0).symm⟩
 subst hfi
 have hfl:fi < p.F.length:=Int.ofNat_lt.1 zl
 rw [Zjw hfl] at zres zps
 obtain⟨fb,fq,hfb,hfn,hldf⟩:=((h.keep k1).keep K3D).fs.one hfl
 have y0:=o5.load1 (off:=0) rfl
 have y1:=o5.load1 (off:=1) rfl
 have y2:=o5.load1 (off:=2) rfl
 have y3:=o5.load1 (off:=3) rfl
 have KD5:=K3D.trans kD5
 have b1:=ld 1 _ rfl _ KD5
 simp only [Pr.row,hfb] at b1
 have lf:=(hldf m5 kD5).1
 simp only [Fn.row] at lf
 have cz:¬ (p.F.length:Int)≤(fi:Int):=by omega
 have cz2:¬ p.F.length≤fi:=by omega
 have emf:(fi:Int)≤9223372036854775807:=by have:=hP.fl;omega
 have hgs:=hP.sig _ (List.getElem_mem hfl)
 obtain⟨g,hg⟩:∃ g,p.F[fi]=g:=⟨_,rfl⟩
 simp only [hg] at lf zres zps hfn hgs
 have hzl:zp.length≤8:=by
  have h1:=congrArg List.length zps
  rw [List.length_cons] at h1
  have h2:zp.length+1=g.ps.length:=h1.symm
  omega
 obtain⟨o6,k6,n6⟩:=Za7 (m:=m5) (cs:=[.string ⟨#[]⟩,.slice none 0 0,.int .i64 0,.slice none 0 0,.slice none 0 0]) (e:=37) rfl
 obtain⟨gb,hgb⟩:∃ z,m5.next=z:=⟨_,rfl⟩
 rw [hgb] at o6 n6
 obtain⟨m6,hm6⟩:∃ z,m5.new [.string ⟨#[]⟩,.slice none 0 0,.int .i64 0,.slice none 0 0,.slice none 0 0] 37=z:=⟨_,rfl⟩
 rw [hm6] at o6 k6 n6
 simp [-Int.natCast_add,-BitVec.toNat_or,-BitVec.toNat_ofInt,-BitVec.toNat_and,Zah b45,Za Zas,Zab Zb2,Zac u24,Zaa u24 Zbn,Zae Zf5,Zag Zgb,Zaf Zbn,Za Zaq,Zab Zb1,Zac u31,Zaa u31 Zbd,Zae Zc6,Zag Zcw,Zaf Zbd,Za Za3,Zab ld3,Za Zbq,Za Zan,Zab Zbw,Zac u41,Zaa u41 Za5,Zae Zby,Zag Zb4,Zaf Za5,Za Zaz,Za Zap,Za Zav,Zab Zbe,Zad u23 bs3 rfl,Za Zar,Zam u23 sz3,x05,y0,y1,y2,y3,b1,cz,cz2,emf,hfl,lf,hgb,hm6]
 generalize hrc:Za8 _ _ _=rc
 obtain⟨m7,rfl,o7,k7⟩:=Za4 hrc o6 (by simp) (by simp [Zbk,Zco,Zbp])
 simp [Zdh] at o7
 have k57:Zao m5 m7 []:=k6.fresh k7 (by simp;omega)
 obtain⟨o8,k8,n8⟩:=Za7 (m:=m7) (cs:=[.int .i64 i]) (e:=3) rfl
 obtain⟨tb8,htb8⟩:∃ z,m7.next=z:=⟨_,rfl⟩
 rw [htb8] at o8 n8
 obtain⟨m8,hm8⟩:∃ z,m7.new [.int .i64 i] 3=z:=⟨_,rfl⟩
 rw [hm8] at o8 k8 n8
 have g1:=o7.load1 (off:=1) rfl
 have g2:=o7.load1 (off:=2) rfl
 have g18:=(o7.keep k8 (by simp)).load1 (off:=1) rfl
 have g28:=(o7.keep k8 (by simp)).load1 (off:=2) rfl
 have o57:=o5.keep k57 (by simp)
 have y17:=o57.load1 (off:=1) rfl
 have y27:=o57.load1 (off:=2) rfl
 have y18:=(o57.keep k8 (by simp)).load1 (off:=1) rfl
 have y28:=(o57.keep k8 (by simp)).load1 (off:=2) rfl
 have hp8:=hp.keep (K3D.trans (kD5.trans (k57.trans k8))) (by simp)
 have lps:ldS m8 (.slice po zp.length zp.length) 1=some ((show List Int from zp).map (Value.int .i64),zp.length):=by
  have:=Zlk (m:=m8) (st:=(show List Int from zp)) hp8 (Nat.le_refl _) rfl
  simpa [ic] using this
 simp [-Int.natCast_add,-BitVec.toNat_or,-BitVec.toNat_ofInt,-BitVec.toNat_and,Zah b45,Za Zas,Zab Zb2,Zac u24,Zaa u24 Zbn,Zae Zf5,Zag Zgb,Zaf Zbn,Za Zaq,Zab Zb1,Zac u31,Zaa u31 Zbd,Zae Zc6,Zag Zcw,Zaf Zbd,Za Za3,Zab ld3,Za Zbq,Za Zan,Zab Zbw,Zac u41,Zaa u41 Za5,Zae Zby,Zag Zb4,Zaf Za5,Za Zaz,Za Zap,Za Zav,Zab Zbe,Zad u23 bs3 rfl,Za Zar,Zam u23 sz3,g1,g2,g18,g28,y17,y27,y18,y28,zres,htb8,hm8,lps,Zdf,Zc1]
 generalize hrd:Zcd _ _ _ _ _ _=rd
 obtain⟨m9,b9,rfl,o9,k9⟩:=Zfm hrd u23 ap3 o8 (by simp) (by simp) (by simp [Zbk]) (by omega) (by omega)
 have k79:Zao m7 m9 []:=k8.fresh k9 (by simp;omega)
 have g19:=(o7.keep k79 (by simp)).load1 (off:=1) rfl
 have g29:=(o7.keep k79 (by simp)).load1 (off:=2) rfl
 have y19:=(o57.keep k79 (by simp)).load1 (off:=1) rfl
 have y29:=(o57.keep k79 (by simp)).load1 (off:=2) rfl
 have r9:Rs m9 (some ⟨b9,0,none⟩) ((i:Int)::(show List Int from zp)).length (ic ((i:Int)::(show List Int from zp))) 3 1 tb8:=⟨by simp [ic],Or.inr ⟨b9,rfl,by simpa [ic] using o9.rdo⟩⟩
 have hps9:=(hfn.ps.keep (kD5.trans (k57.trans k79)) (by simp))
 obtain⟨_,_,he,rfl,rfl⟩:=Zoz (m:=m9) hN.eq hps9 (by omega) r9
 rw [decide_eq_true zps] at he
 have el:((i:Int)::(show List Int from zp)).length=1+zp.length:=by rw [List.length_cons];exact Nat.add_comm _ _
 rw [el] at he
 simp [-Int.natCast_add,-BitVec.toNat_or,-BitVec.toNat_ofInt,-BitVec.toNat_and,Zah b45,Za Zas,Zab Zb2,Zac u24,Zaa u24 Zbn,Zae Zf5,Zag Zgb,Zaf Zbn,Za Zaq,Zab Zb1,Zac u31,Zaa u31 Zbd,Zae Zc6,Zag Zcw,Zaf Zbd,Za Za3,Zab ld3,Za Zbq,Za Zan,Zab Zbw,Zac u41,Zaa u41 Za5,Zae Zby,Zag Zb4,Zaf Za5,Za Zaz,Za Zap,Za Zav,Zab Zbe,Zad u23 bs3 rfl,Za Zar,Zam u23 sz3,g1,g2,g18,g28,g19,g29,y17,y27,y18,y28,y19,y29,zres,Zdf,Zc1,he,wj]
 exact ihD _ _ _ _ ⟨j+1,rfl,by omega,kD.trans (kD5.trans (k57.trans k79)),rfl⟩ (by omega) ⟨by rfl,by rfl,by rfl,by rfl,by rfl,by rfl,by rfl,by rfl,by simp [Zcm],trivial⟩
end Go.Proofs.YtbldiceiindbdaaGreatDoor.base
