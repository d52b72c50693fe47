/- This text proves what the document's Verify asks of a program ahead of its code: where that is right, its head says yes. Condition: nothing is known of the calls ahead ('S f = []'). -/
import Derived.Test.YtbldiceiindbdaaGreatDoorVrD
set_option linter.unusedVariables false
set_option linter.unusedSimpArgs false
set_option maxRecDepth 100000
namespace Go.Proofs.YtbldiceiindbdaaGreatDoor.base
open Go.Sh gen
variable {S:Zed}{m:Mem}{p:Pr}{q:Pp}
theorem Zw1 (hS:S 47=[]){a1 a2:Option Addr}{l:List Int}(r1:Iv m a1 l)(n1:l.length≤100000)(r2:Iv m a2 l) :
  Zbi Tryz.prog TT S 47 [.slice a1 l.length l.length,.slice a2 l.length l.length] m=some (.bool true,m):=by
 refine Zgh 6 [10,14,25] k47 hS rfl ?_
 simp [-Int.natCast_add,-BitVec.toNat_or,-BitVec.toNat_ofInt,-BitVec.toNat_and,Zac u23,Zaa u23 sz3,Zab ld3]
 refine Zbg 6 [10,14,25] (fun d E m6=>∃ i:Nat,l.length - i=d∧i≤l.length∧m6=m∧E=[(0,.slice a1 l.length l.length),(1,.slice a2 l.length l.length),(5,.int .i64 i)]) _ ⟨_,⟨0,rfl,by omega,rfl,rfl⟩,⟨by rfl,by rfl,by rfl,trivial⟩⟩ ?_
 rintro d E m6 ih ⟨i,hd,hi,rfl,rfl⟩
 by_cases hlt:i < l.length
 ·have i1:(i:Int) < l.length:=by omega
  have em:(i:Int)≤9223372036854775807:=by omega
  have wi:IntKind.i64.wrap ((i:Int)+1)=((i+1:Nat):Int):=by rw [Zbh (by omega) (by omega)];omega
  have hne:l≠[]:=by intro e;rw [e] at hlt;simp at hlt
  obtain⟨b1,o1,rfl,_,h1⟩:=r1.load hne
  obtain⟨b2,o2,rfl,_,h2⟩:=r2.load hne
  have t1:=h1 i hlt _ (Zaj _)
  have t2:=h2 i hlt _ (Zaj _)
  obtain⟨x,hx⟩:∃ x,l[i]=x:=⟨_,rfl⟩
  rw [hx] at t1 t2
  simp [-Int.natCast_add,-BitVec.toNat_or,-BitVec.toNat_ofInt,-BitVec.toNat_and,Zac u23,Zaa u23 sz3,Zab ld3,i1,em,hlt,t1,t2,wi]
  exact ih _ _ _ _ ⟨i+1,rfl,by omega,rfl,rfl⟩ (by omega) ⟨by rfl,by rfl,by simp [Zcm],trivial⟩
 ·have i1:¬ (i:Int) < l.length:=by omega
  simp [-Int.natCast_add,-BitVec.toNat_or,-BitVec.toNat_ofInt,-BitVec.toNat_and,Zac u23,Zaa u23 sz3,Zab ld3,i1]
theorem Ztd (hN:Nf S)(h5:5≤p.L.length){t:Int}(ht:Zgc p.L.length t):∃ m1,Zbi Tryz.prog TT S 49 [.agg (p.row q).toArray,.int .i64 t] m=some (.bool true,m1)∧Zao m m1 []:=by
 suffices hg:∃ v m1,Zbi Tryz.prog TT S 49 [.agg (p.row q).toArray,.int .i64 t] m=some (v,m1)∧v=.bool true∧Zao m m1 [] by
  obtain⟨_,m1,h1,rfl,h2⟩:=hg
  exact⟨m1,h1,h2⟩
 obtain⟨pb,m1,hpb,hm1,o1,k1,n1⟩:=Zke m p q
 have l0:=o1.load1 (off:=0) rfl
 have hv:=Znu (m:=m1) hN.val1 (to:=q.ta) h5 t
 rw [decide_eq_true ht] at hv
 simp only [Pr.row] at hm1 o1
 refine Zey 5 [] k49 hN.value rfl ?_
 simp [-Int.natCast_add,-BitVec.toNat_or,-BitVec.toNat_ofInt,-BitVec.toNat_and,Zah b45,Za Zas,Zab Zb2,Pr.row,hpb,hm1,l0,hv]
 exact k1
set_option maxHeartbeats 4000000 in
theorem Zwo (hN:Nf S)(hNs:Ns S)(hP:Zjv p)(h:Zmg m p q):∃ m1,Zbi Tryz.prog TT S 28 [.agg (p.row q).toArray] m=some (.tuple #[.int .i64 0,.bool true],m1)∧Zao m m1 []:=by
 suffices hgl:∃ v m1,Zbi Tryz.prog TT S 28 [.agg (p.row q).toArray] m=some (v,m1)∧v=.tuple #[.int .i64 0,.bool true]∧Zao m m1 [] by
  obtain⟨_,m1,h1,rfl,h2⟩:=hgl
  exact⟨m1,h1,h2⟩
 obtain⟨im,hi⟩:∃ i:Nat,p.main=i:=⟨p.main.toNat,by have:=hP.main;omega⟩
 have hmain:=hP.main
 have hil:im < p.F.length:=by omega
 have hps:=hP.mps
 have hres:=hP.mres
 rw [hi,Zjw hil] at hps hres
 have hL5:=hP.ok.L.lo
 have hL60:=hP.ok.L.hi
 obtain⟨fb,fq,hfb,hfn,hld⟩:=h.fs.one hil
 obtain⟨pb,m1,hpb,hm1,o1,k1,n1⟩:=Zke m p q
 have hrow:p.row q=[.slice q.ta p.L.length p.L.length,.slice (some ⟨fb,0,none⟩) p.F.length p.F.length,.int .i64 im,.slice q.xa p.X.length p.X.length,.slice q.na p.nN p.nN]:=by simp [Pr.row,hfb,hi]
 obtain⟨_,m2,h2,rfl,k2⟩:=Zt7 hNs hN.rone hN.val1 hN.base1 hN.right1 (h.keep k1).tb hP.ok.L
 have pl:=fun m' (k:Zao m1 m' [])=>(o1.keep k (by simp)).load (off:=0) 5 (by simp [Pr.row])
 rw [hrow] at hm1 o1 pl ⊢
 simp [Zb] at pl
 have ld:=fun off v (hv:[Value.slice q.ta p.L.length p.L.length,.slice (some ⟨fb,0,none⟩) p.F.length p.F.length,.int .i64 im,.slice q.xa p.X.length p.X.length,.slice q.na p.nN p.nN][off]?=some v) m' (k:Zao m1 m' [])=>(o1.keep k (by simp)).load1 (off:=off) hv
 have a0:=ld 0 _ rfl _ (Zaj _)
 have b1:=ld 1 _ rfl _ k2
 have b2:=ld 2 _ rfl _ k2
 have b3:=ld 3 _ rfl _ k2
 have b4:=ld 4 _ rfl _ k2
 have K2:=k1.trans k2
 have lf1:=(hld _ K2).2.1
 have lf2:=(hld _ K2).2.2.1
 rw [hps] at lf1
 rw [hres] at lf2
 have hF60:=hP.fl
 have hX4:=hP.ok.xl
 have c60:¬ 60 < p.F.length:=by omega
 have c60':¬ (60:Int) < p.F.length:=by omega
 have ci:¬ (im:Int) < 0:=by omega
 have cil:¬ (p.F.length:Int)≤(im:Int):=by omega
 have cil2:¬ p.F.length≤im:=by omega
 have emm:(im:Int)≤9223372036854775807:=by omega
 have cN:¬ 10000 < p.nN:=by have:=hP.nl;omega
 have cN':¬ (10000:Int) < p.nN:=by have:=hP.nl;omega
 have cX:¬ 10000 < p.X.length:=by omega
 have cX':¬ (10000:Int) < p.X.length:=by omega
 refine Zey 11 [66,71,80,85,135,141,151,157,177,222] k28 hN.head rfl ?_
 simp [-Int.natCast_add,-BitVec.toNat_or,-BitVec.toNat_ofInt,-BitVec.toNat_and,Zah b45,Za Zas,Zab Zb2,Za Zan,Zab Zbw,Zac u41,Za Zfk,Zab ld3,Zaa u41 Za5,Za Zav,Zab Zbe,Zac u23,Za Zaz,Za Zb7,Zab Zez,Zac u43,Za Za2,Zab Zcr,Zac u42,Zaa u42 sz9,Zab ld9,Zc9 u9,Zae Zby,Zag Zb4,Zaf Za5,Za Zat,Za1 u23 sz3,Zae Zbx,Zaa u23 sz3,Zac u24,Zaa u24 Zbn,Za Zaq,Zab Zb1,Zac u31,Za Za3,Zaa u31 Zbd,Zae Zc6,Zag Zcw,Zaf Zbd,Za Zbq,Za Zap,Zad u23 bs3 rfl,Za Zar,Zam u23 sz3,hpb,hm1,a0,h2,b1,b2,b3,b4,c60,c60',ci,cil,cil2,emm,hil,lf1,lf2,cN,cN',cX,cX']
 refine Zbg 11 [66,71,80,85,135,141,151,157,177,222] (fun d E mC=>∃ i:Nat,p.X.length - i=d∧i≤p.X.length∧mC=m2∧E=[(1,.pointer (some ⟨pb,0,none⟩)),(4,.int .i64 i)]) _ ⟨_,⟨0,rfl,by omega,rfl,rfl⟩,⟨by rfl,by rfl,trivial⟩⟩ ?_
 rintro d E mC ih ⟨i,hd,hi',hmC,rfl⟩
 rw [hmC]
 by_cases hlt:i < p.X.length
 ·have i1:(i:Int) < p.X.length:=by omega
  have em:(i:Int)≤9223372036854775807:=by omega
  have wi:IntKind.i64.wrap ((i:Int)+1)=((i+1:Nat):Int):=by rw [Zbh (by omega) (by omega)];omega
  obtain⟨xb,hxa,hxt⟩:=Zls (h.keep K2).xs hlt
  have lt:=hxt _ (Zaj _)
  have hl:=hP.tl _ (List.getElem_mem hlt)
  have b3':=b3
  rw [hxa] at b3'
  generalize p.X[i]=x at lt hl
  have l1:¬ 2000 < x.length:=by omega
  have l2:¬ (2000:Int) < x.length:=by omega
  simp [-Int.natCast_add,-BitVec.toNat_or,-BitVec.toNat_ofInt,-BitVec.toNat_and,Zah b45,Za Zas,Zab Zb2,Za Zan,Zab Zbw,Zac u41,Za Zfk,Zab ld3,Zaa u41 Za5,Za Zav,Zab Zbe,Zac u23,Za Zaz,Za Zb7,Zab Zez,Zac u43,Za Za2,Zab Zcr,Zac u42,Zaa u42 sz9,Zab ld9,Zc9 u9,Zae Zby,Zag Zb4,Zaf Za5,Za Zat,Za1 u23 sz3,Zae Zbx,Zaa u23 sz3,Zac u24,Zaa u24 Zbn,Za Zaq,Zab Zb1,Zac u31,Za Za3,Zaa u31 Zbd,Zae Zc6,Zag Zcw,Zaf Zbd,Za Zbq,Za Zap,Zad u23 bs3 rfl,Za Zar,Zam u23 sz3,i1,em,hlt,b3',lt,l1,l2,wi]
  exact ih _ _ _ _ ⟨i+1,rfl,by omega,rfl,rfl⟩ (by omega) ⟨by rfl,by simp [Zcm],trivial⟩
 have i1:¬ (i:Int) < p.X.length:=by omega
 simp [-Int.natCast_add,-BitVec.toNat_or,-BitVec.toNat_ofInt,-BitVec.toNat_and,Zah b45,Za Zas,Zab Zb2,Za Zan,Zab Zbw,Zac u41,Za Zfk,Zab ld3,Zaa u41 Za5,Za Zav,Zab Zbe,Zac u23,Za Zaz,Za Zb7,Zab Zez,Zac u43,Za Za2,Zab Zcr,Zac u42,Zaa u42 sz9,Zab ld9,Zc9 u9,Zae Zby,Zag Zb4,Zaf Za5,Za Zat,Za1 u23 sz3,Zae Zbx,Zaa u23 sz3,Zac u24,Zaa u24 Zbn,Za Zaq,Zab Zb1,Zac u31,Za Za3,Zaa u31 Zbd,Zae Zc6,Zag Zcw,Zaf Zbd,Za Zbq,Za Zap,Zad u23 bs3 rfl,Za Zar,Zam u23 sz3,i1,hlt,b3]
 clear ih hd hi' hmC i1 hlt
 refine Zbg 11 [66,71,80,85,135,141,151,157,177,222] (fun d E mC=>∃ i:Nat,p.F.length - i=d∧i≤p.F.length∧Zao m1 mC []∧E=[(1,.pointer (some ⟨pb,0,none⟩)),(5,.int .i64 i)]) _ ⟨_,⟨0,rfl,by omega,k2,rfl⟩,⟨by rfl,by rfl,trivial⟩⟩ ?_
 rintro d E mC ih ⟨i,hd,hi',kC,rfl⟩
 have bC:=ld 1 _ rfl _ kC
 by_cases hlt:i < p.F.length
 case pos =>
  have i1:(i:Int) < p.F.length:=by omega
  have em:(i:Int)≤9223372036854775807:=by omega
  have wi:IntKind.i64.wrap ((i:Int)+1)=((i+1:Nat):Int):=by rw [Zbh (by omega) (by omega)];omega
  obtain⟨fb',fq',hfb',hfn',hld'⟩:=((h.keep k1).keep kC).fs.one hlt
  rw [hfb] at hfb'
  cases hfb'
  have lf:=(hld' _ (Zaj _)).1
  obtain⟨s8,s40,sle,spre⟩:=hP.sig _ (List.getElem_mem hlt)
  have hvl:=hP.ok.ls _ (List.getElem_mem hlt)
  have hvr:=hP.ok.res _ (List.getElem_mem hlt)
  generalize p.F[i]=g at lf hfn' s8 s40 sle spre hvl hvr
  simp only [Fn.row] at lf
  obtain⟨o4,k4,n4⟩:=Za7 (m:=mC) (cs:=[.string ⟨#[]⟩,.slice none 0 0,.int .i64 0,.slice none 0 0,.slice none 0 0]) (e:=37) rfl
  obtain⟨gb,hgb⟩:∃ z,mC.next=z:=⟨_,rfl⟩
  rw [hgb] at o4 n4
  obtain⟨m4,hm4⟩:∃ z,mC.new [.string ⟨#[]⟩,.slice none 0 0,.int .i64 0,.slice none 0 0,.slice none 0 0] 37=z:=⟨_,rfl⟩
  rw [hm4] at o4 k4 n4
  simp [-Int.natCast_add,-BitVec.toNat_or,-BitVec.toNat_ofInt,-BitVec.toNat_and,Zah b45,Za Zas,Zab Zb2,Za Zan,Zab Zbw,Zac u41,Za Zfk,Zab ld3,Zaa u41 Za5,Za Zav,Zab Zbe,Zac u23,Za Zaz,Za Zb7,Zab Zez,Zac u43,Za Za2,Zab Zcr,Zac u42,Zaa u42 sz9,Zab ld9,Zc9 u9,Zae Zby,Zag Zb4,Zaf Za5,Za Zat,Za1 u23 sz3,Zae Zbx,Zaa u23 sz3,Zac u24,Zaa u24 Zbn,Za Zaq,Zab Zb1,Zac u31,Za Za3,Zaa u31 Zbd,Zae Zc6,Zag Zcw,Zaf Zbd,Za Zbq,Za Zap,Zad u23 bs3 rfl,Za Zar,Zam u23 sz3,bC,i1,em,hlt,lf,hgb,hm4]
  generalize hrc:Za8 _ _ _=rc
  obtain⟨m5,rfl,o5,k5⟩:=Za4 hrc o4 (by simp) (by simp [Zbk,Zco,Zbp])
  simp [Zdh] at o5
  have kC5:Zao mC m5 []:=k4.fresh k5 (by simp;omega)
  have y1:=o5.load1 (off:=1) rfl
  have y2:=o5.load1 (off:=2) rfl
  have y3:=o5.load1 (off:=3) rfl
  have p5:=pl _ (kC.trans kC5)
  have hls:=hfn'.ls.keep kC5 (by simp)
  obtain⟨ro,lo,hrl,_,hro⟩:=Zse hls sle
  have s1:=(hrl _ (Zaj _)).1
  rw [← spre] at hro
  have hpsI:=Rs.iv (hfn'.ps.keep kC5 (by simp))
  have he:=Zw1 (m:=m5) hN.same9 hpsI (by omega) hro
  have c8:¬ 8 < g.ps.length:=by omega
  have c8':¬ (8:Int) < g.ps.length:=by omega
  have c40:¬ 40 < g.ls.length:=by omega
  have c40':¬ (40:Int) < g.ls.length:=by omega
  have cle:¬ g.ls.length < g.ps.length:=by omega
  have cle':¬ (g.ls.length:Int) < (g.ps.length:Int):=by omega
  have emp:(g.ps.length:Int)≤9223372036854775807:=by omega
  have loc:∀ m6,Zao m5 m6 []→∃ mm,mm=m6:=fun m6 _=>⟨_,rfl⟩
  apply Z2x (fun (m6:Mem) (_:Nat)=>Zao m5 m6 [])
  case main =>
   obtain⟨zz,_⟩:∃ z:Nat,z=z:=⟨0,rfl⟩
   have hvr':=hvr
   rcases hvr' with hr0 | hvr'
   case inr =>
    have hr0:¬ g.res=0:=by have:=hvr'.1;omega
    obtain⟨m6,h6,k6⟩:=Ztd (m:=m5) (q:=q) hN hL5 hvr'
    rw [hrow] at h6
    have y16:=(o5.keep k6 (by simp)).load1 (off:=1) rfl
    have y26:=(o5.keep k6 (by simp)).load1 (off:=2) rfl
    have y36:=(o5.keep k6 (by simp)).load1 (off:=3) rfl
    have p6:=pl _ ((kC.trans kC5).trans k6)
    intro meth
    simp [-Int.natCast_add,-BitVec.toNat_or,-BitVec.toNat_ofInt,-BitVec.toNat_and,Zah b45,Za Zas,Zab Zb2,Za Zan,Zab Zbw,Zac u41,Za Zfk,Zab ld3,Zaa u41 Za5,Za Zav,Zab Zbe,Zac u23,Za Zaz,Za Zb7,Zab Zez,Zac u43,Za Za2,Zab Zcr,Zac u42,Zaa u42 sz9,Zab ld9,Zc9 u9,Zae Zby,Zag Zb4,Zaf Za5,Za Zat,Za1 u23 sz3,Zae Zbx,Zaa u23 sz3,Zac u24,Zaa u24 Zbn,Za Zaq,Zab Zb1,Zac u31,Za Za3,Zaa u31 Zbd,Zae Zc6,Zag Zcw,Zaf Zbd,Za Zbq,Za Zap,Zad u23 bs3 rfl,Za Zar,Zam u23 sz3,Zgn,Zgk,y1,y2,y3,y16,y26,y36,c8,c8',c40,c40',cle,cle',emp,s1,he,hr0,p5,p6,h6,Zdf,Zc1]
    exact Zei (E:=[(1,.pointer (some ⟨pb,0,none⟩)),(5,.int .i64 i),(6,.pointer (some ⟨gb,0,none⟩)),(7,.int .i64 0)]) (meth m6 zz k6) ⟨by rfl,by rfl,by rfl,by rfl,trivial⟩
   ·have y2':=y2
    rw [hr0] at y2'
    intro meth
    simp [-Int.natCast_add,-BitVec.toNat_or,-BitVec.toNat_ofInt,-BitVec.toNat_and,Zah b45,Za Zas,Zab Zb2,Za Zan,Zab Zbw,Zac u41,Za Zfk,Zab ld3,Zaa u41 Za5,Za Zav,Zab Zbe,Zac u23,Za Zaz,Za Zb7,Zab Zez,Zac u43,Za Za2,Zab Zcr,Zac u42,Zaa u42 sz9,Zab ld9,Zc9 u9,Zae Zby,Zag Zb4,Zaf Za5,Za Zat,Za1 u23 sz3,Zae Zbx,Zaa u23 sz3,Zac u24,Zaa u24 Zbn,Za Zaq,Zab Zb1,Zac u31,Za Za3,Zaa u31 Zbd,Zae Zc6,Zag Zcw,Zaf Zbd,Za Zbq,Za Zap,Zad u23 bs3 rfl,Za Zar,Zam u23 sz3,Zgn,Zgk,y1,y2',y3,c8,c8',c40,c40',cle,cle',emp,s1,he,Zdf,Zc1]
    exact Zei (E:=[(1,.pointer (some ⟨pb,0,none⟩)),(5,.int .i64 i),(6,.pointer (some ⟨gb,0,none⟩)),(7,.int .i64 0)]) (meth m5 zz (Zaj _)) ⟨by rfl,by rfl,by rfl,by rfl,trivial⟩
  intro m6 _ k6
  have o6:=o5.keep k6 (by simp)
  have K6:=(kC.trans kC5).trans k6
  refine Zbg 11 [66,71,80,85,135,141,151,157,177,222] (fun d E mD=>∃ j:Nat,g.ls.length - j=d∧j≤g.ls.length∧Zao m6 mD []∧E=[(1,.pointer (some ⟨pb,0,none⟩)),(5,.int .i64 i),(6,.pointer (some ⟨gb,0,none⟩)),(7,.int .i64 j)]) _ ⟨_,⟨0,rfl,by omega,Zaj _,rfl⟩,⟨by rfl,by rfl,by rfl,by rfl,trivial⟩⟩ ?_
  rintro d E mD ihD ⟨j,hdj,hj,kD,rfl⟩
  have y3D:=(o6.keep kD (by simp)).load1 (off:=3) rfl
  by_cases hlj:j < g.ls.length
  case neg =>
   have j1:¬ (j:Int) < (g.ls.length:Int):=by omega
   simp [-Int.natCast_add,-BitVec.toNat_or,-BitVec.toNat_ofInt,-BitVec.toNat_and,Zah b45,Za Zas,Zab Zb2,Za Zan,Zab Zbw,Zac u41,Za Zfk,Zab ld3,Zaa u41 Za5,Za Zav,Zab Zbe,Zac u23,Za Zaz,Za Zb7,Zab Zez,Zac u43,Za Za2,Zab Zcr,Zac u42,Zaa u42 sz9,Zab ld9,Zc9 u9,Zae Zby,Zag Zb4,Zaf Za5,Za Zat,Za1 u23 sz3,Zae Zbx,Zaa u23 sz3,Zac u24,Zaa u24 Zbn,Za Zaq,Zab Zb1,Zac u31,Za Za3,Zaa u31 Zbd,Zae Zc6,Zag Zcw,Zaf Zbd,Za Zbq,Za Zap,Zad u23 bs3 rfl,Za Zar,Zam u23 sz3,y3D,hlj,j1,wi]
   exact ih _ _ _ _ ⟨i+1,rfl,by omega,K6.trans kD,rfl⟩ (by omega) ⟨by rfl,by simp [Zcm],trivial⟩
  have j1:(j:Int) < (g.ls.length:Int):=by omega
  have emj:(j:Int)≤9223372036854775807:=by omega
  have wj:IntKind.i64.wrap ((j:Int)+1)=((j+1:Nat):Int):=by rw [Zbh (by omega) (by omega)];omega
  obtain⟨lb,hlb,hr⟩:=((hls.keep k6 (by simp)).keep kD (by simp)).rdo (by omega)
  have lt:loadRow mD ⟨lb,j,none⟩ 1=some [.int .i64 g.ls[j]]:=hr.load1 (by simp [ic,hlj])
  obtain⟨m7,h7,k7⟩:=Ztd (m:=mD) (q:=q) hN hL5 (hvl _ (List.getElem_mem hlj))
  rw [hrow] at h7
  have y37:=(o6.keep (kD.trans k7) (by simp)).load1 (off:=3) rfl
  have lt7:loadRow m7 ⟨lb,j,none⟩ 1=some [.int .i64 g.ls[j]]:=(hr.keep k7 (by simp)).load1 (by simp [ic,hlj])
  have pD:=pl _ (K6.trans kD)
  have p7:=pl _ ((K6.trans kD).trans k7)
  rw [hlb] at y3D y37
  generalize g.ls[j]=xx at lt lt7 h7
  simp [-Int.natCast_add,-BitVec.toNat_or,-BitVec.toNat_ofInt,-BitVec.toNat_and,Zah b45,Za Zas,Zab Zb2,Za Zan,Zab Zbw,Zac u41,Za Zfk,Zab ld3,Zaa u41 Za5,Za Zav,Zab Zbe,Zac u23,Za Zaz,Za Zb7,Zab Zez,Zac u43,Za Za2,Zab Zcr,Zac u42,Zaa u42 sz9,Zab ld9,Zc9 u9,Zae Zby,Zag Zb4,Zaf Za5,Za Zat,Za1 u23 sz3,Zae Zbx,Zaa u23 sz3,Zac u24,Zaa u24 Zbn,Za Zaq,Zab Zb1,Zac u31,Za Za3,Zaa u31 Zbd,Zae Zc6,Zag Zcw,Zaf Zbd,Za Zbq,Za Zap,Zad u23 bs3 rfl,Za Zar,Zam u23 sz3,y3D,y37,hlj,j1,emj,lt,lt7,pD,p7,h7,wj,Zdf,Zc1]
  exact ihD _ _ _ _ ⟨j+1,rfl,by omega,kD.trans k7,rfl⟩ (by omega) ⟨by rfl,by rfl,by rfl,by simp [Zcm],trivial⟩
 have i1:¬ (i:Int) < p.F.length:=by omega
 simp [-Int.natCast_add,-BitVec.toNat_or,-BitVec.toNat_ofInt,-BitVec.toNat_and,Zah b45,Za Zas,Zab Zb2,Za Zan,Zab Zbw,Zac u41,Za Zfk,Zab ld3,Zaa u41 Za5,Za Zav,Zab Zbe,Zac u23,Za Zaz,Za Zb7,Zab Zez,Zac u43,Za Za2,Zab Zcr,Zac u42,Zaa u42 sz9,Zab ld9,Zc9 u9,Zae Zby,Zag Zb4,Zaf Za5,Za Zat,Za1 u23 sz3,Zae Zbx,Zaa u23 sz3,Zac u24,Zaa u24 Zbn,Za Zaq,Zab Zb1,Zac u31,Za Za3,Zaa u31 Zbd,Zae Zc6,Zag Zcw,Zaf Zbd,Za Zbq,Za Zap,Zad u23 bs3 rfl,Za Zar,Zam u23 sz3,bC,i1,hlt]
 clear ih
 refine Zbg 11 [66,71,80,85,135,141,151,157,177,222] (fun d E mD=>∃ t:Nat,p.L.length - t=d∧5≤t∧t≤p.L.length∧Zao m1 mD []∧E=[(1,.pointer (some ⟨pb,0,none⟩)),(8,.int .i64 t)]) _ ⟨_,⟨5,rfl,by omega,by omega,kC,rfl⟩,⟨by rfl,by rfl,trivial⟩⟩ ?_
 clear bC i1 hlt hd hi'
 rintro d E mD ih ⟨t,hdt,ht5,htl,kD,rfl⟩
 have a0D:=fun mE (k:Zao mD mE [])=>ld 0 _ rfl mE (kD.trans k)
 by_cases hlt:t < p.L.length
 case neg =>
  have i1:¬ (t:Int) < (p.L.length:Int):=by omega
  have a0:=a0D _ (Zaj _)
  simp [-Int.natCast_add,-BitVec.toNat_or,-BitVec.toNat_ofInt,-BitVec.toNat_and,Zah b45,Za Zas,Zab Zb2,Za Zan,Zab Zbw,Zac u41,Za Zfk,Zab ld3,Zaa u41 Za5,Za Zav,Zab Zbe,Zac u23,Za Zaz,Za Zb7,Zab Zez,Zac u43,Za Za2,Zab Zcr,Zac u42,Zaa u42 sz9,Zab ld9,Zc9 u9,Zae Zby,Zag Zb4,Zaf Za5,Za Zat,Za1 u23 sz3,Zae Zbx,Zaa u23 sz3,Zac u24,Zaa u24 Zbn,Za Zaq,Zab Zb1,Zac u31,Za Za3,Zaa u31 Zbd,Zae Zc6,Zag Zcw,Zaf Zbd,Za Zbq,Za Zap,Zad u23 bs3 rfl,Za Zar,Zam u23 sz3,a0,hlt,i1]
  exact k1.trans kD
 have i1:(t:Int) < (p.L.length:Int):=by omega
 have em:(t:Int)≤9223372036854775807:=by omega
 have wi:IntKind.i64.wrap ((t:Int)+1)=((t+1:Nat):Int):=by rw [Zbh (by omega) (by omega)];omega
 obtain⟨tb,ao,tf,bo,htb,ty⟩:=(h.keep k1).tb.ty hlt
 rw [htb] at a0D
 have hmth:=hP.mth t hlt
 have hms:=ty.ms
 have hml:=hms.le
 have l0f:=fun mE (k:Zao mD mE [])=>ty.l0 mE (kD.trans k)
 have l4f:=fun mE (k:Zao mD mE [])=>ty.l4 mE (kD.trans k)
 clear ty
 generalize p.L[t]=x at hmth hms hml l0f l4f
 obtain⟨B,hB⟩:∃ B,tM x=B:=⟨_,rfl⟩
 have hB2:x.2.2.2.2.1=B:=hB
 simp only [hB,hB2] at hms l4f hmth hml
 have a00:=a0D _ (Zaj _)
 simp [-Int.natCast_add,-BitVec.toNat_or,-BitVec.toNat_ofInt,-BitVec.toNat_and,Zah b45,Za Zas,Zab Zb2,Za Zan,Zab Zbw,Zac u41,Za Zfk,Zab ld3,Zaa u41 Za5,Za Zav,Zab Zbe,Zac u23,Za Zaz,Za Zb7,Zab Zez,Zac u43,Za Za2,Zab Zcr,Zac u42,Zaa u42 sz9,Zab ld9,Zc9 u9,Zae Zby,Zag Zb4,Zaf Za5,Za Zat,Za1 u23 sz3,Zae Zbx,Zaa u23 sz3,Zac u24,Zaa u24 Zbn,Za Zaq,Zab Zb1,Zac u31,Za Za3,Zaa u31 Zbd,Zae Zc6,Zag Zcw,Zaf Zbd,Za Zbq,Za Zap,Zad u23 bs3 rfl,Za Zar,Zam u23 sz3,a00,hlt,i1]
 refine Zbg 11 [66,71,80,85,135,141,151,157,177,222] (fun d E mE=>∃ j:Nat,B.length - j=d∧j≤B.length∧Zao mD mE []∧E=[(1,.pointer (some ⟨pb,0,none⟩)),(8,.int .i64 t),(9,.int .i64 j)]) _ ⟨_,⟨0,rfl,by omega,Zaj _,rfl⟩,⟨by rfl,by rfl,by rfl,trivial⟩⟩ ?_
 rintro d E mE ihE ⟨j,hdj,hj,kE,rfl⟩
 have KE:=kD.trans kE
 have aE:=a0D _ kE
 have l0E:=l0f _ kE
 have l4E:=l4f _ kE
 by_cases hlj:j < B.length
 case neg =>
  have j1:¬ (j:Int) < (B.length:Int):=by omega
  simp [-Int.natCast_add,-BitVec.toNat_or,-BitVec.toNat_ofInt,-BitVec.toNat_and,Zah b45,Za Zas,Zab Zb2,Za Zan,Zab Zbw,Zac u41,Za Zfk,Zab ld3,Zaa u41 Za5,Za Zav,Zab Zbe,Zac u23,Za Zaz,Za Zb7,Zab Zez,Zac u43,Za Za2,Zab Zcr,Zac u42,Zaa u42 sz9,Zab ld9,Zc9 u9,Zae Zby,Zag Zb4,Zaf Za5,Za Zat,Za1 u23 sz3,Zae Zbx,Zaa u23 sz3,Zac u24,Zaa u24 Zbn,Za Zaq,Zab Zb1,Zac u31,Za Za3,Zaa u31 Zbd,Zae Zc6,Zag Zcw,Zaf Zbd,Za Zbq,Za Zap,Zad u23 bs3 rfl,Za Zar,Zam u23 sz3,aE,em,hlt,l4E,hlj,j1,wi]
  exact ih _ _ _ _ ⟨t+1,rfl,by omega,by omega,KE,rfl⟩ (by omega) ⟨by rfl,by simp [Zcm],trivial⟩
 have j1:(j:Int) < (B.length:Int):=by omega
 have emj:(j:Int)≤9223372036854775807:=by omega
 have wj:IntKind.i64.wrap ((j:Int)+1)=((j+1:Nat):Int):=by rw [Zbh (by omega) (by omega)];omega
 by_cases e5:x.1=5
 case neg =>
  simp [-Int.natCast_add,-BitVec.toNat_or,-BitVec.toNat_ofInt,-BitVec.toNat_and,Zah b45,Za Zas,Zab Zb2,Za Zan,Zab Zbw,Zac u41,Za Zfk,Zab ld3,Zaa u41 Za5,Za Zav,Zab Zbe,Zac u23,Za Zaz,Za Zb7,Zab Zez,Zac u43,Za Za2,Zab Zcr,Zac u42,Zaa u42 sz9,Zab ld9,Zc9 u9,Zae Zby,Zag Zb4,Zaf Za5,Za Zat,Za1 u23 sz3,Zae Zbx,Zaa u23 sz3,Zac u24,Zaa u24 Zbn,Za Zaq,Zab Zb1,Zac u31,Za Za3,Zaa u31 Zbd,Zae Zc6,Zag Zcw,Zaf Zbd,Za Zbq,Za Zap,Zad u23 bs3 rfl,Za Zar,Zam u23 sz3,aE,em,hlt,l4E,l0E,hlj,j1,e5,wi]
  exact ih _ _ _ _ ⟨t+1,rfl,by omega,by omega,KE,rfl⟩ (by omega) ⟨by rfl,by simp [Zcm],trivial⟩
 rw [e5] at l0E
 obtain⟨mb,po,pf,hmb,hp,hld1⟩:=hms.one hlj
 rw [hmb] at l4E
 have l4m:=(hld1 _ KE).1
 have hme:=hmth e5 _ (List.getElem_mem hlj)
 have hwm:=(hms.wf _ (List.getElem_mem hlj)).2.1.1
 obtain⟨z,hz⟩:∃ x,B[j]=x:=⟨_,rfl⟩
 rw [hz] at l4m hp hme hwm
 obtain⟨zn,zp,zr,zf,zu⟩:=z
 simp only at l4m hp hme hwm
 obtain⟨o4,k4,n4⟩:=Za7 (m:=mE) (cs:=[.string ⟨#[]⟩,.slice none 0 0,.int .i64 0,.int .i64 0]) (e:=30) rfl
 obtain⟨yb,hyb⟩:∃ z,mE.next=z:=⟨_,rfl⟩
 rw [hyb] at o4 n4
 obtain⟨m4,hm4⟩:∃ z,mE.new [.string ⟨#[]⟩,.slice none 0 0,.int .i64 0,.int .i64 0] 30=z:=⟨_,rfl⟩
 rw [hm4] at o4 k4 n4
 simp [-Int.natCast_add,-BitVec.toNat_or,-BitVec.toNat_ofInt,-BitVec.toNat_and,Zah b45,Za Zas,Zab Zb2,Za Zan,Zab Zbw,Zac u41,Za Zfk,Zab ld3,Zaa u41 Za5,Za Zav,Zab Zbe,Zac u23,Za Zaz,Za Zb7,Zab Zez,Zac u43,Za Za2,Zab Zcr,Zac u42,Zaa u42 sz9,Zab ld9,Zc9 u9,Zae Zby,Zag Zb4,Zaf Za5,Za Zat,Za1 u23 sz3,Zae Zbx,Zaa u23 sz3,Zac u24,Zaa u24 Zbn,Za Zaq,Zab Zb1,Zac u31,Za Za3,Zaa u31 Zbd,Zae Zc6,Zag Zcw,Zaf Zbd,Za Zbq,Za Zap,Zad u23 bs3 rfl,Za Zar,Zam u23 sz3,aE,em,hlt,l4E,l0E,hlj,j1,emj,l4m,hyb,hm4]
 generalize hrb:Za8 _ _ _=rb
 obtain⟨m5,rfl,o5,k5⟩:=Za4 hrb o4 (by simp) (by simp [Zbk,Zco,Zbp])
 simp [Zdh] at o5
 have kE5:Zao mE m5 []:=k4.fresh k5 (by simp;omega)
 obtain⟨z0,zl,zres,zps⟩:=hme
 obtain⟨fi,hfi⟩:∃ fi:Nat,zf=fi:=⟨(show Int from zf).toNat,(Int.toNat_of_nonneg z0).symm⟩
 subst hfi
 have hfl:fi < p.F.length:=Int.ofNat_lt.1 zl
 rw [Zjw hfl] at zres zps
 obtain⟨fb3,fq3,hfb3,hfn3,hldf⟩:=((h.keep k1).keep (KE.trans kE5)).fs.one hfl
 rw [hfb] at hfb3
 cases hfb3
 have hgs:=hP.sig _ (List.getElem_mem hfl)
 have lf1f:=fun mX (k:Zao m5 mX [])=>(hldf mX k).2.1
 have lf2f:=fun mX (k:Zao m5 mX [])=>(hldf mX k).2.2.1
 generalize p.F[fi]=g at zres zps hfn3 hgs lf1f lf2f
 have hzl:zp.length≤8:=by
  have h1:=congrArg List.length zps
  rw [List.length_cons] at h1
  have h2:zp.length+1=g.ps.length:=h1.symm
  omega
 have K5:=KE.trans kE5
 obtain⟨o8,k8,n8⟩:=Za7 (m:=m5) (cs:=[.int .i64 t]) (e:=3) rfl
 obtain⟨tb8,htb8⟩:∃ z,m5.next=z:=⟨_,rfl⟩
 rw [htb8] at o8 n8
 obtain⟨m8,hm8⟩:∃ z,m5.new [.int .i64 t] 3=z:=⟨_,rfl⟩
 rw [hm8] at o8 k8 n8
 have y15:=o5.load1 (off:=1) rfl
 have y25:=o5.load1 (off:=2) rfl
 have y35:=o5.load1 (off:=3) rfl
 have o58:=o5.keep k8 (by simp)
 have y18:=o58.load1 (off:=1) rfl
 have y28:=o58.load1 (off:=2) rfl
 have y38:=o58.load1 (off:=3) rfl
 have b5:=ld 1 _ rfl _ K5
 have b8:=ld 1 _ rfl _ (K5.trans k8)
 have f15:=lf1f _ (Zaj _)
 have f25:=lf2f _ (Zaj _)
 have f18:=lf1f _ k8
 have f28:=lf2f _ k8
 have hp8:=hp.keep (KE.trans (kE5.trans k8)) (by simp)
 have lps:ldS m8 (.slice po zp.length zp.length) 1=some ((show List Int from zp).map (Value.int .i64),zp.length):=by
  have:=Zlk (m:=m8) (st:=(show List Int from zp)) hp8 (Nat.le_refl _) rfl
  simpa [ic] using this
 have cz:¬ (p.F.length:Int)≤(fi:Int):=by omega
 have cz2:¬ p.F.length≤fi:=by omega
 have emf:(fi:Int)≤9223372036854775807:=by omega
 simp [-Int.natCast_add,-BitVec.toNat_or,-BitVec.toNat_ofInt,-BitVec.toNat_and,Zah b45,Za Zas,Zab Zb2,Za Zan,Zab Zbw,Zac u41,Za Zfk,Zab ld3,Zaa u41 Za5,Za Zav,Zab Zbe,Zac u23,Za Zaz,Za Zb7,Zab Zez,Zac u43,Za Za2,Zab Zcr,Zac u42,Zaa u42 sz9,Zab ld9,Zc9 u9,Zae Zby,Zag Zb4,Zaf Za5,Za Zat,Za1 u23 sz3,Zae Zbx,Zaa u23 sz3,Zac u24,Zaa u24 Zbn,Za Zaq,Zab Zb1,Zac u31,Za Za3,Zaa u31 Zbd,Zae Zc6,Zag Zcw,Zaf Zbd,Za Zbq,Za Zap,Zad u23 bs3 rfl,Za Zar,Zam u23 sz3,Zgn,Zgk,y15,y25,y35,y18,y28,y38,b5,b8,f15,f25,f18,f28,cz,cz2,emf,hfl,zres,htb8,hm8,lps,Zdf,Zc1]
 generalize hrd:Zcd _ _ _ _ _ _=rd
 obtain⟨m9,b9,rfl,o9,k9⟩:=Zfm hrd u23 ap3 o8 (by simp) (by simp) (by simp [Zbk]) (by omega) (by omega)
 have k59:Zao m5 m9 []:=k8.fresh k9 (by simp;omega)
 have o59:=o5.keep k59 (by simp)
 have y19:=o59.load1 (off:=1) rfl
 have y29:=o59.load1 (off:=2) rfl
 have y39:=o59.load1 (off:=3) rfl
 have b99:=ld 1 _ rfl _ (K5.trans k59)
 have f19:=lf1f _ k59
 have f29:=lf2f _ k59
 have r9:Rs m9 (some ⟨b9,0,none⟩) ((t:Int)::(show List Int from zp)).length (ic ((t:Int)::(show List Int from zp))) 3 1 tb8:=⟨by simp [ic],Or.inr ⟨b9,rfl,by simpa [ic] using o9.rdo⟩⟩
 have hps9:=(hfn3.ps.keep k59 (by simp))
 obtain⟨_,m10,he,rfl,hm10⟩:=Zps (m:=m9) hN.same9 hps9 (by omega) r9
 rw [hm10,decide_eq_true zps] at he
 have el:((t:Int)::(show List Int from zp)).length=1+zp.length:=by rw [List.length_cons];exact Nat.add_comm _ _
 rw [el] at he
 simp [-Int.natCast_add,-BitVec.toNat_or,-BitVec.toNat_ofInt,-BitVec.toNat_and,Zah b45,Za Zas,Zab Zb2,Za Zan,Zab Zbw,Zac u41,Za Zfk,Zab ld3,Zaa u41 Za5,Za Zav,Zab Zbe,Zac u23,Za Zaz,Za Zb7,Zab Zez,Zac u43,Za Za2,Zab Zcr,Zac u42,Zaa u42 sz9,Zab ld9,Zc9 u9,Zae Zby,Zag Zb4,Zaf Za5,Za Zat,Za1 u23 sz3,Zae Zbx,Zaa u23 sz3,Zac u24,Zaa u24 Zbn,Za Zaq,Zab Zb1,Zac u31,Za Za3,Zaa u31 Zbd,Zae Zc6,Zag Zcw,Zaf Zbd,Za Zbq,Za Zap,Zad u23 bs3 rfl,Za Zar,Zam u23 sz3,y15,y25,y35,y18,y28,y38,y19,y29,y39,b5,b8,b99,f15,f25,f18,f28,f19,f29,cz,cz2,emf,hfl,zres,Zdf,Zc1,he,wj]
 exact ihE _ _ _ _ ⟨j+1,rfl,by omega,kE.trans (kE5.trans k59),rfl⟩ (by omega) ⟨by rfl,by rfl,by simp [Zcm],trivial⟩
end Go.Proofs.YtbldiceiindbdaaGreatDoor.base
