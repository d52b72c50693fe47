/- This text proves what ssa.checker's 'taken' answers, Zb5 the abstract run. Condition: nothing is known of the calls ahead ('S f = []'). -/
import Derived.Test.YtlogdohlcdhepaaDoorM9
set_option linter.unusedVariables false
set_option linter.unusedSimpArgs false
section
set_option maxRecDepth 100000
namespace Go.Proofs.YtlogdohlcdhepaaDoor.base
open Go.Sh gen
variable {S:Zc}{m:Mem}
abbrev vlD (u:UnT.D)(i:Nat):List Int:=(Zbx u i).1
def Z4q (u:UnT.D)(bl pl I:List Int):List Int→List Int→Bool
 | a::r,p::q=>Zi4 u bl pl I p (vlD u p.toNat).length [a] && Z4q u bl pl I r q
 | _,_=>true
def Zut (u:UnT.D)(bl pl I:List Int)(i k:Nat)(n:Int):Bool:=
 if (Zbd u n).1=21 then Z4q u bl pl I (Zbd u n).2.2.2.2.1 (prD u i) else
 Zi4 u bl pl I i k (Ze9 (Zbd u n)) && (!lvs (Zbd u n).1 || Zhr u bl pl I i k (stD u (show Int from (Zbd u n).2.2.2.2.2.1).toNat))
def Zj7 (u:UnT.D)(bl pl I:List Int)(i:Nat):Nat→List Int→Bool
 | _,[]=>true
 | k,n::r=>Zut u bl pl I i k n && Zj7 u bl pl I i (k+1) r
def Zrp (u:UnT.D)(bl pl I:List Int)(i:Nat):Bool:=
 if (Zbx u i).2.1=2 then Zi4 u bl pl I i (vlD u i).length [(show Int from (Zbx u i).2.2.1)] else
 if (Zbx u i).2.1=3 then Zhr u bl pl I i (vlD u i).length (stD u (show Int from (Zbx u i).2.2.2.2.2.1).toNat) else true
def Zll (u:UnT.D)(bl pl I:List Int)(i:Nat):Bool:=Zj7 u bl pl I i 0 (vlD u i) && Zrp u bl pl I i
structure Yb8 (u:UnT.D):Prop where
 bv:∀ i < nb u,(vlD u i).length≤20000000000000∧∀ n∈vlD u i,(0:Int)≤n∧n < nv u
 pr:∀ i < nb u,∀ p∈prD u i,(0:Int)≤p∧p < nb u
 us:∀ n < nv u,∀ z∈Ze9 (Zbd u (n:Nat)),(0:Int)≤z∧z < nv u
 al:∀ n < nv u,(Zbd u (n:Nat)).2.2.2.2.1.length * 8≤140737488351232
 ph:∀ i < nb u,∀ n∈vlD u i,(Zbd u n).1=21→List.length (Zbd u n).2.2.2.2.1=(prD u i).length
 lv:∀ n < nv u,lvs (Zbd u (n:Nat)).1=true→(0:Int)≤(Zbd u (n:Nat)).2.2.2.2.2.1∧(show Int from (Zbd u (n:Nat)).2.2.2.2.2.1) < ns u
 st:∀ s < ns u,(stD u s).length≤1000∧∀ f∈stD u s,Yb5 u f
 cd:∀ i < nb u,(Zbx u i).2.1=2→(0:Int)≤(Zbx u i).2.2.1∧(show Int from (Zbx u i).2.2.1) < nv u
 os:∀ i < nb u,(Zbx u i).2.1=3→(0:Int)≤(Zbx u i).2.2.2.2.2.1∧(show Int from (Zbx u i).2.2.2.2.2.1) < ns u
structure Nt (S:Zc):Prop where
 taken:S 54=[]
 seen:S 74=[]
 seenState:S 75=[]
 dominates:S 83=[]
 uses:S 58=[]
 parts:S 76=[]
 leaves:S 67=[]
theorem Z21 {Q:Nat→Prop}{u:UnT.D}{vo bo so:Option Addr}(h:UAt Q m u vo bo so){i:Nat}(hi:i < nb u) :
  ∃ (b:Nat) (vl:Option Addr),bo=some ⟨b,0,none⟩∧∀ (m':Mem) (fs:List Nat),Zag m m' fs→(∀ f∈fs,¬ Q f)→loadRow m' ⟨b,i * 6,none⟩ 1=some [.slice vl (vlD u i).length (vlD u i).length]:=by
 obtain⟨vb,c,e,hc,hl⟩:=Zmm h.b hi
 obtain⟨_,_,e1,h1,_⟩:=hc
 obtain⟨ao1,f1,rfl,hr1,hqf1⟩:=Zgp h1
 refine⟨vb,ao1,e,fun m' fs k hf=>?_⟩
 have:=Zcd (k:=0) (hl m' fs k hf) (by rw [e1];rfl)
 rw [Nat.add_zero] at this
 rw [show vlD u i=(u.2.2.2.1[i]).1 from congrArg (fun x:Zf9.D=>x.1) (Zcz hi)]
 exact this
theorem Z0l {m:Mem}{Q:Nat→Prop}(v:Int):Za5 (fun _=>True) (m.new [.int .i64 v] 3) (some ⟨m.next,0,none⟩) [v]:=⟨m.next,⟨by simp,Or.inr ⟨_,rfl,(Own.new m [.int .i64 v] 3).rdo⟩⟩,fun _=>trivial⟩
set_option maxHeartbeats 16000000 in
theorem Z1k (hN:Nt S){Q:Nat→Prop}{u:UnT.D}{vo bo so:Option Addr}(hU:UAt Q m u vo bo so){cb cf b1 b2 f1 f2 ix:Nat}{bl pl I:List Int}(hC:Ck3 m u vo bo so cb cf b1 b2 f1 f2 ix bl pl I)(hR:Rok u bl pl I)(hnb:nb u≤1000)(hnv:nv u≤1000000)(hns:ns u≤1000000)(hT:Yb8 u)
  {i:Nat} (hi:i < nb u) :
  ∃ v m1,Zal Tryd.prog TT S 54 [.pointer (some ⟨cb,0,none⟩),.int .i64 (i:Int)] m=some (v,m1)∧v=.bool (Zll u bl pl I i)∧Zag m m1 []:=by
 obtain⟨bb,vo',no',po',hbo,ldb,hvo',_,hpo'⟩:=Zh0 hU hi
 have eb:u.2.2.2.1[i]=Zbx u i:=(Zcz hi).symm
 rw [eb] at ldb hvo' hpo'
 have hbv:=hT.bv i hi
 have hpr:=hT.pr i hi
 have hph:=hT.ph i hi
 have hcd:=hT.cd i hi
 have hos:=hT.os i hi
 have hE:Zrp u bl pl I i=if (Zbx u i).2.1=2 then Zi4 u bl pl I i (vlD u i).length [(show Int from (Zbx u i).2.2.1)] else if (Zbx u i).2.1=3 then Zhr u bl pl I i (vlD u i).length (stD u (show Int from (Zbx u i).2.2.2.2.2.1).toNat) else true:=rfl
 have hF:Zll u bl pl I i=(Zj7 u bl pl I i 0 (vlD u i) && Zrp u bl pl I i):=rfl
 obtain⟨vl,hvl⟩:∃ vl,vlD u i=vl:=⟨_,rfl⟩
 obtain⟨en,hen⟩:∃ en:Int,(Zbx u i).2.1=en:=⟨_,rfl⟩
 obtain⟨cd,hcde⟩:∃ cd:Int,(Zbx u i).2.2.1=cd:=⟨_,rfl⟩
 obtain⟨st,hst⟩:∃ st:Int,(Zbx u i).2.2.2.2.2.1=st:=⟨_,rfl⟩
 obtain⟨pr,hpre⟩:∃ pr,prD u i=pr:=⟨_,rfl⟩
 obtain⟨nl,hnl⟩:∃ nl,(Zbx u i).2.2.2.1.length=nl:=⟨_,rfl⟩
 unfold Z1n at ldb
 rw [hnl] at ldb
 rw [hvl] at hbv hph hE hF
 rw [show (Zbx u i).1=vl from hvl] at ldb hvo'
 rw [show (Zbx u i).2.2.2.2.1=pr from hpre] at ldb hpo'
 rw [hpre] at hpr hph
 rw [hen] at ldb hcd hos hE
 rw [hcde] at ldb hcd hE
 rw [hst] at ldb hos hE
 obtain⟨R,hRe⟩:∃ R,Zll u bl pl I i=R:=⟨_,rfl⟩
 obtain⟨RE,hREe⟩:∃ R,Zrp u bl pl I i=R:=⟨_,rfl⟩
 rw [hRe,hREe] at hF
 rw [hREe] at hE
 rw [hRe]
 have c3:=hC.c.c.load1 (off:=3) rfl
 rw [hbo] at c3
 have i1:(i:Int) < nb u:=by omega
 have i2:(i:Int)≤9223372036854775807:=by omega
 obtain⟨oZ,kZ,nZ⟩:=Zay (m:=m) (cs:=[.slice none 0 0,.int .i64 0,.int .i64 0,.slice none 0 0,.slice none 0 0,.int .i64 0]) (e:=40) rfl
 obtain⟨bx,hbx'⟩:∃ bx,m.next=bx:=⟨_,rfl⟩
 obtain⟨m3,e3,oX,kX3⟩:=Zap (r:=_) rfl oZ (off:=0) (vs:=[.slice vo' vl.length vl.length,.int .i64 en,.int .i64 cd,.slice no' nl nl,.slice po' pr.length pr.length,.int .i64 st]) (by simp) (by simp [Zau,Zai])
 simp [Zb5] at oX
 have k3:=kZ.fresh kX3 (by simp)
 rw [hbx'] at oX nZ e3
 have x0:=oX.load1 (off:=0) rfl
 refine Zfz 99 [99,108] k54 hN.taken rfl ?_
 simp [-Int.natCast_add,Za Zbt,Za Zbl,Zaa Zgb,Zab u31 Zje,Zao Z48,Zas Z4m,Zad Zje,Za Zh8,Zaa Zb3,Zac u36,c3,i2,hi,ldb,hbx',e3,x0]
 obtain⟨RL,hRL⟩:∃ R,Zj7 u bl pl I i 0 vl=R:=⟨_,rfl⟩
 rw [hRL] at hF
 clear ldb e3 c3 x0 oZ kZ kX3 nZ hbo
 have hU3:=hU.keep k3 (by simp)
 have hC3:=hC.keep0 k3
 have hvo3:=hvo'.keep k3 (by simp)
 have hpo3:=hpo'.keep k3 (by simp)
 refine Zaq 99 [99,108] (fun d E mF=>∃ (k:Nat),vl.length - k=d∧k≤vl.length∧Zj7 u bl pl I i k (vl.drop k)=RL∧Zag m3 mF []∧
  E=[(0,.pointer (some ⟨cb,0,none⟩)),(1,.int .i64 (i:Int)),(5,.pointer (some ⟨bx,0,none⟩)),(6,.int .i64 vl.length),(24,.slice vo' vl.length vl.length),(25,.int .i64 vl.length),(26,.int .i64 (k:Int))]) _ ⟨_,⟨0,rfl,by omega,by rw [List.drop_zero];exact hRL,.refl _ _,rfl⟩,⟨by rfl,by rfl,by rfl,by rfl,by rfl,by rfl,by rfl,trivial⟩⟩ ?_
 rintro d E mF ih ⟨k,hd,hk,ha,kF,rfl⟩
 have km:(k:Int)≤9223372036854775807:=by omega
 by_cases hlt:k < vl.length
 ·have k1:(k:Int) < vl.length:=by omega
  have wk:IntKind.i64.wrap ((k:Int)+1)=((k+1:Nat):Int):=by rw [Zaf (by omega) (by omega)];omega
  obtain⟨yb,hyb,lk0⟩:=(hvo3.keep kF (by simp)).get hlt
  rw [hyb] at ih ⊢
  rw [Zco hlt,Zj7] at ha
  have hnb':=hbv.2 _ (Za8 hlt)
  have hphk:=hph _ (Za8 hlt)
  obtain⟨n,hn⟩:∃ n:Nat,vl.getD k 0=(n:Int):=⟨(vl.getD k 0).toNat,by omega⟩
  rw [hn] at lk0 hnb' ha hphk
  have hnn:n < nv u:=by omega
  have n1:(n:Int) < nv u:=by omega
  have n2:(n:Int)≤9223372036854775807:=by omega
  have hUF:=hU3.keep kF (by simp)
  have hCF:=hC3.keep0 kF
  obtain⟨xb,ao,fa,hxv,ldx,hra,_⟩:=Zie hUF hnn
  rw [show u.2.2.1[n]=Zbd u (n:Int) from (Zgs hnn).symm] at ldx hra
  have hus:=hT.us n hnn
  have hal:=hT.al n hnn
  have hlv:=hT.lv n hnn
  have eV:Zut u bl pl I i k (n:Int)=if (Zbd u n).1=21 then Z4q u bl pl I (Zbd u n).2.2.2.2.1 (prD u i) else
   Zi4 u bl pl I i k (Ze9 (Zbd u n)) && (!lvs (Zbd u n).1 || Zhr u bl pl I i k (stD u (show Int from (Zbd u n).2.2.2.2.2.1).toNat)):=rfl
  rw [eV,hpre] at ha
  obtain⟨X,hX⟩:∃ X,Zbd u (n:Int)=X:=⟨_,rfl⟩
  rw [hX] at ldx hra hus hal hlv ha hphk
  clear eV
  obtain⟨o,ho⟩:∃ o:Int,X.1=o:=⟨_,rfl⟩
  obtain⟨xa,hxa⟩:∃ o:Int,X.2.1=o:=⟨_,rfl⟩
  obtain⟨xbb,hxbb⟩:∃ o:Int,X.2.2.1=o:=⟨_,rfl⟩
  obtain⟨xn,hxn⟩:∃ o:Int,X.2.2.2.1=o:=⟨_,rfl⟩
  obtain⟨l,hl⟩:∃ o:List Int,X.2.2.2.2.1=o:=⟨_,rfl⟩
  obtain⟨xst,hxst⟩:∃ o:Int,X.2.2.2.2.2.1=o:=⟨_,rfl⟩
  have huse:Ze9 X=Zg o xa xbb l:=by unfold Ze9;rw [ho,hxa,hxbb,hl]
  rw [show List.length X.2.2.2.2.1=l.length by rw [hl]] at hphk hal
  rw [huse] at hus ha
  rw [show (show Int from X.2.2.2.2.2.1)=xst from hxst] at ha hlv
  rw [hxst] at hlv
  unfold Zmk at ldx
  rw [ho,hxa,hxbb,hxn,hl,hxst] at ldx
  rw [ho] at hlv ha hphk
  rw [hl] at hra ha
  clear hn
  have c2:=hCF.c.c.load1 (off:=2) rfl
  rw [hxv] at c2
  obtain⟨oZ,kZ,nZ⟩:=Zay (m:=mF) (cs:=[.int .i64 0,.int .i64 0,.int .i64 0,.int .i64 0,.slice none 0 0,.int .i64 0]) (e:=38) rfl
  obtain⟨vx,hvx⟩:∃ bx,mF.next=bx:=⟨_,rfl⟩
  obtain⟨m4,e4,oV,kV⟩:=Zap (r:=_) rfl oZ (off:=0) (vs:=[.int .i64 o,.int .i64 xa,.int .i64 xbb,.int .i64 xn,.slice ao l.length l.length,.int .i64 xst]) (by simp) (by simp [Zau,Zai])
  simp [Zb5] at oV
  have k4:=kZ.fresh kV (by simp)
  rw [hvx] at oV nZ e4
  have v0:=oV.load1 (off:=0) rfl
  have v4:=oV.load1 (off:=4) rfl
  have v5:=oV.load1 (off:=5) rfl
  have vw:=oV.load (off:=0) 6 (by simp)
  simp [Za1] at vw
  have k34:=kF.trans k4
  have hC4:=hCF.keep0 k4
  have hU4:=hUF.keep k4 (by simp)
  clear oZ kZ kV
  by_cases c21:o=21
  ·rw [if_pos c21] at ha
   have hlp:=hphk c21
   have husl:∀ z∈l,(0:Int)≤z∧z < nv u:=fun z hz=>hus z (by rw [Zke,c21];simp [hz])
   have hra4:Za5 (fun _=>True) m4 ao l:=⟨fa,hra.keep k4 (by simp),fun _=>trivial⟩
   have hlb:l.length≤20000000000000:=by omega
   obtain⟨RP,hRP⟩:∃ R,Z4q u bl pl I l pr=R:=⟨_,rfl⟩
   rw [hRP] at ha
   have o21:o=21↔True:=by simp [c21]
   simp [-Int.natCast_add,Za Zbt,Zaa Zb3,Zac u36,Zab u36 sz3,Zaa ld3,Za Za3,Zaa Zd5,Zab u30 Ze8,Zao Zme,Zas Zqu,Zad Ze8,Za Zbv,Za Zhv,k1,km,hlt,lk0,c2,n2,hnn,ldx,hvx,e4,v0,v4,o21]
   refine Zaq 99 [99,108] (fun d2 E mG=>∃ (j:Nat),l.length - j=d2∧j≤l.length∧Z4q u bl pl I (l.drop j) (pr.drop j)=RP∧Zag m4 mG []∧
    E=[(0,.pointer (some ⟨cb,0,none⟩)),(1,.int .i64 (i:Int)),(5,.pointer (some ⟨bx,0,none⟩)),(6,.int .i64 vl.length),(24,.slice (some ⟨yb,0,none⟩) vl.length vl.length),(25,.int .i64 vl.length),(26,.int .i64 (k:Int)),(43,.slice ao l.length l.length),(44,.int .i64 l.length),(45,.int .i64 (j:Int))]) _ ⟨_,⟨0,rfl,by omega,by rw [List.drop_zero,List.drop_zero];exact hRP,.refl _ _,rfl⟩,⟨by rfl,by rfl,by rfl,by rfl,by rfl,by rfl,by rfl,by rfl,by rfl,by rfl,trivial⟩⟩ ?_
   rintro d2 E mG ih2 ⟨j,hd2,hj,hp,kG,rfl⟩
   have jm:(j:Int)≤9223372036854775807:=by omega
   by_cases hjt:j < l.length
   ·have j1:(j:Int) < l.length:=by omega
    have wj:IntKind.i64.wrap ((j:Int)+1)=((j+1:Nat):Int):=by rw [Zaf (by omega) (by omega)];omega
    have hjp:j < pr.length:=by omega
    have jp1:(j:Int) < pr.length:=by omega
    obtain⟨zb,rfl,lj⟩:=(hra4.keep kG (by simp)).get hjt
    obtain⟨qb,hqb,lq⟩:=((hpo3.keep k34 (by simp)).keep kG (by simp)).get hjp
    have hap:=husl _ (Za8 hjt)
    have hqp:=hpr _ (Za8 hjp)
    rw [Zco hjt,Zco hjp,Z4q] at hp
    obtain⟨aa,haa⟩:∃ k:Int,l.getD j 0=k:=⟨_,rfl⟩
    obtain⟨q,hq⟩:∃ k:Nat,pr.getD j 0=(k:Int):=⟨(pr.getD j 0).toNat,by omega⟩
    rw [haa] at lj hap hp
    rw [hq] at lq hqp hp
    rw [Int.toNat_natCast] at hp
    have hqn:q < nb u:=by omega
    have q1:(q:Int) < nb u:=by omega
    have q2:(q:Int)≤9223372036854775807:=by omega
    obtain⟨oN,kN,nN⟩:=Zay (m:=mG) (cs:=[.int .i64 aa]) (e:=3) rfl
    have hUG:=(hU4.keep kG (by simp))
    obtain⟨bb2,vo2,hbo2,hld⟩:=Z21 hUG hqn
    have ldv:=hld mG [] (.refl _ _) (by simp)
    have ldv3:=hld _ [] kN (by simp)
    have hCG:=hC4.keep0 kG
    have c3:=hCG.c.c.load1 (off:=3) rfl
    have c3N:=(hCG.keep0 kN).c.c.load1 (off:=3) rfl
    have oXG:=((oX.keep k34 (by simp)).keep kG (by simp))
    have x4:=oXG.load1 (off:=4) rfl
    have x4N:=(oXG.keep kN (by simp)).load1 (off:=4) rfl
    have lqN:=(((hpo3.keep k34 (by simp)).keep kG (by simp)).keep kN (by simp)).get hjp
    rw [hq] at lqN
    obtain⟨qb',hqb',lqN⟩:=lqN
    have tN:=Zkh (place:=((vlD u q).length:Int)) hN.seen hN.dominates (hCG.keep0 kN) hR hnb hnv (Z0l (Q:=Q) (m:=mG) aa) (by simp) (by intro v hv;simp at hv;subst hv;exact hap) hqn
    simp only [List.length_cons,List.length_nil,Nat.zero_add] at tN
    obtain⟨Z,hZ⟩:∃ Z,Zi4 u bl pl I q (vlD u q).length [aa]=Z:=⟨_,rfl⟩
    rw [hZ] at tN hp
    have hqe:qb'=qb:=by rw [hqb] at hqb';simpa using hqb'.symm
    rw [hqe] at lqN
    rw [hbo2] at c3 c3N
    rw [hqb] at x4 x4N
    have Kg:Zag m (mG.new [.int .i64 aa] 3) []:=((k3.trans k34).trans kG).trans kN
    cases Z
    ·have hPf:RP=false:=by rw [← hp];rfl
     have hRf:R=false:=by rw [hF,← ha,hPf];simp
     rw [hRf]
     simp [-Int.natCast_add,-List.getD_eq_getElem?_getD,Za Zbt,Za Zbl,Zaa Zgb,Zab u31 Zje,Za Zh8,Zaa Zb3,Zac u36,Zab u36 sz3,Zaa ld3,Zae u36 bs3 rfl,Za Zds,j1,jm,hjt,lj,hjp,c3,c3N,x4,x4N,lq,lqN,q2,hqn,ldv,ldv3,tN]
     exact Kg
    ·simp [-Int.natCast_add,-List.getD_eq_getElem?_getD,Za Zbt,Za Zbl,Zaa Zgb,Zab u31 Zje,Za Zh8,Zaa Zb3,Zac u36,Zab u36 sz3,Zaa ld3,Zae u36 bs3 rfl,Za Zds,j1,jm,hjt,lj,hjp,c3,c3N,x4,x4N,lq,lqN,q2,hqn,ldv,ldv3,tN,wj]
     exact ih2 _ _ _ _ ⟨j+1,rfl,by omega,by rw [← hp];rfl,kG.trans kN,rfl⟩ (by omega) ⟨by rfl,by rfl,by rfl,by rfl,by rfl,by rfl,by rfl,by rfl,by rfl,by rfl,trivial⟩
   clear ih2
   have j1:¬ (j:Int) < l.length:=by omega
   have hPt:RP=true:=by
    rw [← hp,List.drop_of_length_le (show l.length≤j by omega)];rfl
   rw [hPt,Bool.true_and] at ha
   simp [-Int.natCast_add,-List.getD_eq_getElem?_getD,j1,wk]
   exact ih _ _ _ _ ⟨k+1,rfl,by omega,ha,k34.trans kG,rfl⟩ (by omega) ⟨by rfl,by rfl,by rfl,by rfl,by rfl,by rfl,by rfl,trivial⟩
  ·rw [if_neg c21] at ha
   obtain⟨vU,m5,c5,⟨uo,uf,rfl,hru⟩,k5⟩:=Zpo (m:=m4) hN.uses hN.parts (op:=o) (a:=xa) (b:=xbb) (n:=xn) (st:=xst) hal (hra.keep k4 (by simp))
   have hul:=Znu o xa xbb l
   obtain⟨L,hL⟩:∃ L,Zg o xa xbb l=L:=⟨_,rfl⟩
   rw [hL] at hul c5 hru hus ha
   have hC5:=hC4.keep0 k5
   have hU5:=hU4.keep k5 (by simp)
   have t5:=Zkh (place:=(k:Int)) hN.seen hN.dominates hC5 hR hnb hnv ⟨uf,hru,fun _=>trivial⟩ (Q:=fun _=>True) (by omega) hus hi
   have lv5:=Zqd (m:=m5) hN.leaves o
   have lv4:=Zqd (m:=m4) hN.leaves o
   have oV5:=oV.keep k5 (by simp)
   have y0:=oV5.load1 (off:=0) rfl
   have y5:=oV5.load1 (off:=5) rfl
   have yw:=oV5.load (off:=0) 6 (by simp)
   simp [Za1] at yw
   obtain⟨T,hTe⟩:∃ T,Zi4 u bl pl I i k L=T:=⟨_,rfl⟩
   obtain⟨V,hV⟩:∃ V,lvs o=V:=⟨_,rfl⟩
   rw [hTe] at t5 ha
   rw [hV] at lv5 lv4 hlv ha
   have K5:Zag m m5 []:=(k3.trans k34).trans k5
   simp [-Int.natCast_add,-w54_14,Za Zbt,Zab u36 sz3,Zaa ld3,Za Za3,Zaa Zd5,Zab u30 Ze8,Zao Zme,Zas Zqu,Zad Ze8,Za Zbv,k1,km,hlt,lk0,c2,n2,hnn,ldx,hvx,e4,v0,c21]
   cases T
   ·have hRf:R=false:=by rw [hF,← ha];simp
    rw [hRf]
    simp [-Int.natCast_add,Zaa ld3,Zao Zme,Za Zbv,Za Zkq,vw,c5,t5]
    exact K5
   cases V
   ·simp [-Int.natCast_add,Zaa ld3,Zao Zme,Za Zbv,Za Zkq,vw,y0,c5,t5,lv5,wk]
    exact ih _ _ _ _ ⟨k+1,rfl,by omega,by rw [← ha];simp,k34.trans k5,rfl⟩ (by omega) ⟨by rfl,by rfl,by rfl,by rfl,by rfl,by rfl,by rfl,trivial⟩
   ·have hst2:=hlv rfl
    obtain⟨s,rfl⟩:∃ s:Nat,xst=(s:Int):=⟨xst.toNat,by omega⟩
    have hsn:s < ns u:=by omega
    rw [Int.toNat_natCast] at ha
    have hsS:=hT.st s hsn
    obtain⟨_,m6,c6,rfl,k6⟩:=Zkm (place:=(k:Int)) hN.seenState hN.seen hN.dominates hU5 hC5 hR hnb hnv hsn hns (Zid hsn).symm hsS.1 hsS.2 hi
    obtain⟨Z,hZ⟩:∃ Z,Zhr u bl pl I i k (stD u s)=Z:=⟨_,rfl⟩
    rw [hZ] at c6 ha
    cases Z
    ·have hRf:R=false:=by rw [hF,← ha];simp
     rw [hRf]
     simp [-Int.natCast_add,Zaa ld3,Zao Zme,Za Zbv,Za Zkq,vw,y0,y5,c5,t5,lv5,c6]
     exact K5.trans k6
    ·simp [-Int.natCast_add,Zaa ld3,Zao Zme,Za Zbv,Za Zkq,vw,y0,y5,c5,t5,lv5,c6,wk]
     exact ih _ _ _ _ ⟨k+1,rfl,by omega,by rw [← ha];simp,(k34.trans k5).trans k6,rfl⟩ (by omega) ⟨by rfl,by rfl,by rfl,by rfl,by rfl,by rfl,by rfl,trivial⟩
 ·clear ih
  have k1:¬ (k:Int) < vl.length:=by omega
  rw [List.drop_of_length_le (by omega),Zj7] at ha
  rw [← ha,Bool.true_and] at hF
  have hCF:=hC3.keep0 kF
  have hUF:=hU3.keep kF (by simp)
  have oXF:=oX.keep kF (by simp)
  have x1:=oXF.load1 (off:=1) rfl
  have x2:=oXF.load1 (off:=2) rfl
  have x5:=oXF.load1 (off:=5) rfl
  have KF:=k3.trans kF
  simp [-Int.natCast_add,-w54_18,Zaa ld3,Za Zhx,k1,x1]
  by_cases e2:en=2
  ·rw [if_pos e2] at hE
   rw [hF,hE]
   obtain⟨oN,kN,nN⟩:=Zay (m:=mF) (cs:=[.int .i64 cd]) (e:=3) rfl
   have hCN:=hCF.keep0 kN
   have tN:=Zkh (place:=(vl.length:Int)) hN.seen hN.dominates hCN hR hnb hnv (Z0l (Q:=Q) (m:=mF) cd) (by simp) (by intro v hv;simp at hv;subst hv;exact hcd e2) hi
   simp only [List.length_cons,List.length_nil,Nat.zero_add] at tN
   simp [-Int.natCast_add,Zaa ld3,Zae u36 bs3 rfl,Za Zr1,e2,x2,tN]
   exact KF.trans kN
  rw [if_neg e2] at hE
  by_cases e4:en=3
  ·rw [if_pos e4] at hE
   have hst2:(0:Int)≤st∧st < ns u:=hos e4
   obtain⟨s,rfl⟩:∃ s:Nat,st=(s:Int):=⟨st.toNat,by omega⟩
   have hsn:s < ns u:=by omega
   rw [Int.toNat_natCast] at hE
   rw [hF,hE]
   have hsS:=hT.st s hsn
   obtain⟨_,m6,c6,rfl,k6⟩:=Zkm (place:=(vl.length:Int)) hN.seenState hN.seen hN.dominates hUF hCF hR hnb hnv hsn hns (Zid hsn).symm hsS.1 hsS.2 hi
   simp [-Int.natCast_add,Zaa ld3,Za Zu4,e4,x5,c6]
   exact KF.trans k6
  rw [if_neg e4] at hE
  rw [hF,hE]
  simp [-Int.natCast_add,e2,e4]
  exact KF
end Go.Proofs.YtlogdohlcdhepaaDoor.base
end
section
set_option maxRecDepth 100000
namespace Go.Proofs.YtlogdohlcdhepaaDoor.base
open Go.Sh gen
def Z41 (l:List Int):Nat:=l.countP fun x=>decide (0≤x)
theorem Z2r {l:List Int}{k:Nat}{b:Int}(hk:k < l.length)(h:l.getD k 0 < 0)(hb:0≤b):Z41 (l.set k b)=Z41 l+1:=by
 unfold Z41
 induction l generalizing k with
 | nil=>simp at hk
 | cons a r ih =>
  cases k with
  | zero =>
   simp at h
   rw [List.set_cons_zero,List.countP_cons,List.countP_cons,if_pos (by simpa using hb),if_neg (by simpa using h)]
  | succ k =>
   rw [List.set_cons_succ,List.countP_cons,List.countP_cons,ih (by simpa using hk) (by simpa using h)]
   omega
structure Z3c (u:UnT.D)(n:Nat)(s:StS):Prop where
 lb:s.1.length=nv u
 lp:s.2.1.length=nv u
 ct:s.2.2.2=Z41 s.1
 le:∀ i < nv u,s.1.getD i 0 < n
theorem Zhc {u:UnT.D}{b k:Nat}{s s':StS}{v:Int}(h:Zg9 u b k s v=some s'):∃ n:Nat,v=(n:Int)∧n < nv u∧s.1.getD n 0 < 0∧s'=(s.1.set n b,s.2.1.set n k,Za9 (Zbd u v).1,s.2.2.2+1)∧
  ¬ (Za9 (Zbd u v).1 && !s.2.2.1=true∨(decide ((Zbd u v).1=1) != decide (b=0)) && Za9 (Zbd u v).1=true):=by
 unfold Zg9 at h
 split at h
 ·cases h
 ·rename_i h1
  split at h
  ·cases h
  ·rename_i h2
   simp only [Bool.or_eq_true,Bool.not_eq_true',decide_eq_true_eq,not_or] at h1
   obtain⟨h1,h3⟩:=h1
   have h1':Zcf v (nv u)=true:=by simpa using h1
   unfold Zcf at h1'
   simp only [Bool.and_eq_true,decide_eq_true_eq] at h1'
   refine⟨v.toNat,by omega,by omega,by omega,?_,by simpa using h2⟩
   simpa using h.symm
theorem Z3c.step {u:UnT.D}{N b k:Nat}{s s':StS}{v:Int}(hi:Z3c u N s)(hb:b < N)(h:Zg9 u b k s v=some s'):Z3c u N s':=by
 obtain⟨n,rfl,hn,hneg,rfl,_⟩:=Zhc h
 refine⟨by simpa using hi.lb,by simpa using hi.lp,?_,?_⟩
 ·dsimp only
  rw [Z2r (by rw [hi.lb];exact hn) hneg (by omega),hi.ct]
 ·intro i hiv
  dsimp only
  rw [Zbo _ _ _ _ (by rw [hi.lb];exact hn)]
  split
  ·omega
  ·exact hi.le i hiv
theorem Zt {u:UnT.D}{b k:Nat}{s s':StS}{v:Int}(hl:s.1.length=nv u∧s.2.1.length=nv u)(h:Zg9 u b k s v=some s'){i:Nat}(h0:0≤s.1.getD i 0):s'.1.getD i 0=s.1.getD i 0∧s'.2.1.getD i 0=s.2.1.getD i 0:=by
 obtain⟨n,rfl,hn,hneg,rfl,_⟩:=Zhc h
 dsimp only
 have hne:n≠i:=by intro e;rw [e] at hneg;omega
 rw [Zbo _ _ _ _ (by rw [hl.1];exact hn),if_neg hne,Zbo _ _ _ _ (by rw [hl.2];exact hn),if_neg hne]
 exact⟨rfl,rfl⟩
theorem Zwt {u:UnT.D}{N b:Nat}(hb:b < N){l:List Int}{k:Nat}{s s':StS}(hi:Z3c u N s)(h:Zep u b k l s=some s') :
  Z3c u N s'∧(∀ i,0≤s.1.getD i 0→s'.1.getD i 0=s.1.getD i 0∧s'.2.1.getD i 0=s.2.1.getD i 0)∧
  (∀ j < l.length,∃ n:Nat,l.getD j 0=(n:Int)∧n < nv u∧s'.1.getD n 0=b∧s'.2.1.getD n 0=((k+j:Nat):Int)):=by
 induction l generalizing k s with
 | nil =>
  rw [Zep,Option.some.injEq] at h
  subst h
  exact⟨hi,fun i _=>⟨rfl,rfl⟩,fun j hj=>by simp at hj⟩
 | cons v r ih =>
  rw [Zep] at h
  cases hv:Zg9 u b k s v with
  | none=>rw [hv] at h;cases h
  | some s1 =>
   rw [hv,Option.bind_some] at h
   have i1:=hi.step hb hv
   obtain⟨a1,a2,a3⟩:=ih i1 h
   have kp:=fun {i:Nat}=>Zt (i:=i) ⟨hi.lb,hi.lp⟩ hv
   refine⟨a1,fun i h0=>?_,fun j hj=>?_⟩
   ·have k1:=kp h0
    have k2:=a2 i (by rw [k1.1];exact h0)
    exact⟨k2.1.trans k1.1,k2.2.trans k1.2⟩
   ·cases j with
    | zero =>
     obtain⟨n,rfl,hn,hneg,e1,_⟩:=Zhc hv
     have e2:s1.1.getD n 0=b:=by rw [e1];dsimp only;rw [Zbo _ _ _ _ (by rw [hi.lb];exact hn),if_pos rfl]
     have e3:s1.2.1.getD n 0=k:=by rw [e1];dsimp only;rw [Zbo _ _ _ _ (by rw [hi.lp];exact hn),if_pos rfl]
     have k2:=a2 n (by rw [e2];omega)
     exact⟨n,rfl,hn,k2.1.trans e2,k2.2.trans e3⟩
    | succ j =>
     obtain⟨n,g1,g2,g3,g4⟩:=a3 j (by simpa using hj)
     exact⟨n,by simpa using g1,g2,g3,by rw [g4];omega⟩
theorem Zoi {u:UnT.D}{N:Nat}{bs:List Zf9.D}{b:Nat}{s s':StS}(hN:b+bs.length≤N)(hi:Z3c u N s)(h:Zdv u b bs s=some s') :
  Z3c u N s'∧(∀ i,0≤s.1.getD i 0→s'.1.getD i 0=s.1.getD i 0∧s'.2.1.getD i 0=s.2.1.getD i 0)∧
  (∀ (j:Nat) (x:Zf9.D),bs[j]?=some x→∀ q < List.length x.1,∃ n:Nat,(show List Int from x.1).getD q 0=(n:Int)∧n < nv u∧s'.1.getD n 0=((b+j:Nat):Int)∧s'.2.1.getD n 0=(q:Int)):=by
 induction bs generalizing b s with
 | nil =>
  rw [Zdv,Option.some.injEq] at h
  subst h
  exact⟨hi,fun i _=>⟨rfl,rfl⟩,fun j x hj=>by simp at hj⟩
 | cons y r ih =>
  rw [Zdv] at h
  cases hv:Zep u b 0 y.1 (s.1,s.2.1,true,s.2.2.2) with
  | none=>rw [hv] at h;cases h
  | some s1 =>
   rw [hv,Option.bind_some] at h
   rw [List.length_cons] at hN
   obtain⟨i1,i2,i3⟩:=Zwt (N:=N) (by omega) (s:=(s.1,s.2.1,true,s.2.2.2)) ⟨hi.lb,hi.lp,hi.ct,hi.le⟩ hv
   obtain⟨a1,a2,a3⟩:=ih (by omega) i1 h
   refine⟨a1,fun i h0=>?_,fun j x hj q hq=>?_⟩
   ·have k1:=i2 i h0
    have k2:=a2 i (by rw [k1.1];exact h0)
    exact⟨k2.1.trans k1.1,k2.2.trans k1.2⟩
   ·cases j with
    | zero =>
     simp at hj
     subst hj
     obtain⟨n,g1,g2,g3,g4⟩:=i3 q hq
     have k2:=a2 n (by rw [g3];omega)
     exact⟨n,g1,g2,k2.1.trans (by rw [g3,Nat.add_zero]),k2.2.trans (by rw [g4,Nat.zero_add])⟩
    | succ j =>
     obtain⟨n,g1,g2,g3,g4⟩:=a3 j x (by simpa using hj) q hq
     exact⟨n,g1,g2,by rw [g3];omega,g4⟩
structure Zld (u:UnT.D)(bl pl:List Int):Prop where
 lb:bl.length=nv u
 lp:pl.length=nv u
 bb:∀ i < nv u,0≤bl.getD i 0∧bl.getD i 0 < nb u
 at_:∀ b < nb u,∀ q < (vlD u b).length,∃ n:Nat,(vlD u b).getD q 0=(n:Int)∧n < nv u∧bl.getD n 0=(b:Int)∧pl.getD n 0=(q:Int)
theorem Zh9 {u:UnT.D}{s:StS}(h:Zdt u=some s):Zld u s.1 s.2.1:=by
 unfold Zdt at h
 cases hB:Zdv u 0 u.2.2.2.1 (List.replicate (nv u) (-1),List.replicate (nv u) 0,true,0) with
 | none=>rw [hB] at h;cases h
 | some s1 =>
  rw [hB] at h
  have h2:=(Option.filter_eq_some_iff.1 h)
  obtain⟨h3,h4⟩:=h2
  simp only [Option.some.injEq] at h3
  subst h3
  have i0:Z3c u (nb u) (List.replicate (nv u) (-1),List.replicate (nv u) 0,true,0):=by
   refine⟨by simp,by simp,?_,fun i hi=>?_⟩
   ·simp [Z41,List.countP_replicate]
   ·dsimp only
    rw [List.getD_eq_getElem?_getD,List.getElem?_replicate,if_pos hi]
    simp
    omega
  obtain⟨a1,_,a3⟩:=Zoi (N:=nb u) (by rw [Nat.zero_add];exact Nat.le_refl _) i0 hB
  have hc:Z41 s1.1=s1.1.length:=by rw [a1.lb,← a1.ct];simpa using h4
  refine⟨a1.lb,a1.lp,fun i hi=>⟨?_,a1.le i hi⟩,fun b hb q hq=>?_⟩
  ·have:=List.countP_eq_length.1 hc
   have:=this (s1.1.getD i 0) (Za8 (by rw [a1.lb];exact hi))
   simpa using this
  ·have e:vlD u b=(u.2.2.2.1[b]).1:=congrArg (fun x:Zf9.D=>x.1) (Zcz hb)
   rw [e] at hq ⊢
   have:=a3 b _ (List.getElem?_eq_getElem hb) q hq
   rw [Nat.zero_add] at this
   exact this
end Go.Proofs.YtlogdohlcdhepaaDoor.base
end
section
set_option maxRecDepth 100000
namespace Go.Proofs.YtlogdohlcdhepaaDoor.base
open Go.Sh gen
structure Zv0 (u:UnT.D):Prop where
 b:∀ b∈u.2.2.2.1,List.length b.1≤20000000000000∧List.length b.2.2.2.1≤20000000000000∧List.length b.2.2.2.2.1≤20000000000000
 s:∀ s∈u.2.2.2.2.1,List.length s.1≤20000000000000∧∀ f∈s.1,List.length f.2.2.1≤20000000000000∧List.length f.2.2.2.1≤20000000000000
 v:∀ v∈u.2.2.1,List.length v.2.2.2.2.1 * 8≤140737488351232
def Zjm (u:UnT.D):Bool:=!decide (3000 < nv u) && !decide (300 < nb u) && !decide (1000 < ns u) && !decide (nb u=0)
def Zwq (u:UnT.D):Bool:=Zfb (fun i=>Zfa u (stD u i)) 0 (ns u)
def Zub (u:UnT.D)(bl:List Int):Bool:=Zfb (Zx3 u bl) 0 (nv u)
def Zrb (u:UnT.D):Bool:=Zfb (fun i=>Znz u (Zbx u i)) 0 (nb u)
def Zq3 (u:UnT.D):Bool:=Zfb (Z3g u) 0 (nb u)
theorem Z2t {p:Nat→Bool}{i d:Nat}:Zfb p i d=true↔∀ k,i≤k→k < i+d→p k=true:=by
 induction d generalizing i with
 | zero=>simp [Zfb];intro k h1 h2;omega
 | succ d ih =>
  rw [Zfb,Bool.and_eq_true,ih]
  constructor
  ·rintro⟨h1,h2⟩ k hk1 hk2
   by_cases e:k=i
   ·rw [e];exact h1
   ·exact h2 k (by omega) (by omega)
  ·intro h
   exact⟨h i (by omega) (by omega),fun k h1 h2=>h k (by omega) (by omega)⟩
theorem Zf5 {p:Nat→Bool}{n:Nat}:Zfb p 0 n=true↔∀ k < n,p k=true:=by
 rw [Z2t]
 exact⟨fun h k hk=>h k (by omega) (by omega),fun h k _ hk=>h k (by omega)⟩
theorem Zc6 {k n:Int}:Zcf k n=true↔0≤k∧k < n:=by
 unfold Zcf;simp only [Bool.and_eq_true,decide_eq_true_eq]
theorem Zg2 {u:UnT.D}{l:List Int}(h:Zcm u l=true):∀ z∈l,(0:Int)≤z∧z < nv u:=by
 intro z hz
 unfold Zcm at h
 have:=List.all_eq_true.1 h z hz
 rw [Bool.and_eq_true] at this
 exact Zc6.1 this.1
theorem Zkp {u:UnT.D}{i:Nat}(h:i < nb u):Zbx u i∈u.2.2.2.1:=by rw [Zcz h];exact List.getElem_mem h
theorem Zu8 {u:UnT.D}{i:Nat}(h:i < nv u):Zbd u (i:Int)∈u.2.2.1:=by rw [Zgs h];exact List.getElem_mem h
theorem Zj4 {u:UnT.D}{b:Zf9.D}(h:Znz u b=true):(∀ k∈(show List Int from b.2.2.2.1),(0:Int)≤k∧k < nb u)∧
  ((b.2.1=1∧List.length b.2.2.2.1=1)∨(b.2.1=2∧List.length b.2.2.2.1=2∧Zcm u [(show Int from b.2.2.1)]=true)∨(b.2.1=3∧List.length b.2.2.2.1=0∧(0:Int)≤b.2.2.2.2.2.1∧(show Int from b.2.2.2.2.2.1) < ns u)):=by
 unfold Znz at h
 rw [Bool.and_eq_true] at h
 obtain⟨h1,h2⟩:=h
 refine⟨fun k hk=>Zc6.1 (List.all_eq_true.1 h1 k hk),?_⟩
 split at h2
 ·rename_i e;exact Or.inl ⟨e,of_decide_eq_true h2⟩
 ·split at h2
  ·rename_i e
   rw [Bool.and_eq_true] at h2
   exact Or.inr (Or.inl ⟨e,of_decide_eq_true h2.1,h2.2⟩)
  ·split at h2
   ·rename_i e
    rw [Bool.and_eq_true] at h2
    exact Or.inr (Or.inr ⟨e,of_decide_eq_true h2.1,Zc6.1 h2.2⟩)
   ·cases h2
theorem Zpn {u:UnT.D}(h:Zrb u=true):Zvc u:=by
 intro b hb
 obtain⟨i,hi,rfl⟩:=List.mem_iff_getElem.1 hb
 have:=Zf5.1 h i hi
 rw [Zcz hi] at this
 obtain⟨h1,h2⟩:=Zj4 this
 refine⟨?_,h1⟩
 rcases h2 with h2 | h2 | h2 <;> omega
theorem Zz {u:UnT.D}(h:Zq3 u=true)(hb:0 < nb u):∀ k < nb u,(Zaz u).getD k []=prD u k∧(k=0→prD u k=[]):=by
 intro k hk
 have h0:=Zf5.1 h 0 hb
 unfold Z3g at h0
 rw [Bool.and_eq_true] at h0
 have h1:Zfb (Z2h u) 0 (nb u)=true:=by simpa using h0.1
 have h2:=Zf5.1 h1 k hk
 unfold Z2h at h2
 rw [Bool.and_eq_true] at h2
 have e:(Zaz u).getD k []=prD u k:=by
  have:=h2.1
  unfold eqF at this
  exact of_decide_eq_true this
 refine⟨e,fun k0=>?_⟩
 have h3:=h2.2
 rw [e] at h3
 simp [k0] at h3
 rw [k0];exact h3
theorem Zq9 {u:UnT.D}(h:Zjm u=true):nv u≤3000∧nb u≤300∧ns u≤1000∧0 < nb u:=by
 unfold Zjm at h
 rw [Bool.and_eq_true,Bool.and_eq_true,Bool.and_eq_true] at h
 obtain⟨⟨⟨h1,h2⟩,h3⟩,h4⟩:=h
 have g1:¬ 3000 < nv u:=fun e=>by rw [decide_eq_true e] at h1;cases h1
 have g2:¬ 300 < nb u:=fun e=>by rw [decide_eq_true e] at h2;cases h2
 have g3:¬ 1000 < ns u:=fun e=>by rw [decide_eq_true e] at h3;cases h3
 have g4:¬ nb u=0:=fun e=>by rw [decide_eq_true e] at h4;cases h4
 exact⟨Nat.not_lt.1 g1,Nat.not_lt.1 g2,Nat.not_lt.1 g3,Nat.pos_of_ne_zero g4⟩
theorem Zrh {u:UnT.D}(h:Zjm u=true):0 < nb u:=(Zq9 h).2.2.2
theorem Z0a {u:UnT.D}(hz:Zv0 u)(hsb:Zjm u=true)(hst:Zwq u=true){s:StS}(hs:Zdt u=some s)(hv:Zub u s.1=true)(he:Zrb u=true)(hl:Zq3 u=true):Yb8 u:=by
 have hS:=Zh9 hs
 have hb0:0 < nb u:=Zrh hsb
 have hvv:∀ n < nv u,Zx3 u s.1 n=true:=Zf5.1 hv
 refine⟨fun i hi=>⟨(hz.b _ (Zkp hi)).1,fun n hn=>?_⟩,fun i hi p hp=>?_,fun n hn=>?_,fun n hn=>hz.v _ (Zu8 hn),fun i hi n hn h21=>?_,fun n hn hlv=>?_,fun k hk=>?_,fun i hi h2=>?_,fun i hi h3=>?_⟩
 ·obtain⟨q,hq,rfl⟩:=List.mem_iff_getElem.1 hn
  obtain⟨x,h1,h2,_⟩:=hS.at_ i hi q hq
  rw [List.getD_eq_getElem?_getD,List.getElem?_eq_getElem hq] at h1
  have h1':(vlD u i)[q]=(x:Int):=h1
  rw [h1'];omega
 ·rw [← (Zz hl hb0 i hi).1] at hp
  exact Zk6 u i p hp
 ·have:=hvv n hn
  unfold Zx3 at this
  rw [Bool.and_eq_true,Bool.and_eq_true,Bool.and_eq_true] at this
  exact Zg2 this.1.1.2
 ·obtain⟨q,hq,rfl⟩:=List.mem_iff_getElem.1 hn
  obtain⟨x,h1,h2,h4,_⟩:=hS.at_ i hi q hq
  rw [List.getD_eq_getElem?_getD,List.getElem?_eq_getElem hq] at h1
  have h1':(vlD u i)[q]=(x:Int):=h1
  rw [h1'] at h21 ⊢
  have:=hvv x h2
  unfold Zx3 at this
  rw [Bool.and_eq_true,if_neg (by rw [h21];decide),if_pos h21,h4] at this
  have:=of_decide_eq_true this.2
  rw [this]
  unfold Zsm
  rw [Int.toNat_natCast]
 ·have:=hvv n hn
  unfold Zx3 at this
  rw [Bool.and_eq_true,Bool.and_eq_true,hlv] at this
  exact Zc6.1 (by simpa using this.1.2)
 ·have:=Zf5.1 hst k hk
  unfold Zfa at this
  simp only [Bool.and_eq_true,Bool.not_eq_true',decide_eq_false_iff_not] at this
  obtain⟨⟨h1,h2⟩,h3⟩:=this
  refine⟨by omega,fun f hf=>?_⟩
  have:=List.all_eq_true.1 h3 f hf
  unfold Zlh at this
  simp only [Bool.and_eq_true,Bool.not_eq_true',decide_eq_false_iff_not] at this
  obtain⟨⟨⟨g1,g2⟩,g3⟩,g4⟩:=this
  exact⟨by omega,by omega,Zg2 g3,Zg2 g4⟩
 ·obtain⟨_,g⟩:=Zj4 (Zf5.1 he i hi)
  rcases g with⟨g1,_⟩ | ⟨_,_,g⟩ | ⟨g1,_⟩
  ·rw [g1] at h2;exact absurd h2 (by decide)
  ·exact Zg2 g _ (by simp)
  ·rw [g1] at h2;exact absurd h2 (by decide)
 ·obtain⟨_,g⟩:=Zj4 (Zf5.1 he i hi)
  rcases g with⟨g1,_⟩ | ⟨g1,_⟩ | ⟨_,_,g⟩
  ·rw [g1] at h3;exact absurd h3 (by decide)
  ·rw [g1] at h3;exact absurd h3 (by decide)
  ·exact g
end Go.Proofs.YtlogdohlcdhepaaDoor.base
end
section
set_option maxRecDepth 100000
namespace Go.Proofs.YtlogdohlcdhepaaDoor.base
open Go.Sh gen
variable {S:Zc}{m:Mem}
def Zob (u:UnT.D):Option StS:=
 if Zjm u && Zwq u then (Zdt u).filter fun s=>Zub u s.1 && Zrb u && Zq3 u else none
def Zj9 (u:UnT.D)(O I:List Int):Bool:=match Zob u with
 | none=>false
 | some s=>decide (O.length=nb u) && Zfb (Zll u s.1 s.2.1 I) 0 (nb u)
structure Z14 (u:UnT.D)(O I:List Int):Prop where
 ord:∃ D O',Zl6 u D (Zqs u)=some O'∧O'.reverse=O
 on:O.length=nb u→∀ x∈O,(0:Int)≤x∧x < nb u
 dom:O.length=nb u→∃ J D2 I',Ybw u (Zg8 (nb u) O) (O.drop 1) J∧J 0 ((List.replicate (nb u) (-1)).set 0 0)∧Zgz u (Zg8 (nb u) O) (O.drop 1) D2 ((List.replicate (nb u) (-1)).set 0 0,true)=some I'∧I=I'.set 0 (-1)
 ii:O.length=nb u→I.length=nb u∧∀ x < nb u,I.getD x 0 < nb u
 up:O.length=nb u→∀ (a:Int) (b:Nat),b < nb u→∃ d,d < nb u+2∧Zlj I a d b=some (upF I a (nb u+2) b)
structure Nk (S:Zc):Prop where
 check:S 22=[]
 all:S 46=[]
 state:S 47=[]
 stand:S 48=[]
 ends:S 50=[]
 om:S 52=[]
 c:Nc S
 l:Nl S
 d:Nd S
 t:Nt S
theorem Z8j (hN:Nk S){Q:Nat→Prop}{u:UnT.D}{vo bo so:Option Addr}(hU:UAt Q m u vo bo so)(hQ:∀ f,Q f→f < m.next)(hb0:0 < nb u)(hnb:nb u≤1000)(hnx:Zvc u)
  {D:Nat} {O:List Int} (hO:Zl6 u D (Zqs u)=some O) {cb cf:Nat} {r1 r2 r3:Value} (hC:Own m cb (ckC u vo bo so r1 r2 r3) 99 cf) :
  ∃ v m1,Zal Tryd.prog TT S 52 [.pointer (some ⟨cb,0,none⟩)] m=some (v,m1)∧Ycb m m1 O.reverse v∧Zag m m1 []:=by
 have lu:=hC.load (off:=0) 5 (by simp)
 simp [Za1] at lu
 have hcu:(Zcj u vo bo so).toArray=#[.int .i64 u.1,.int .i64 u.2.1,.slice vo (nv u) (nv u),.slice bo (nb u) (nb u),.slice so (ns u) (ns u)]:=rfl
 obtain⟨v,m1,c1,p1,k1⟩:=Zst hN.d.order hN.d.below hN.d.rev hU hQ hb0 hnb hnx hO
 rw [hcu] at c1
 refine Zfz 3 [] k52 hN.om rfl ?_
 simp [-Int.natCast_add,-List.map_reverse,Za Zbt,Zao Z1m,lu,c1]
 exact⟨p1,k1⟩
set_option maxHeartbeats 16000000 in
theorem Zyo (hN:Nk S){Q:Nat→Prop}{u:UnT.D}{vo bo so:Option Addr}(hU:UAt Q m u vo bo so)(hQ:∀ f,Q f→f < m.next)(hz:Zv0 u)(hzv:nv u≤20000000000000)(hzb:nb u≤20000000000000)(hzs:ns u≤20000000000000){O I:List Int}(hT:∀ s,Zob u=some s→Z14 u O I) :
  ∃ v m1,Zal Tryd.prog TT S 22 [.agg (Zcj u vo bo so).toArray] m=some (v,m1)∧v=.bool (Zj9 u O I)∧Zag m m1 []:=by
 obtain⟨oU,kU,nU⟩:=Zay (m:=m) (cs:=Zcj u vo bo so) (e:=34) rfl
 obtain⟨mB,hmB⟩:∃ mB,m.new (Zcj u vo bo so) 34=mB:=⟨_,rfl⟩
 obtain⟨ub,hub⟩:∃ ub,m.next=ub:=⟨_,rfl⟩
 rw [hmB,hub] at oU nU
 rw [hmB] at kU
 have u2:=oU.load1 (off:=2) rfl
 have u3:=oU.load1 (off:=3) rfl
 have u4:=oU.load1 (off:=4) rfl
 have lu:=oU.load (off:=0) 5 (by simp)
 simp [Za1] at lu
 obtain⟨R,hR⟩:∃ R,Zj9 u O I=R:=⟨_,rfl⟩
 rw [hR]
 have hno:Zob u=none→R=false:=fun h=>by rw [← hR];unfold Zj9;rw [h]
 refine Zfz 5 [26,72,80] k22 hN.check rfl ?_
 have hcu:(Zcj u vo bo so).toArray=#[.int .i64 u.1,.int .i64 u.2.1,.slice vo (nv u) (nv u),.slice bo (nb u) (nb u),.slice so (ns u) (ns u)]:=rfl
 by_cases q1:3000 < nv u
 ·have q1':(3000:Int) < nv u:=by omega
  have:R=false:=hno (by unfold Zob Zjm;simp [q1])
  rw [this]
  simp [-Int.natCast_add,Zdh b34,Za Za3,Zaa Zd5,Zac u30,Za Zbl,Zaa Zgb,Zac u31,Za Zdb,Zaa Zmv,Zac u32,hmB,hub,u2,q1']
  exact kU
 have q1':¬ (3000:Int) < nv u:=by omega
 by_cases q2:300 < nb u
 ·have q2':(300:Int) < nb u:=by omega
  have:R=false:=hno (by unfold Zob Zjm;simp [q2])
  rw [this]
  simp [-Int.natCast_add,Zdh b34,Za Za3,Zaa Zd5,Zac u30,Za Zbl,Zaa Zgb,Zac u31,Za Zdb,Zaa Zmv,Zac u32,hmB,hub,u2,u3,q1',q2']
  exact kU
 have q2':¬ (300:Int) < nb u:=by omega
 by_cases q3:1000 < ns u
 ·have q3':(1000:Int) < ns u:=by omega
  have:R=false:=hno (by unfold Zob Zjm;simp [q3])
  rw [this]
  simp [-Int.natCast_add,Zdh b34,Za Za3,Zaa Zd5,Zac u30,Za Zbl,Zaa Zgb,Zac u31,Za Zdb,Zaa Zmv,Zac u32,hmB,hub,u2,u3,u4,q1',q2',q3']
  exact kU
 have q3':¬ (1000:Int) < ns u:=by omega
 by_cases q4:nb u=0
 ·have:R=false:=hno (by unfold Zob Zjm;simp [q4])
  rw [this]
  simp [-Int.natCast_add,Zdh b34,Za Za3,Zaa Zd5,Zac u30,Za Zbl,Zaa Zgb,Zac u31,Za Zdb,Zaa Zmv,Zac u32,hmB,hub,u2,u3,u4,q1',q3',q4]
  exact kU
 have q4':¬ (nb u:Int)=0:=by omega
 have hsz:Zjm u=true:=by unfold Zjm;rw [decide_eq_false q1,decide_eq_false q2,decide_eq_false q3,decide_eq_false q4];rfl
 obtain⟨oK,kK,nK⟩:=Zay (m:=mB) (cs:=ckC u vo bo so (.slice none 0 0) (.slice none 0 0) (.slice none 0 0)) (e:=99) rfl
 obtain⟨mK,hmK⟩:∃ mZ,mB.new (ckC u vo bo so (.slice none 0 0) (.slice none 0 0) (.slice none 0 0)) 99=mZ:=⟨_,rfl⟩
 obtain⟨cb,hcb⟩:∃ ub,mB.next=ub:=⟨_,rfl⟩
 rw [hmK,hcb] at oK nK
 rw [hmK] at kK
 have KK:=kU.trans kK
 have hUK:=hU.keep KK (by simp)
 have hQK:∀ f,Q f→f < cb:=fun f hf=>by have:=hQ f hf;omega
 have hqc:¬ Q cb:=fun h=>by have:=hQK _ h;omega
 have oUK:=oU.keep kK (by simp)
 have uK4:=oUK.load1 (off:=4) rfl
 simp [-Int.natCast_add,-w22_4,Zdh b34,Za Za3,Zaa Zd5,Zac u30,Za Zbl,Zaa Zgb,Zac u31,Za Zdb,Zaa Zmv,Zac u32,Zao Z1m,Za2 Ydc,Zdh b99,hmB,hub,u2,u3,u4,q1',q2',q3',q4,lu,hmK,hcb]
 clear u2 u3 u4 lu
 have ubc:ub≠cb:=by omega
 obtain⟨_,m1,c1,rfl,k1⟩:=Zne (m:=mK) (g:=47) (cb:=cb) (n:=ns u) hN.all (by omega) (fun i=>Zfa u (stD u i)) (fun i mF hi kF=>by
  obtain⟨_,mG,cG,rfl,kG⟩:=Zy7 hN.state hN.c.there hN.c.below (hUK.keep kF (by simp)) (by omega) (oK.keep kF (by simp)) hi (by omega) (Zid hi).symm (by rw [Zid hi];exact (hz.s _ (List.getElem_mem hi)).1) (by rw [Zid hi];exact (hz.s _ (List.getElem_mem hi)).2)
  exact⟨mG,cG,kG⟩)
 have hst:Zwq u=Zfb (fun i=>Zfa u (stD u i)) 0 (ns u):=rfl
 rw [← hst] at c1
 have K1:=KK.trans k1
 cases hsa:Zwq u
 ·rw [hsa] at c1
  have:R=false:=hno (by unfold Zob;rw [hsa];simp)
  rw [this]
  simp [-Int.natCast_add,Za Za3,Zaa Zd5,Zac u30,Za Zbl,Zaa Zgb,Zac u31,Za Zdb,Zaa Zmv,Zac u32,uK4,c1]
  exact K1
 rw [hsa] at c1
 have o1:=oK.keep k1 (by simp)
 have hU1:=hU.keep K1 (by simp)
 obtain⟨_,m2,c2,⟨rfl,hst2⟩,k2⟩:=Zyh hN.stand hN.c.below hU1 (fun f hf=>by have:=hQ f hf;have:=K1.1;omega) (by omega) (by omega) o1 hqc (fun b hb=>(hz.b b hb).1)
 have K2:Zag m m2 []:=K1.fresh k2 (by simp;omega)
 cases hsf:Zdt u with
 | none =>
  rw [hsf] at c2
  have:R=false:=hno (by unfold Zob;rw [hsf];simp)
  rw [this]
  simp [-Int.natCast_add,Za Za3,Zaa Zd5,Zac u30,Za Zbl,Zaa Zgb,Zac u31,Za Zdb,Zaa Zmv,Zac u32,uK4,c1,c2]
  exact K2
 | some s =>
  rw [hsf] at c2
  obtain⟨b1,b2,f1,f2,C2,hf1,hf2⟩:=hst2 s hsf
  have hSo:=Zh9 hsf
  have oU2:=(oUK.keep k1 (by simp)).keep k2 (by simp;omega)
  have uu2:=oU2.load1 (off:=2) rfl
  have hU2:=hU.keep K2 (by simp)
  obtain⟨_,m3,c3,rfl,k3⟩:=Zne (m:=m2) (g:=49) (cb:=cb) (n:=nv u) hN.all (by omega) (Zx3 u s.1) (fun i mF hi kF=>by
   obtain⟨_,mG,cG,rfl,kG⟩:=Z6j hN.c (hU2.keep kF (by simp)) (by omega) (by omega) (by omega) (C2.keep0 kF) hSo.lb hSo.bb hi (hz.v _ (Zu8 hi))
   exact⟨mG,cG,kG⟩)
  have hvl:Zub u s.1=Zfb (Zx3 u s.1) 0 (nv u):=rfl
  rw [← hvl] at c3
  have K3:=K2.trans k3
  cases hva:Zub u s.1
  ·rw [hva] at c3
   have:R=false:=hno (by unfold Zob;rw [hsf,hsz,hsa];simp [Option.filter,hva])
   rw [this]
   simp [-Int.natCast_add,Za Za3,Zaa Zd5,Zac u30,Za Zbl,Zaa Zgb,Zac u31,Za Zdb,Zaa Zmv,Zac u32,uK4,c1,c2,uu2,c3]
   exact K3
  rw [hva] at c3
  have oU3:=oU2.keep k3 (by simp)
  have uu3:=oU3.load1 (off:=3) rfl
  have hU3:=hU.keep K3 (by simp)
  have C3:=C2.keep0 k3
  obtain⟨_,m4,c4,rfl,k4⟩:=Zne (m:=m3) (g:=50) (cb:=cb) (n:=nb u) hN.all (by omega) (fun i=>Znz u (Zbx u i)) (fun i mF hi kF=>by
   obtain⟨_,mG,cG,rfl,kG⟩:=Z20 hN.ends hN.c.there hN.c.below (hU3.keep kF (by simp)) (by omega) (by omega) ((C3.keep0 kF).c) hi (Zcz hi).symm (hz.b _ (Zkp hi)).2.1
   exact⟨mG,cG,kG⟩)
  have hel:Zrb u=Zfb (fun i=>Znz u (Zbx u i)) 0 (nb u):=rfl
  rw [← hel] at c4
  have K4:=K3.trans k4
  cases hea:Zrb u
  ·rw [hea] at c4
   have:R=false:=hno (by unfold Zob;rw [hsf,hsz,hsa];simp [Option.filter,hva,hea])
   rw [this]
   simp [-Int.natCast_add,Za Za3,Zaa Zd5,Zac u30,Za Zbl,Zaa Zgb,Zac u31,Za Zdb,Zaa Zmv,Zac u32,uK4,c1,c2,uu2,c3,uu3,c4]
   exact K4
  rw [hea] at c4
  have oU4:=oU3.keep k4 (by simp)
  have vv3:=oU4.load1 (off:=3) rfl
  have hU4:=hU.keep K4 (by simp)
  have C4:=C3.keep0 k4
  have hnx:=Zpn hea
  obtain⟨_,m5,c5,rfl,k5⟩:=Zne (m:=m4) (g:=51) (cb:=cb) (n:=nb u) hN.all (by omega) (Z3g u) (fun i mF hi kF=>by
   obtain⟨_,mG,cG,rfl,kG⟩:=Z5m hN.l (hU4.keep kF (by simp)) (fun f hf=>by have:=hQ f hf;have:=K4.1;have:=kF.1;omega) (by omega) hnx (fun b hb=>(hz.b b hb).2.2) ((C4.keep0 kF).c) hi
   exact⟨mG,cG,kG⟩)
  have hll:Zq3 u=Zfb (Z3g u) 0 (nb u):=rfl
  rw [← hll] at c5
  have K5:=K4.trans k5
  cases hla:Zq3 u
  ·rw [hla] at c5
   have:R=false:=hno (by unfold Zob;rw [hsf,hsz,hsa];simp [Option.filter,hva,hea,hla])
   rw [this]
   simp [-Int.natCast_add,Za Za3,Zaa Zd5,Zac u30,Za Zbl,Zaa Zgb,Zac u31,Za Zdb,Zaa Zmv,Zac u32,uK4,c1,c2,uu2,c3,uu3,c4,vv3,c5]
   exact K5
  rw [hla] at c5
  have hpre:Zob u=some s:=by unfold Zob;rw [hsf,hsz,hsa];simp [Option.filter,hva,hea,hla]
  simp [-Int.natCast_add,-w22_6,Za Za3,Zaa Zd5,Zac u30,Za Zbl,Zaa Zgb,Zac u31,Za Zdb,Zaa Zmv,Zac u32,uK4,c1,c2,uu2,c3,uu3,c4,vv3,c5]
  clear c1 c2 c3 c4 c5 uK4 uu2 uu3 vv3
  have oU5:=oU4.keep k5 (by simp)
  have hU5:=hU.keep K5 (by simp)
  have C5:=C4.keep0 k5
  have hTm:=hT s hpre
  obtain⟨D,O',hO',hOO⟩:=hTm.ord
  obtain⟨vO,m6,c6,⟨po,pf,rfl,_,_⟩,k6⟩:=Z8j (O:=O') hN hU5 (fun f hf=>by have:=hQ f hf;have:=K5.1;omega) (by omega) (by omega) hnx hO' C5.c
  rw [hOO] at c6
  have oU6:=oU5.keep k6 (by simp)
  have w3:=oU6.load1 (off:=3) rfl
  have wu:=oU6.load (off:=0) 5 (by simp)
  simp [Za1] at wu
  have hU6:=hU5.keep k6 (by simp)
  have C6:=C5.keep0 k6
  have K6:=K5.trans k6
  by_cases hOl:O.length=nb u
  case neg =>
   have hOl':¬ (O.length:Int)=nb u:=by omega
   have:R=false:=by rw [← hR];unfold Zj9;rw [hpre];simp [hOl]
   rw [this]
   simp [-Int.natCast_add,Za Zbl,Zaa Zgb,Zac u31,Zac u36,c6,w3,hOl']
   exact K6
  have hOl':(O.length:Int)=nb u:=by omega
  have hOle:((O.length:Int)=nb u)↔True:=by simp [hOl']
  obtain⟨J,D2,I',hJ,hJ0,hD,hI⟩:=hTm.dom hOl
  obtain⟨hIl,hIi⟩:=hTm.ii hOl
  obtain⟨vD,m7,c7,⟨ix,rfl,hix,hixm⟩,k7⟩:=Z6q hN.d hU6 (fun f hf=>by have:=hQ f hf;have:=K6.1;omega) (by omega) (by omega) hnx hO' hOO (hTm.on hOl) (fun e=>by rw [e] at hOl;simp at hOl;omega) (by omega) rfl hJ hJ0 hD
  rw [← hI] at hix
  rw [hcu] at c7
  have K7:=K6.trans k7
  have C7:=C6.keep0 k7
  have cb6:cb < m6.next:=C6.c.flt
  obtain⟨m8,e8,o8,k8⟩:=Zap (r:=_) rfl C7.c (off:=7) (vs:=[.slice (some ⟨ix,0,none⟩) (nb u) (nb u)]) (by simp) (by simp [Zai])
  simp [Zb5] at o8
  have K8:Zag m m8 []:=K7.fresh k8 (by simp;omega)
  have C8:Ck3 m8 u vo bo so cb cb b1 b2 f1 f2 ix s.1 s.2.1 I:=⟨⟨C7.o1.keep k8 (by simpa using C7.n2),C7.o2.keep k8 (by simpa using C7.n3),o8,C7.n1,C7.n2,C7.n3⟩,hix.keep k8 (by simp;omega)⟩
  have hU8:=hU.keep K8 (by simp)
  have oU8:=(oU6.keep k7 (by simp)).keep k8 (by simp;omega)
  have x3:=oU8.load1 (off:=3) rfl
  have hRk:Rok u s.1 s.2.1 I:=⟨hSo.lb,hSo.lp,hIl,hSo.bb,hIi,hTm.up hOl⟩
  have hTk:=Z0a hz hsz hsa hsf hva hea hla
  obtain⟨_,m9,c9,rfl,k9⟩:=Zne (m:=m8) (g:=54) (cb:=cb) (n:=nb u) hN.all (by omega) (Zll u s.1 s.2.1 I) (fun i mF hi kF=>by
   obtain⟨_,mG,cG,rfl,kG⟩:=Z1k hN.t (hU8.keep kF (by simp)) (C8.keep0 kF) hRk (by omega) (by omega) (by omega) hTk hi
   exact⟨mG,cG,kG⟩)
  have hfin:R=Zfb (Zll u s.1 s.2.1 I) 0 (nb u):=by rw [← hR];unfold Zj9;rw [hpre];simp [hOl]
  rw [← hfin] at c9
  simp [-Int.natCast_add,Za Zbl,Zaa Zgb,Zac u31,Zao Z1m,Zac u36,Za Z4z,Zad Zgt,c6,w3,hOle,wu,c7,e8,x3,c9]
  exact K8.trans k9
end Go.Proofs.YtlogdohlcdhepaaDoor.base
end
