/- This text proves that turnstonehand.BentUnit answers with some unit, at any small one, Zbx the abstract run. Condition: nothing is known of the calls ahead ('S f = []'). -/
import Derived.Test.YtcgmchechmbmeaaDoorM23
import Derived.Test.YtcgmchechmbmeaaDoorGen
import Derived.Test.YtcgmchechmbmeaaDoorM10
import Derived.Test.YtcgmchechmbmeaaDoorM18
import Derived.Test.YtcgmchechmbmeaaDoorM16
import Derived.Test.YtcgmchechmbmeaaDoorM22
set_option linter.unusedVariables false
set_option linter.unusedSimpArgs false
section
set_option maxRecDepth 100000
namespace Go.Proofs.YtcgmchechmbmeaaDoor.base
open Go.Sh gen
variable {S:Zb4}{m:Mem}
def Z39 (bd:Nat)(m m1:Mem)(K:Nat)(v:Value):Prop:=∃ (u:UnT.D) (vo bo so:Option Addr),v=.agg (Za1 u vo bo so).toArray∧UAt (fun f=>f < m1.next∧f≠bd) m1 u vo bo so∧Zl3 K u
def qB (m:Mem)(ub rb bd:Nat)(f:Nat):Prop:=f < m.next∧f≠ub∧(f≠rb∧f≠bd)
set_option maxHeartbeats 16000000 in
theorem Z0l (hS:S 8=[])(hP:S 16=[]){u:UnT.D}{vo bo so:Option Addr}{bd:Nat}(hbd:bd < m.next)(hU:UAt (fun f=>f < m.next∧f≠bd) m u vo bo so){how:List Int}{ao:Option Addr}(hh:Zah (fun f=>f < m.next) m ao how)(hl:how.length≤9223372036854775807)(hsm:Zl3 1000 u) :
  ∃ v m1,Zaq Tryd.prog TT S 8 [.agg (Za1 u vo bo so).toArray,.slice ao how.length how.length] m=some (v,m1)∧Z39 bd m m1 1002 v∧Zaa m m1 []:=by
 obtain⟨oU,kU,nU⟩:=Zar (m:=m) (cs:=Za1 u vo bo so) (e:=29) rfl
 obtain⟨mA,hmA⟩:∃ mA,m.new (Za1 u vo bo so) 29=mA:=⟨_,rfl⟩
 obtain⟨ub,hub⟩:∃ ub,m.next=ub:=⟨_,rfl⟩
 rw [hmA,hub] at oU nU
 rw [hmA] at kU
 obtain⟨oR,kR,nR⟩:=Zar (m:=mA) (cs:=[.int .i64 0,.int .i64 0,.slice none 0 0,.slice none 0 0,.slice none 0 0]) (e:=29) rfl
 obtain⟨mB,hmB⟩:∃ mB,mA.new [.int .i64 0,.int .i64 0,.slice none 0 0,.slice none 0 0,.slice none 0 0] 29=mB:=⟨_,rfl⟩
 obtain⟨rb,hrb⟩:∃ rb,mA.next=rb:=⟨_,rfl⟩
 rw [hmB,hrb] at oR nR
 rw [hmB] at kR
 have hur:ub < rb:=by omega
 refine Zhk 78 [95,108,121,130,149,171,183,194,222,231,242,261,272,283,295,306,315,87] k8 hS rfl ?_
 simp [-Int.natCast_add,Zbn b29,hmA,hub,hmB,hrb]
 have U0:UAt (qB mB ub rb bd) mB u vo bo so:=by
  have h1:=(hU.keep kU (by simp)).keep kR (by simp)
  have hq:∀ f,f < m.next∧f≠bd→qB mB ub rb bd f:=fun f hf=>⟨by omega,by omega,by omega⟩
  exact⟨h1.v.mono hq,h1.b.mono hq,h1.s.mono hq⟩
 have hh0:=(hh.keep kU (by simp)).keep kR (by simp)
 refine Zag 78 [95,108,121,130,149,171,183,194,222,231,242,261,272,283,295,306,315,87] (fun d E mF=>∃ (i:Nat) (u:UnT.D) (vo bo so:Option Addr),2 - i=d∧i≤2∧UAt (qB mF ub rb bd) mF u vo bo so∧Zl3 (1000+i) u∧Own mF ub (Za1 u vo bo so) 29 ub∧Own mF rb [.int .i64 0,.int .i64 0,.slice none 0 0,.slice none 0 0,.slice none 0 0] 29 rb∧Zaa m mF []∧
  E=[(1,.slice ao how.length how.length),(2,.pointer (some ⟨ub,0,none⟩)),(4,.pointer (some ⟨rb,0,none⟩)),(5,.int .i64 (i:Int))]) _ ⟨_,⟨0,u,vo,bo,so,rfl,by omega,U0,hsm,oU.keep kR (by simp),oR,kU.trans kR,rfl⟩,(by repeat' constructor)⟩ ?_
 clear U0 oU oR hU hsm u vo bo so kU kR hmA hmB
 rintro d E mF ih ⟨i,u,vo,bo,so,hd,hi,hU,hsm,oU,oR,kF,rfl⟩
 have im:(i:Int)≤9223372036854775807:=by omega
 have ldu:=oU.load 5 (off:=0) (by simp)
 simp [Zao] at ldu
 by_cases hlt:i < how.length∧i < 2
 case neg =>
  clear ih
  obtain⟨mG,eG,oG,kG⟩:=Zap (r:=_) rfl oR (off:=0) (vs:=Za1 u vo bo so) (by simp) (by simp [Zau,Zae])
  have hdone:Z39 bd m mG 1002 (.agg (Za1 u vo bo so).toArray)∧Zaa m mG []:=by
   have h1:=hU.keep kG (by simp [qB])
   have hq:∀ f,qB mF ub rb bd f→f < mG.next∧f≠bd:=fun f hf=>by have:=hf.1;have:=hf.2.2.2;have:=kG.1;omega
   exact⟨⟨u,vo,bo,so,rfl,⟨h1.v.mono hq,h1.b.mono hq,h1.s.mono hq⟩,hsm.mono (by omega)⟩,kF.fresh kG (by simp;omega)⟩
  have ldr:=oG.load 5 (off:=0) (by simp [Zbx,Za1])
  simp [Zao,Zbx,Za1] at ldr
  simp only [Za1] at ldu eG hdone
  by_cases hl1:i < how.length
  ·have h1:(i:Int) < how.length:=by omega
   have h2:¬ (i:Int) < 2:=by omega
   simp [-Int.natCast_add,Zig Z3c,h1,h2,ldu,eG,ldr]
   exact hdone
  ·have h1:¬ (i:Int) < how.length:=by omega
   simp [-Int.natCast_add,Zig Z3c,h1,ldu,eG,ldr]
   exact hdone
 obtain⟨hlt,hi2⟩:=hlt
 have i1:(i:Int) < how.length:=by omega
 have i2:(i:Int) < 2:=by omega
 have wi:IntKind.i64.wrap ((i:Int)+1)=((i+1:Nat):Int):=by rw [Zab (by omega) (by omega)];omega
 obtain⟨hb,hhb,lh⟩:=(hh.keep kF (by simp)).get hlt
 obtain⟨x,hx⟩:∃ x,how.getD i 0=x:=⟨_,rfl⟩
 rw [hx] at lh
 subst hhb
 have hqs:∀ (mX:Mem),mF.next≤mX.next→∀ f,qB mF ub rb bd f→f < mX.next:=fun mX h f hf=>by have:=hf.1;omega
 have fub:=oU.flt
 have frb:=oR.flt
 obtain⟨cv,lv0,av⟩:=Zpv (t:=Za9) (bt:=64) u25 Z9r (fun d c=>Z4x) hU.v (hqs mF (Nat.le_refl _)) (Nat.le_trans (Nat.mul_le_mul_right 64 hsm.v) (by decide)) (Nat.le_trans hsm.v (by decide))
 have kn1:=Za4 mF [] 43 []
 have u2n:=(oU.keep kn1 (by simp)).load1 (off:=2) rfl
 have lv1:ldS (mF.new [] 43) (.slice vo (nv u) (nv u)) 6=some (cv.flatten,nv u):=lv0 _ kn1
 simp [-Int.natCast_add,-List.getD_eq_getElem?_getD,Za u25 Z97 rfl,Zc9 u25 Z4h,i1,i2,im,hlt,lh,u2n,lv1]
 generalize hra:Zak _ _ _ _ _ _=ra
 obtain⟨m1,vb,rfl,rv,k1,f1⟩:=av ra hra
 clear hra lv0 lv1 u2n kn1 av
 have U1:=hU.keep k1 (by simp)
 have oU1:=oU.keep k1 (by simp)
 obtain⟨cb,lb0,ab⟩:=Zpv (t:=Zct) (bt:=96) u26 Z9q (fun d c=>Z26) U1.b (hqs m1 (by omega)) (Nat.le_trans (Nat.mul_le_mul_right 96 hsm.b) (by decide)) (Nat.le_trans hsm.b (by decide))
 have kn2:=Za4 m1 [] 36 []
 have u3n:=(oU1.keep kn2 (by simp)).load1 (off:=3) rfl
 have lb1:ldS (m1.new [] 36) (.slice bo (nb u) (nb u)) 6=some (cb.flatten,nb u):=lb0 _ kn2
 simp [-Int.natCast_add,-List.getD_eq_getElem?_getD,Za u26 Z9t rfl,Zc9 u26 Z76,u3n,lb1]
 generalize hra:Zak _ _ _ _ _ _=ra
 obtain⟨m2,bb,rfl,rw2,k2,f2⟩:=ab ra hra
 clear hra lb0 lb1 u3n kn2 ab
 have U2:=U1.keep k2 (by simp)
 have oU2:=oU1.keep k2 (by simp)
 obtain⟨cs,ls0,as1⟩:=Zpv (t:=StT) (bt:=24) u27 Z92 (fun d c=>Z49) U2.s (hqs m2 (by omega)) (Nat.le_trans (Nat.mul_le_mul_right 24 hsm.s) (by decide)) (Nat.le_trans hsm.s (by decide))
 have kn3:=Za4 m2 [] 41 []
 have u4n:=(oU2.keep kn3 (by simp)).load1 (off:=4) rfl
 have ls1:ldS (m2.new [] 41) (.slice so (ns u) (ns u)) 1=some (cs.flatten,ns u):=ls0 _ kn3
 simp [-Int.natCast_add,-List.getD_eq_getElem?_getD,Za u27 Yaa rfl,Zc9 u27 Z8,u4n,ls1]
 generalize hra:Zak _ _ _ _ _ _=ra
 obtain⟨m3,sb,rfl,rs,k3,f3⟩:=as1 ra hra
 clear hra ls0 ls1 u4n kn3 as1
 have oU3:=oU2.keep k3 (by simp)
 have oR3:=((oR.keep k1 (by simp)).keep k2 (by simp)).keep k3 (by simp)
 have U3:=U2.keep k3 (by simp)
 have rv3:=(rv.keep k2 (by simp) (by simp)).keep k3 (by simp) (by simp)
 have rb3:=rw2.keep k3 (by simp) (by simp)
 obtain⟨fv,hfv⟩:∃ fv,mF.next=fv:=⟨_,rfl⟩
 obtain⟨fb,hfb⟩:∃ fb,m1.next=fb:=⟨_,rfl⟩
 obtain⟨fs,hfs⟩:∃ fs,m2.next=fs:=⟨_,rfl⟩
 rw [hfv] at rv3
 rw [hfb] at rb3
 rw [hfs] at rs
 have K3:Zaa mF m3 []:=(k1.trans k2).trans k3
 have hQ0:∀ f,qB mF ub rb bd f→f < fv∧f≠ub∧(f≠rb∧f≠bd):=fun f hf=>⟨by have:=hf.1;omega,hf.2⟩
 have hf12:fv < fb∧fb < fs∧fs < m3.next∧ub < fv∧rb < fv∧bd < fv:=by have:=kF.1;omega
 have hFv:mF.next≤fv:=by omega
 clear rv rw2 U1 U2 oU1 oU2 hfv hfb hfs f1 f2 f3
 by_cases hz:nv u=0∨nb u=0∨ns u=0
 ·clear ih
  obtain⟨mG,eG,oG,kG⟩:=Zap (r:=_) rfl oR3 (off:=0) (vs:=Za1 u vo bo so) (by simp) (by simp [Zau,Zae])
  have hdone:Z39 bd m mG 1002 (.agg (Za1 u vo bo so).toArray)∧Zaa m mG []:=by
   have h1:=U3.keep kG (by simp [qB])
   have hq:∀ f,qB mF ub rb bd f→f < mG.next∧f≠bd:=fun f hf=>by have:=hf.1;have:=hf.2.2.2;have:=K3.1;have:=kG.1;omega
   exact⟨⟨u,vo,bo,so,rfl,⟨h1.v.mono hq,h1.b.mono hq,h1.s.mono hq⟩,hsm.mono (by omega)⟩,(kF.trans K3).fresh kG (by simp;omega)⟩
  have ldr:=oG.load 5 (off:=0) (by simp [Zbx,Za1])
  simp [Zao,Zbx,Za1] at ldr
  have ldu3:=oU3.load 5 (off:=0) (by simp)
  simp [Zao] at ldu3
  simp only [Za1] at ldu3 eG hdone
  by_cases g1:nv u=0
  ·rw [g1] at ldu3 eG ldr hdone
   simp [-Int.natCast_add,-List.getD_eq_getElem?_getD,Zig Z3c,g1,ldu3,eG,ldr]
   exact hdone
  ·by_cases g2:nb u=0
   ·rw [g2] at ldu3 eG ldr hdone
    simp [-Int.natCast_add,-List.getD_eq_getElem?_getD,Zig Z3c,g1,g2,ldu3,eG,ldr]
    exact hdone
   ·have g3:ns u=0:=by omega
    rw [g3] at ldu3 eG ldr hdone
    simp [-Int.natCast_add,-List.getD_eq_getElem?_getD,Zig Z3c,g1,g2,g3,ldu3,eG,ldr]
    exact hdone
 have hz1:¬ nv u=0:=fun h=>hz (Or.inl h)
 have hz2:¬ nb u=0:=fun h=>hz (Or.inr (Or.inl h))
 have hz3:¬ ns u=0:=fun h=>hz (Or.inr (Or.inr h))
 obtain⟨n,hn⟩:∃ n,IntKind.i64.wrap (x.tdiv 12)=n:=⟨_,rfl⟩
 rw [hn]
 have hvm:=hsm.v
 have hbm:=hsm.b
 have hsm':=hsm.s
 have pv:=fun mX y=>Zch (m:=mX) hP y (nv u) (by omega) (by omega)
 have pb:=fun mX y=>Zch (m:=mX) hP y (nb u) (by omega) (by omega)
 have ps:=fun mX y=>Zch (m:=mX) hP y (ns u) (by omega) (by omega)
 have p12:=fun mX y=>Zch (m:=mX) hP y 12 (by omega) (by omega)
 obtain⟨v,hv⟩:∃ v:Nat,n % (nv u:Int)=(v:Int):=⟨(n % (nv u:Int)).toNat,by have:=Int.emod_nonneg n (show (nv u:Int)≠0 by omega);omega⟩
 obtain⟨b,hb'⟩:∃ v:Nat,n % (nb u:Int)=(v:Int):=⟨(n % (nb u:Int)).toNat,by have:=Int.emod_nonneg n (show (nb u:Int)≠0 by omega);omega⟩
 obtain⟨s,hs'⟩:∃ v:Nat,n % (ns u:Int)=(v:Int):=⟨(n % (ns u:Int)).toNat,by have:=Int.emod_nonneg n (show (ns u:Int)≠0 by omega);omega⟩
 have hvl:v < nv u:=by have:=Int.emod_lt_of_pos n (show (0:Int) < nv u by omega);omega
 have hbl:b < nb u:=by have:=Int.emod_lt_of_pos n (show (0:Int) < nb u by omega);omega
 have hsl:s < ns u:=by have:=Int.emod_lt_of_pos n (show (0:Int) < ns u by omega);omega
 obtain⟨w,hw⟩:∃ w:Int,x % 12=w:=⟨_,rfl⟩
 have hwb:0≤w∧w < 12:=by omega
 have lh3:loadRow m3 ⟨hb.1,hb.2+i,none⟩ 1=some [.int .i64 x]:=by
  obtain⟨hb2,e2,l2⟩:=((hh.keep kF (by simp)).keep K3 (by simp)).get hlt
  simp only [Option.some.injEq,Addr.mk.injEq,and_true] at e2
  rw [e2.1,e2.2,← hx];exact l2
 have p1:=pv m3 n
 have p2:=pb m3 n
 have p3:=ps m3 n
 have p4:=p12 m3 x
 rw [hv] at p1
 rw [hb'] at p2
 rw [hs'] at p3
 rw [hw] at p4
 simp [-Int.natCast_add,-List.getD_eq_getElem?_getD,hz1,hz2,hz3,p1,p2,p3,im,hlt,lh3,p4]
 clear p1 p2 p3 p4 lh3 lh
 have R:R3 (qB mF ub rb bd) u ub rb bd vb bb sb fv fb fs (1000+i) m3 cv cb cs:=⟨rv3,rb3,rs,hQ0,hf12,hsm⟩
 have nvi:(v:Int) < nv u:=by omega
 have nvm:(v:Int)≤9223372036854775807:=by omega
 have nbi:(b:Int) < nb u:=by omega
 have nbm':(b:Int)≤9223372036854775807:=by omega
 have nsi:(s:Int) < ns u:=by omega
 have nsm:(s:Int)≤9223372036854775807:=by omega
 apply Zxk (fun mX=>BJ u ub rb bd vb bb sb fv fb fs (1000+i+1) m3 mX)
 case main =>
  intro meth
  have hwc:w=0∨w=1∨w=2∨w=3∨w=4∨w=5∨w=6∨w=7∨w=8∨w=9∨w=10∨w=11:=by omega
  obtain⟨q,hq⟩:∃ q:Int,IntKind.i64.wrap (n.tdiv 3)=q:=⟨_,rfl⟩
  obtain⟨q7,hq7⟩:∃ q:Int,IntKind.i64.wrap (n.tdiv 7)=q:=⟨_,rfl⟩
  have hvn:v < u.2.2.1.length:=hvl
  have setv:∀ (k:Nat) (y:Int),k=0∨k=1∨k=2∨k=5→∃ mf,Zad m3 ⟨vb,v * 6+k,none⟩ [.int .i64 y]=some mf∧BJ u ub rb bd vb bb sb fv fb fs (1000+i+1) m3 mf:=by
   intro k y hk
   obtain⟨hp',mf,e1,o1,k1⟩:=R.v.store (p:=v) (k:=k) hvn (by show k < 6;omega) (v:=.int .i64 y) (by simp [Zau])
   refine⟨mf,e1,?_⟩
   have hel:=R.v.el v _ _ (List.getElem?_eq_getElem hvn) (List.getElem?_eq_getElem hp')
   obtain⟨ao',hc,hi'⟩:=Zgs hel
   have hi2:Zah (qJ mf ub rb bd fv fb fs) mf ao' (Zec (u.2.2.1[v])):=(hi'.keep k1 (R.off (by simp))).mono (R.qj k1.1)
   rw [hc] at o1
   have hargs:=hsm.va _ (List.getElem_mem hvl)
   rcases hk with rfl | rfl | rfl | rfl
   ·exact BJ.val R k1 (by simp) (d':=(y,(u.2.2.1[v]).2)) o1 (Zhu (d:=(y,(u.2.2.1[v]).2)) hi2) (by show List.length (u.2.2.1[v]).2.2.2.2.1≤_;omega)
   ·exact BJ.val R k1 (by simp) (d':=((u.2.2.1[v]).1,y,(u.2.2.1[v]).2.2)) o1 (Zhu (d:=((u.2.2.1[v]).1,y,(u.2.2.1[v]).2.2)) hi2) (by show List.length (u.2.2.1[v]).2.2.2.2.1≤_;omega)
   ·exact BJ.val R k1 (by simp) (d':=((u.2.2.1[v]).1,(u.2.2.1[v]).2.1,y,(u.2.2.1[v]).2.2.2)) o1 (Zhu (d:=((u.2.2.1[v]).1,(u.2.2.1[v]).2.1,y,(u.2.2.1[v]).2.2.2)) hi2) (by show List.length (u.2.2.1[v]).2.2.2.2.1≤_;omega)
   ·exact BJ.val R k1 (by simp) (d':=((u.2.2.1[v]).1,(u.2.2.1[v]).2.1,(u.2.2.1[v]).2.2.1,(u.2.2.1[v]).2.2.2.1,(u.2.2.1[v]).2.2.2.2.1,y,())) o1 (Zhu (d:=((u.2.2.1[v]).1,(u.2.2.1[v]).2.1,(u.2.2.1[v]).2.2.1,(u.2.2.1[v]).2.2.2.1,(u.2.2.1[v]).2.2.2.2.1,y,())) hi2) (by show List.length (u.2.2.1[v]).2.2.2.2.1≤_;omega)
  have hbn:b < u.2.2.2.1.length:=hbl
  have setb:∀ (k:Nat) (y:Int),k=1∨k=2→∃ mf,Zad m3 ⟨bb,b * 6+k,none⟩ [.int .i64 y]=some mf∧BJ u ub rb bd vb bb sb fv fb fs (1000+i+1) m3 mf:=by
   intro k y hk
   obtain⟨hp',mf,e1,o1,k1⟩:=R.b.store (p:=b) (k:=k) hbn (by show k < 6;omega) (v:=.int .i64 y) (by simp [Zau])
   refine⟨mf,e1,?_⟩
   have hel:=R.b.el b _ _ (List.getElem?_eq_getElem hbn) (List.getElem?_eq_getElem hp')
   obtain⟨vo',no',po',hc,h1,h2,h3⟩:=Zg9 hel
   have tr:∀ {ao l},Zah (qB mF ub rb bd) m3 ao l→Zah (qJ mf ub rb bd fv fb fs) mf ao l:=fun h=>(h.keep k1 (R.off (by simp;omega))).mono (R.qj k1.1)
   rw [hc] at o1
   have hargs:=hsm.bl _ (List.getElem_mem hbl)
   rcases hk with rfl | rfl
   ·exact BJ.blk R k1 (by simp) (d':=((u.2.2.2.1[b]).1,y,(u.2.2.2.1[b]).2.2)) o1 (Zqu (d:=((u.2.2.2.1[b]).1,y,(u.2.2.2.1[b]).2.2)) (tr h1) (tr h2) (tr h3)) ⟨by show List.length (u.2.2.2.1[b]).1≤_;omega,by show List.length (u.2.2.2.1[b]).2.2.2.1≤_;omega,by show List.length (u.2.2.2.1[b]).2.2.2.2.1≤_;omega⟩
   ·exact BJ.blk R k1 (by simp) (d':=((u.2.2.2.1[b]).1,(u.2.2.2.1[b]).2.1,y,(u.2.2.2.1[b]).2.2.2)) o1 (Zqu (d:=((u.2.2.2.1[b]).1,(u.2.2.2.1[b]).2.1,y,(u.2.2.2.1[b]).2.2.2)) (tr h1) (tr h2) (tr h3)) ⟨by show List.length (u.2.2.2.1[b]).1≤_;omega,by show List.length (u.2.2.2.1[b]).2.2.2.1≤_;omega,by show List.length (u.2.2.2.1[b]).2.2.2.2.1≤_;omega⟩
  have wv2:IntKind.i64.wrap ((nv u:Int)+2)=((nv u+2:Nat):Int):=by rw [Zab (by omega) (by omega)];omega
  have wv1:IntKind.i64.wrap ((nv u:Int)+1)=((nv u+1:Nat):Int):=by rw [Zab (by omega) (by omega)];omega
  have ws1:IntKind.i64.wrap ((ns u:Int)+1)=((ns u+1:Nat):Int):=by rw [Zab (by omega) (by omega)];omega
  have wb1:IntKind.i64.wrap ((nb u:Int)+1)=((nb u+1:Nat):Int):=by rw [Zab (by omega) (by omega)];omega
  have pk:=fun mX y (k:Nat) (h:0 < k∧k≤1000000)=>Zch (m:=mX) hP y (k:Int) (by omega) (by omega)
  rcases hwc with e | e | e | e | e | e | e | e | e | e | e | e
  ·obtain⟨y,hy⟩:∃ y:Int,IntKind.i64.wrap (q % ((nv u+2:Nat):Int) - 1)=y:=⟨_,rfl⟩
   obtain⟨mX,eX,hX⟩:=setv 1 y (by omega)
   have pp:=pk m3 q (nv u+2) (by omega)
   simp [-Int.natCast_add,-List.getD_eq_getElem?_getD,-w8_58,e,hq,wv2,pp,hy,nvm,hvl,eX]
   exact Zbz (E:=[(1,.slice (some ⟨hb.1,hb.2,none⟩) how.length how.length),(2,.pointer (some ⟨ub,0,none⟩)),(4,.pointer (some ⟨rb,0,none⟩)),(5,.int .i64 (i:Int)),(7,.slice (some ⟨vb,0,none⟩) (nv u) (nv u)),(8,.slice (some ⟨bb,0,none⟩) (nb u) (nb u)),(9,.slice (some ⟨sb,0,none⟩) (ns u) (ns u))]) (meth mX hX) (by repeat' constructor)
  ·obtain⟨y,hy⟩:∃ y:Int,IntKind.i64.wrap (q % ((nv u+2:Nat):Int) - 1)=y:=⟨_,rfl⟩
   obtain⟨mX,eX,hX⟩:=setv 2 y (by omega)
   have pp:=pk m3 q (nv u+2) (by omega)
   simp [-Int.natCast_add,-List.getD_eq_getElem?_getD,-w8_58,e,hq,wv2,pp,hy,nvm,hvl,eX]
   exact Zbz (E:=[(1,.slice (some ⟨hb.1,hb.2,none⟩) how.length how.length),(2,.pointer (some ⟨ub,0,none⟩)),(4,.pointer (some ⟨rb,0,none⟩)),(5,.int .i64 (i:Int)),(7,.slice (some ⟨vb,0,none⟩) (nv u) (nv u)),(8,.slice (some ⟨bb,0,none⟩) (nb u) (nb u)),(9,.slice (some ⟨sb,0,none⟩) (ns u) (ns u))]) (meth mX hX) (by repeat' constructor)
  ·obtain⟨mX,eX,hX⟩:=setv 0 (q % 25) (by omega)
   have pp:=Zch (m:=m3) hP q 25 (by omega) (by omega)
   rw [Nat.add_zero] at eX
   simp [-Int.natCast_add,-List.getD_eq_getElem?_getD,-w8_58,e,hq,pp,nvm,hvl,eX]
   exact Zbz (E:=[(1,.slice (some ⟨hb.1,hb.2,none⟩) how.length how.length),(2,.pointer (some ⟨ub,0,none⟩)),(4,.pointer (some ⟨rb,0,none⟩)),(5,.int .i64 (i:Int)),(7,.slice (some ⟨vb,0,none⟩) (nv u) (nv u)),(8,.slice (some ⟨bb,0,none⟩) (nb u) (nb u)),(9,.slice (some ⟨sb,0,none⟩) (ns u) (ns u))]) (meth mX hX) (by repeat' constructor)
  ·obtain⟨hpv,_,hav⟩:=R.v.ld hvn
   obtain⟨va,hcv,hia⟩:=Zgs hav
   have hargs:List.length (Zec (u.2.2.1[v]))≤1000+i:=hsm.va _ (List.getElem_mem hvl)
   have hc4:cv[v][4]?=some (.slice va (Zec (u.2.2.1[v])).length (Zec (u.2.2.1[v])).length):=by rw [hcv];rfl
   obtain⟨l,hl'⟩:∃ l:List Int,Zec (u.2.2.1[v])=l:=⟨_,rfl⟩
   rw [hl'] at hia hargs hc4
   have kn:=Za4 m3 [] 3 []
   obtain⟨z0,ap⟩:=Zuw hia (by omega)
   have ca:=(R.v.keep kn (by simp) (by simp)).cell (p:=v) (k:=4) hvn (by decide) hpv hc4
   have ca:loadRow (m3.new [] 3) ⟨vb,v * 6+4,none⟩ 1=some [.slice va l.length l.length]:=ca
   have z1:=z0 _ kn
   obtain⟨N,hN⟩:∃ N,l.length=N:=⟨_,rfl⟩
   rw [hN] at ca z1
   simp [-Int.natCast_add,-List.getD_eq_getElem?_getD,-w8_58,Za u22 bs3 rfl,Zc9 u22 sz3,e,nvm,hvl,ca,z1]
   rw [← hN]
   generalize hra:Zak _ _ _ _ _ _=ra
   obtain⟨m4,xb,rfl,ox,k4,n4⟩:=ap ra hra
   obtain⟨mf,e1,rd,hJ,st⟩:=Z43 R k4 hvn ox (Nat.le_refl _) (by omega)
   rw [hN] at e1 rd ⊢
   by_cases hl0:N=0
   ·subst hl0
    simp [-Int.natCast_add,-List.getD_eq_getElem?_getD,-w8_58,nvm,hvl,e1,rd]
    exact Zbz (E:=[(1,.slice (some ⟨hb.1,hb.2,none⟩) how.length how.length),(2,.pointer (some ⟨ub,0,none⟩)),(4,.pointer (some ⟨rb,0,none⟩)),(5,.int .i64 (i:Int)),(7,.slice (some ⟨vb,0,none⟩) (nv u) (nv u)),(8,.slice (some ⟨bb,0,none⟩) (nb u) (nb u)),(9,.slice (some ⟨sb,0,none⟩) (ns u) (ns u))]) (meth mf hJ) (by repeat' constructor)
   ·have hl1:(0:Int) < N:=by omega
    have hl2:0 < N:=by omega
    obtain⟨p,hp⟩:∃ p:Nat,q % (N:Int)=(p:Int):=⟨(q % (N:Int)).toNat,by have:=Int.emod_nonneg q (show (N:Int)≠0 by omega);omega⟩
    have hpl:p < N:=by have:=Int.emod_lt_of_pos q hl1;omega
    have hp1:(p:Int) < N:=by omega
    have hp2:(p:Int)≤9223372036854775807:=by omega
    have pp1:=Zch (m:=mf) hP q N (by omega) (by omega)
    rw [hp] at pp1
    have pp2:=pk mf q7 (nv u+1) (by omega)
    obtain⟨mg,e2,hJ2⟩:=st p (q7 % ((nv u+1:Nat):Int)) (by omega)
    simp [-Int.natCast_add,-List.getD_eq_getElem?_getD,-w8_58,hq,hq7,nvm,hvl,e1,rd,hl2,pp1,pp2,wv1,hp2,hpl,e2]
    exact Zbz (E:=[(1,.slice (some ⟨hb.1,hb.2,none⟩) how.length how.length),(2,.pointer (some ⟨ub,0,none⟩)),(4,.pointer (some ⟨rb,0,none⟩)),(5,.int .i64 (i:Int)),(7,.slice (some ⟨vb,0,none⟩) (nv u) (nv u)),(8,.slice (some ⟨bb,0,none⟩) (nb u) (nb u)),(9,.slice (some ⟨sb,0,none⟩) (ns u) (ns u))]) (meth mg hJ2) (by repeat' constructor)
  ·obtain⟨mX,eX,hX⟩:=setv 5 (q % ((ns u+1:Nat):Int)) (by omega)
   have pp:=pk m3 q (ns u+1) (by omega)
   simp [-Int.natCast_add,-List.getD_eq_getElem?_getD,-w8_58,e,hq,ws1,pp,nvm,hvl,eX]
   exact Zbz (E:=[(1,.slice (some ⟨hb.1,hb.2,none⟩) how.length how.length),(2,.pointer (some ⟨ub,0,none⟩)),(4,.pointer (some ⟨rb,0,none⟩)),(5,.int .i64 (i:Int)),(7,.slice (some ⟨vb,0,none⟩) (nv u) (nv u)),(8,.slice (some ⟨bb,0,none⟩) (nb u) (nb u)),(9,.slice (some ⟨sb,0,none⟩) (ns u) (ns u))]) (meth mX hX) (by repeat' constructor)
  ·obtain⟨hpb,_,hab⟩:=R.b.ld hbn
   obtain⟨xvo,xno,xpo,hcb,hiv,hin,hip⟩:=Zg9 hab
   have hargs:=hsm.bl _ (List.getElem_mem hbl)
   have hc4:cb[b][0]?=some (.slice xvo ((u.2.2.2.1[b]).1).length ((u.2.2.2.1[b]).1).length):=by rw [hcb];rfl
   have hia:=hiv
   have hargs:List.length (u.2.2.2.1[b]).1≤1000+i:=hargs.1
   obtain⟨l,hl'⟩:∃ l:List Int,(u.2.2.2.1[b]).1=l:=⟨_,rfl⟩
   rw [hl'] at hia hargs hc4
   have kn:=Za4 m3 [] 3 []
   obtain⟨z0,ap⟩:=Zuw hia (by omega)
   have ca:=(R.b.keep kn (by simp) (by simp)).cell (p:=b) (k:=0) hbn (by decide) hpb hc4
   have ca:loadRow (m3.new [] 3) ⟨bb,b * 6,none⟩ 1=some [.slice xvo l.length l.length]:=ca
   have z1:=z0 _ kn
   obtain⟨N,hN⟩:∃ N,l.length=N:=⟨_,rfl⟩
   rw [hN] at ca z1
   simp [-Int.natCast_add,-List.getD_eq_getElem?_getD,-w8_58,Za u22 bs3 rfl,Zc9 u22 sz3,nbm',hbl,e,ca,z1]
   rw [← hN]
   generalize hra:Zak _ _ _ _ _ _=ra
   obtain⟨m4,xb,rfl,ox,k4,n4⟩:=ap ra hra
   have hltR:=R.lt
   have hqx:∀ mg:Mem,m4.next≤mg.next→qJ mg ub rb bd fv fb fs m3.next:=fun mg h=>⟨by omega,by omega,by omega,by omega,by omega,by omega⟩
   rw [hN]
   by_cases hl0:N≤1
   ·have hl1:¬ (1:Int) < N:=by omega
    have hl2:¬ 1 < N:=by omega
    obtain⟨mf,e1,hJ⟩:=Zhv R k4 (by simp) hbn (k:=0) (by omega) (Zd5 ox (hqx m4 (Nat.le_refl _))) (by omega)
    rw [hN] at e1
    rw [Nat.add_zero] at e1
    simp [-Int.natCast_add,-List.getD_eq_getElem?_getD,-w8_58,nbm',hbl,hl1,e1]
    exact Zbz (E:=[(1,.slice (some ⟨hb.1,hb.2,none⟩) how.length how.length),(2,.pointer (some ⟨ub,0,none⟩)),(4,.pointer (some ⟨rb,0,none⟩)),(5,.int .i64 (i:Int)),(7,.slice (some ⟨vb,0,none⟩) (nv u) (nv u)),(8,.slice (some ⟨bb,0,none⟩) (nb u) (nb u)),(9,.slice (some ⟨sb,0,none⟩) (ns u) (ns u))]) (meth mf hJ) (by repeat' constructor)
   ·have hl1:(1:Int) < N:=by omega
    have hl2:1 < N:=by omega
    have wN:IntKind.i64.wrap ((N:Int) - 1)=((N - 1:Nat):Int):=by rw [Zab (by omega) (by omega)];omega
    obtain⟨p,hp⟩:∃ p:Nat,q % ((N - 1:Nat):Int)=(p:Int):=⟨(q % ((N - 1:Nat):Int)).toNat,by have:=Int.emod_nonneg q (show ((N - 1:Nat):Int)≠0 by omega);omega⟩
    have hpl:p < N - 1:=by have:=Int.emod_lt_of_pos q (show (0:Int) < ((N - 1:Nat):Int) by omega);omega
    have pp1:=pk m4 q (N - 1) (by omega)
    rw [hp] at pp1
    have wp:IntKind.i64.wrap ((p:Int)+1)=((p+1:Nat):Int):=by rw [Zab (by omega) (by omega)];omega
    have hp1:(p:Int) < N:=by omega
    have hp2:(p:Int)≤9223372036854775807:=by omega
    have hp3:p < N:=by omega
    have hq1:((p+1:Nat):Int) < N:=by omega
    have hq2:((p+1:Nat):Int)≤9223372036854775807:=by omega
    have hq3:p+1 < N:=by omega
    have r1:=ox.load1 (off:=p+1) (Zcp (by omega))
    have r2:=ox.load1 (off:=p) (Zcp (by omega))
    obtain⟨A,hA⟩:∃ a,l.getD (p+1) 0=a:=⟨_,rfl⟩
    obtain⟨B,hB⟩:∃ a,l.getD p 0=a:=⟨_,rfl⟩
    rw [hA] at r1
    rw [hB] at r2
    obtain⟨mg,eg,og,kg⟩:=Zap (r:=_) rfl ox (off:=p) (vs:=[.int .i64 A]) (by simp;omega) (by simp [Zau])
    rw [Zgg A (by omega)] at og
    obtain⟨mh,eh,oh,kh⟩:=Zap (r:=_) rfl og (off:=p+1) (vs:=[.int .i64 B]) (by simp;omega) (by simp [Zau])
    rw [Zgg B (by simp;omega)] at oh
    have k5:Zaa m3 mh [m3.next]:=((k4.mono (by simp)).trans kg).trans kh
    have n5:m4.next≤mh.next:=Nat.le_trans kg.1 kh.1
    obtain⟨mf,e1,hJ⟩:=Zhv R k5 (by simp) hbn (k:=0) (by omega) (Zd5 oh (hqx mh n5)) (by simp;omega)
    simp only [List.length_set,hN,Nat.add_zero] at e1
    simp [-Int.natCast_add,-List.getD_eq_getElem?_getD,-w8_58,hq,nbm',hbl,hl1,wN,pp1,wp,hp2,hp3,hq2,hq3,r1,r2,eg,eh,e1]
    exact Zbz (E:=[(1,.slice (some ⟨hb.1,hb.2,none⟩) how.length how.length),(2,.pointer (some ⟨ub,0,none⟩)),(4,.pointer (some ⟨rb,0,none⟩)),(5,.int .i64 (i:Int)),(7,.slice (some ⟨vb,0,none⟩) (nv u) (nv u)),(8,.slice (some ⟨bb,0,none⟩) (nb u) (nb u)),(9,.slice (some ⟨sb,0,none⟩) (ns u) (ns u))]) (meth mf hJ) (by repeat' constructor)
  ·obtain⟨mX,eX,hX⟩:=setb 1 (q % 5) (by omega)
   have pp:=Zch (m:=m3) hP q 5 (by omega) (by omega)
   simp [-Int.natCast_add,-List.getD_eq_getElem?_getD,-w8_58,e,hq,pp,nbm',hbl,eX]
   exact Zbz (E:=[(1,.slice (some ⟨hb.1,hb.2,none⟩) how.length how.length),(2,.pointer (some ⟨ub,0,none⟩)),(4,.pointer (some ⟨rb,0,none⟩)),(5,.int .i64 (i:Int)),(7,.slice (some ⟨vb,0,none⟩) (nv u) (nv u)),(8,.slice (some ⟨bb,0,none⟩) (nb u) (nb u)),(9,.slice (some ⟨sb,0,none⟩) (ns u) (ns u))]) (meth mX hX) (by repeat' constructor)
  ·obtain⟨hpb,_,hab⟩:=R.b.ld hbn
   obtain⟨xvo,xno,xpo,hcb,hiv,hin,hip⟩:=Zg9 hab
   have hargs:=hsm.bl _ (List.getElem_mem hbl)
   have hc4:cb[b][3]?=some (.slice xno ((u.2.2.2.1[b]).2.2.2.1).length ((u.2.2.2.1[b]).2.2.2.1).length):=by rw [hcb];rfl
   have hia:=hin
   have hargs:List.length (u.2.2.2.1[b]).2.2.2.1≤1000+i:=hargs.2.1
   obtain⟨l,hl'⟩:∃ l:List Int,(u.2.2.2.1[b]).2.2.2.1=l:=⟨_,rfl⟩
   rw [hl'] at hia hargs hc4
   have kn:=Za4 m3 [] 3 []
   obtain⟨z0,ap⟩:=Zuw hia (by omega)
   have ca:=(R.b.keep kn (by simp) (by simp)).cell (p:=b) (k:=3) hbn (by decide) hpb hc4
   have ca:loadRow (m3.new [] 3) ⟨bb,b * 6+3,none⟩ 1=some [.slice xno l.length l.length]:=ca
   have z1:=z0 _ kn
   obtain⟨N,hN⟩:∃ N,l.length=N:=⟨_,rfl⟩
   rw [hN] at ca z1
   simp [-Int.natCast_add,-List.getD_eq_getElem?_getD,-w8_58,Za u22 bs3 rfl,Zc9 u22 sz3,nbm',hbl,e,ca,z1]
   rw [← hN]
   generalize hra:Zak _ _ _ _ _ _=ra
   obtain⟨m4,xb,rfl,ox,k4,n4⟩:=ap ra hra
   have hltR:=R.lt
   have hqx:∀ mg:Mem,m4.next≤mg.next→qJ mg ub rb bd fv fb fs m3.next:=fun mg h=>⟨by omega,by omega,by omega,by omega,by omega,by omega⟩
   rw [hN]
   by_cases hl0:N=0
   ·subst hl0
    obtain⟨mf,e1,hJ⟩:=Zhv R k4 (by simp) hbn (k:=3) (by omega) (Zd5 ox (hqx m4 (Nat.le_refl _))) (by omega)
    rw [hN] at e1
    simp [-Int.natCast_add,-List.getD_eq_getElem?_getD,-w8_58,nbm',hbl,e1]
    exact Zbz (E:=[(1,.slice (some ⟨hb.1,hb.2,none⟩) how.length how.length),(2,.pointer (some ⟨ub,0,none⟩)),(4,.pointer (some ⟨rb,0,none⟩)),(5,.int .i64 (i:Int)),(7,.slice (some ⟨vb,0,none⟩) (nv u) (nv u)),(8,.slice (some ⟨bb,0,none⟩) (nb u) (nb u)),(9,.slice (some ⟨sb,0,none⟩) (ns u) (ns u))]) (meth mf hJ) (by repeat' constructor)
   ·have hl1:(0:Int) < N:=by omega
    have hl2:0 < N:=by omega
    obtain⟨p,hp⟩:∃ p:Nat,q % (N:Int)=(p:Int):=⟨(q % (N:Int)).toNat,by have:=Int.emod_nonneg q (show (N:Int)≠0 by omega);omega⟩
    have hpl:p < N:=by have:=Int.emod_lt_of_pos q hl1;omega
    have hp1:(p:Int) < N:=by omega
    have hp2:(p:Int)≤9223372036854775807:=by omega
    have pp1:=Zch (m:=m4) hP q N (by omega) (by omega)
    rw [hp] at pp1
    have pp2:=pk m4 q7 (nb u+1) (by omega)
    obtain⟨A,hA⟩:∃ a,q7 % ((nb u+1:Nat):Int)=a:=⟨_,rfl⟩
    rw [hA] at pp2
    obtain⟨mg,eg,og,kg⟩:=Zap (r:=_) rfl ox (off:=p) (vs:=[.int .i64 A]) (by simp;omega) (by simp [Zau])
    rw [Zgg A (by omega)] at og
    have k5:Zaa m3 mg [m3.next]:=(k4.mono (by simp)).trans kg
    obtain⟨mf,e1,hJ⟩:=Zhv R k5 (by simp) hbn (k:=3) (by omega) (Zd5 og (hqx mg kg.1)) (by simp;omega)
    simp only [List.length_set,hN] at e1
    simp [-Int.natCast_add,-List.getD_eq_getElem?_getD,-w8_58,hq,hq7,nbm',hbl,hl2,pp1,pp2,wb1,hp2,hpl,eg,e1]
    exact Zbz (E:=[(1,.slice (some ⟨hb.1,hb.2,none⟩) how.length how.length),(2,.pointer (some ⟨ub,0,none⟩)),(4,.pointer (some ⟨rb,0,none⟩)),(5,.int .i64 (i:Int)),(7,.slice (some ⟨vb,0,none⟩) (nv u) (nv u)),(8,.slice (some ⟨bb,0,none⟩) (nb u) (nb u)),(9,.slice (some ⟨sb,0,none⟩) (ns u) (ns u))]) (meth mf hJ) (by repeat' constructor)
  ·obtain⟨hpb,_,hab⟩:=R.b.ld hbn
   obtain⟨xvo,xno,xpo,hcb,hiv,hin,hip⟩:=Zg9 hab
   have hargs:=hsm.bl _ (List.getElem_mem hbl)
   have hc4:cb[b][4]?=some (.slice xpo ((u.2.2.2.1[b]).2.2.2.2.1).length ((u.2.2.2.1[b]).2.2.2.2.1).length):=by rw [hcb];rfl
   have hia:=hip
   have hargs:List.length (u.2.2.2.1[b]).2.2.2.2.1≤1000+i:=hargs.2.2
   obtain⟨l,hl'⟩:∃ l:List Int,(u.2.2.2.1[b]).2.2.2.2.1=l:=⟨_,rfl⟩
   rw [hl'] at hia hargs hc4
   have kn:=Za4 m3 [] 3 []
   obtain⟨z0,ap⟩:=Zuw hia (by omega)
   have ca:=(R.b.keep kn (by simp) (by simp)).cell (p:=b) (k:=4) hbn (by decide) hpb hc4
   have ca:loadRow (m3.new [] 3) ⟨bb,b * 6+4,none⟩ 1=some [.slice xpo l.length l.length]:=ca
   have z1:=z0 _ kn
   obtain⟨N,hN⟩:∃ N,l.length=N:=⟨_,rfl⟩
   rw [hN] at ca z1
   simp [-Int.natCast_add,-List.getD_eq_getElem?_getD,-w8_58,Za u22 bs3 rfl,Zc9 u22 sz3,nbm',hbl,e,ca,z1]
   rw [← hN]
   generalize hra:Zak _ _ _ _ _ _=ra
   obtain⟨m4,xb,rfl,ox,k4,n4⟩:=ap ra hra
   have hltR:=R.lt
   have hqx:∀ mg:Mem,m4.next≤mg.next→qJ mg ub rb bd fv fb fs m3.next:=fun mg h=>⟨by omega,by omega,by omega,by omega,by omega,by omega⟩
   rw [hN]
   by_cases hl0:N=0
   ·subst hl0
    have k5:=Za4 m4 [.int .i64 0] 3 []
    have z2:ldS (m4.new [.int .i64 0] 3) (.slice (some ⟨m4.next,0,none⟩) 1 1) 1=some ([.int .i64 0],1):=Z2p (Sl.of (Own.new m4 [.int .i64 0] 3) (by simp)).rs
    have el0:l=[]:=List.length_eq_zero_iff.1 hN
    subst el0
    simp [-Int.natCast_add,-List.getD_eq_getElem?_getD,-w8_58,Za u22 bs3 rfl,Zc9 u22 sz3,z2]
    generalize hrb:Zak _ _ _ _ _ _=ra
    obtain⟨m6,b6,rfl,o6,k6⟩:=Zg hrb u22 ap3 (ox.keep k5 (by simp)) (by simp) (by rfl) (by simp [Zau]) (by simp) (by simp)
    have o6':Own m6 b6 (ints [0]) 3 m3.next:=o6
    have k7:Zaa m3 m6 [m3.next]:=((k4.trans k5).mono (by simp)).trans k6
    obtain⟨mf,e1,hJ⟩:=Zhv R k7 (by simp) hbn (k:=4) (by omega) (Zd5 o6' (hqx m6 (Nat.le_trans k5.1 k6.1))) (by simp)
    have e1:Zad m6 ⟨bb,b * 6+4,none⟩ [.slice (some ⟨b6,0,none⟩) 1 1]=some mf:=e1
    simp [-Int.natCast_add,-List.getD_eq_getElem?_getD,-w8_58,nbm',hbl,e1]
    exact Zbz (E:=[(1,.slice (some ⟨hb.1,hb.2,none⟩) how.length how.length),(2,.pointer (some ⟨ub,0,none⟩)),(4,.pointer (some ⟨rb,0,none⟩)),(5,.int .i64 (i:Int)),(7,.slice (some ⟨vb,0,none⟩) (nv u) (nv u)),(8,.slice (some ⟨bb,0,none⟩) (nb u) (nb u)),(9,.slice (some ⟨sb,0,none⟩) (ns u) (ns u))]) (meth mf hJ) (by repeat' constructor)
   ·have hl1:(0:Int) < N:=by omega
    have hl2:0 < N:=by omega
    have o1:(1:Int)≤N:=by omega
    have o2:1≤N:=by omega
    have o3:(N:Int)≤9223372036854775807:=by omega
    have el:Ze9 m4 xb 3=true:=by unfold Ze9;rw [ox.rdo.blk];simp
    obtain⟨n1,hn1⟩:∃ n1,N - 1=n1:=⟨_,rfl⟩
    obtain⟨mf,e1,hJ⟩:=Zhv R k4 (by simp) hbn (k:=4) (by omega) (Zt6 ox (by omega) (hqx m4 (Nat.le_refl _))) (by simp;omega)
    simp only [List.length_drop,hN,hn1] at e1
    simp [-Int.natCast_add,-List.getD_eq_getElem?_getD,-w8_58,Zcc u22 sz3,nbm',hbl,hl2,o2,el,hn1,e1]
    exact Zbz (E:=[(1,.slice (some ⟨hb.1,hb.2,none⟩) how.length how.length),(2,.pointer (some ⟨ub,0,none⟩)),(4,.pointer (some ⟨rb,0,none⟩)),(5,.int .i64 (i:Int)),(7,.slice (some ⟨vb,0,none⟩) (nv u) (nv u)),(8,.slice (some ⟨bb,0,none⟩) (nb u) (nb u)),(9,.slice (some ⟨sb,0,none⟩) (ns u) (ns u))]) (meth mf hJ) (by repeat' constructor)
  ·obtain⟨mX,eX,hX⟩:=setb 2 (q % ((nv u+1:Nat):Int)) (by omega)
   have pp:=pk m3 q (nv u+1) (by omega)
   simp [-Int.natCast_add,-List.getD_eq_getElem?_getD,-w8_58,e,hq,wv1,pp,nbm',hbl,eX]
   exact Zbz (E:=[(1,.slice (some ⟨hb.1,hb.2,none⟩) how.length how.length),(2,.pointer (some ⟨ub,0,none⟩)),(4,.pointer (some ⟨rb,0,none⟩)),(5,.int .i64 (i:Int)),(7,.slice (some ⟨vb,0,none⟩) (nv u) (nv u)),(8,.slice (some ⟨bb,0,none⟩) (nb u) (nb u)),(9,.slice (some ⟨sb,0,none⟩) (ns u) (ns u))]) (meth mX hX) (by repeat' constructor)
  ·have hsn:s < u.2.2.2.2.1.length:=hsl
   obtain⟨hps,_,has⟩:=R.s.ld hsn
   obtain⟨fo,hcs,hF⟩:=Zmi has
   have hst:=hsm.st _ (List.getElem_mem hsl)
   have hc0:cs[s][0]?=some (.slice fo (show List Zeg.D from (u.2.2.2.2.1[s]).1).length (show List Zeg.D from (u.2.2.2.2.1[s]).1).length):=by rw [hcs];rfl
   obtain⟨F,hF'⟩:∃ F:List Zeg.D,(show List Zeg.D from (u.2.2.2.2.1[s]).1)=F:=⟨_,rfl⟩
   have hF'':(u.2.2.2.2.1[s]).1=F:=hF'
   rw [hF'] at hc0 hF
   rw [hF''] at hst hF
   have hst:F.length≤1000+i∧∀ f∈F,List.length f.2.2.1≤1000+i∧List.length f.2.2.2.1≤1000+i:=hst
   have kn:=Za4 m3 [] 52 []
   obtain⟨cf,z0,ap⟩:=Zpv (t:=Zeg) (bt:=64) u39 Ybr (fun d c=>Z34) hF (fun f hf=>by have:=hQ0 f hf;omega) (by omega) (by omega)
   have ca:=(R.s.keep kn (by simp) (by simp)).cell (p:=s) (k:=0) hsn (by decide) hps hc0
   have ca:loadRow (m3.new [] 52) ⟨sb,s,none⟩ 1=some [.slice fo F.length F.length]:=by
    have e9:s * StT.size+0=s:=by show s * 1+0=s;omega
    rw [← e9];exact ca
   have z1:ldS (m3.new [] 52) (.slice fo F.length F.length) 4=some (cf.flatten,F.length):=z0 _ kn
   obtain⟨M,hM⟩:∃ N,F.length=N:=⟨_,rfl⟩
   rw [hM] at ca z1
   simp [-Int.natCast_add,-List.getD_eq_getElem?_getD,-w8_58,Za u39 Z9n rfl,Zc9 u39 Z8x,nsm,hsl,e,ca,z1]
   rw [← hM]
   generalize hra:Zak _ _ _ _ _ _=ra
   obtain⟨m4,xb,rfl,rf,k4,n4⟩:=ap ra hra
   have hltR:=R.lt
   rw [hM]
   have hnq:∀ mg:Mem,m3.next < mg.next→qJ mg ub rb bd fv fb fs m3.next:=fun mg h=>⟨by omega,by omega,by omega,by omega,by omega,by omega⟩
   by_cases hM0:M=0
   ·subst hM0
    obtain⟨mf,e1,hJ⟩:=Zx9 R k4 (by simp) hsn ((rf.mono (R.qj k4.1)).at_ (hnq m4 n4)) ⟨by omega,fun f hf=>by have:=hst.2 f hf;omega⟩
    rw [hM] at e1
    simp [-Int.natCast_add,-List.getD_eq_getElem?_getD,-w8_58,nsm,hsl,e1]
    exact Zbz (E:=[(1,.slice (some ⟨hb.1,hb.2,none⟩) how.length how.length),(2,.pointer (some ⟨ub,0,none⟩)),(4,.pointer (some ⟨rb,0,none⟩)),(5,.int .i64 (i:Int)),(7,.slice (some ⟨vb,0,none⟩) (nv u) (nv u)),(8,.slice (some ⟨bb,0,none⟩) (nb u) (nb u)),(9,.slice (some ⟨sb,0,none⟩) (ns u) (ns u))]) (meth mf hJ) (by repeat' constructor)
   ·have hM1:(0:Int) < M:=by omega
    have hM2:0 < M:=by omega
    have hF0:0 < F.length:=by omega
    obtain⟨hp0,_,hf0⟩:=rf.ld hF0
    obtain⟨lo,so',hcf,hil,_⟩:=Zpe hf0
    have hll:=(hst.2 _ (List.getElem_mem hF0)).1
    have hcl:cf[0][2]?=some (.slice lo (show List Int from (F[0]).2.2.1).length (show List Int from (F[0]).2.2.1).length):=by rw [hcf];rfl
    obtain⟨l,hl'⟩:∃ l:List Int,(F[0]).2.2.1=l:=⟨_,rfl⟩
    rw [hl'] at hil hll
    rw [show (show List Int from (F[0]).2.2.1)=l from hl'] at hcl
    have kn4:=Za4 m4 [] 3 []
    obtain⟨y0,ap2⟩:=Zuw hil (by omega)
    have cl:=(rf.keep kn4 (by simp) (by simp)).cell (p:=0) (k:=2) hF0 (by decide) hp0 hcl
    have cl:loadRow (m4.new [] 3) ⟨xb,2,none⟩ 1=some [.slice lo l.length l.length]:=by
     have e9:0 * Zeg.size+2=2:=by omega
     rw [← e9];exact cl
    have y1:=y0 _ kn4
    obtain⟨N,hN⟩:∃ N,l.length=N:=⟨_,rfl⟩
    rw [hN] at cl y1
    simp [-Int.natCast_add,-List.getD_eq_getElem?_getD,-w8_58,Za u22 bs3 rfl,Zc9 u22 sz3,hM2,cl,y1]
    rw [← hN]
    generalize hrc:Zak _ _ _ _ _ _=rc
    obtain⟨m5,yb,rfl,oy,k5,n5⟩:=ap2 rc hrc
    rw [hN]
    by_cases hl0:N=0
    ·subst hl0
     obtain⟨m7,e7,mf,e8,hJ⟩:=Zy8 R k4 n4 rf hF0 ⟨by omega,fun f hf=>by have:=hst.2 f hf;omega⟩ hsn k5 (by simp) (Zd5 (R:=fun f=>f=m4.next) oy rfl) (fun f hf=>by subst hf;exact⟨by omega,by omega,by omega,by omega,by omega,by omega,by omega⟩) (by omega)
     rw [hN] at e7
     rw [hM] at e8
     simp [-Int.natCast_add,-List.getD_eq_getElem?_getD,-w8_58,nsm,hsl,hM2,e7,e8]
     exact Zbz (E:=[(1,.slice (some ⟨hb.1,hb.2,none⟩) how.length how.length),(2,.pointer (some ⟨ub,0,none⟩)),(4,.pointer (some ⟨rb,0,none⟩)),(5,.int .i64 (i:Int)),(7,.slice (some ⟨vb,0,none⟩) (nv u) (nv u)),(8,.slice (some ⟨bb,0,none⟩) (nb u) (nb u)),(9,.slice (some ⟨sb,0,none⟩) (ns u) (ns u))]) (meth mf hJ) (by repeat' constructor)
    ·have hl1:(0:Int) < N:=by omega
     have hl2:0 < N:=by omega
     obtain⟨p,hp⟩:∃ p:Nat,q % (N:Int)=(p:Int):=⟨(q % (N:Int)).toNat,by have:=Int.emod_nonneg q (show (N:Int)≠0 by omega);omega⟩
     have hpl:p < N:=by have:=Int.emod_lt_of_pos q hl1;omega
     have hp1:(p:Int) < N:=by omega
     have hp2:(p:Int)≤9223372036854775807:=by omega
     have pp1:=Zch (m:=m5) hP q N (by omega) (by omega)
     rw [hp] at pp1
     have pp2:=pk m5 q7 (nv u+1) (by omega)
     obtain⟨A,hA⟩:∃ a,q7 % ((nv u+1:Nat):Int)=a:=⟨_,rfl⟩
     rw [hA] at pp2
     obtain⟨mg,eg,og,kg⟩:=Zap (r:=_) rfl oy (off:=p) (vs:=[.int .i64 A]) (by simp;omega) (by simp [Zau])
     rw [Zgg A (by omega)] at og
     have k6:Zaa m4 mg [m4.next]:=(k5.mono (by simp)).trans kg
     have n6:=kg.1
     obtain⟨m7,e7,mf,e8,hJ⟩:=Zy8 R k4 n4 rf hF0 ⟨by omega,fun f hf=>by have:=hst.2 f hf;omega⟩ hsn k6 (by simp) (Zd5 (R:=fun f=>f=m4.next) og rfl) (fun f hf=>by subst hf;exact⟨by omega,by omega,by omega,by omega,by omega,by omega,by omega⟩) (by simp;omega)
     simp only [List.length_set,hN] at e7
     rw [hM] at e8
     simp [-Int.natCast_add,-List.getD_eq_getElem?_getD,-w8_58,hq,hq7,nsm,hsl,hM2,hl2,pp1,pp2,wv1,hp2,hpl,eg,e7,e8]
     exact Zbz (E:=[(1,.slice (some ⟨hb.1,hb.2,none⟩) how.length how.length),(2,.pointer (some ⟨ub,0,none⟩)),(4,.pointer (some ⟨rb,0,none⟩)),(5,.int .i64 (i:Int)),(7,.slice (some ⟨vb,0,none⟩) (nv u) (nv u)),(8,.slice (some ⟨bb,0,none⟩) (nb u) (nb u)),(9,.slice (some ⟨sb,0,none⟩) (ns u) (ns u))]) (meth mf hJ) (by repeat' constructor)
  ·obtain⟨hpb,_,hab⟩:=R.b.ld hbn
   obtain⟨xvo,xno,xpo,hcb,hiv,hin,hip⟩:=Zg9 hab
   have hargs:=hsm.bl _ (List.getElem_mem hbl)
   have hc4:cb[b][0]?=some (.slice xvo ((u.2.2.2.1[b]).1).length ((u.2.2.2.1[b]).1).length):=by rw [hcb];rfl
   have hia:=hiv
   have hargs:List.length (u.2.2.2.1[b]).1≤1000+i:=hargs.1
   obtain⟨l,hl'⟩:∃ l:List Int,(u.2.2.2.1[b]).1=l:=⟨_,rfl⟩
   rw [hl'] at hia hargs hc4
   have kn:=Za4 m3 [] 3 []
   obtain⟨z0,ap⟩:=Zuw hia (by omega)
   have ca:=(R.b.keep kn (by simp) (by simp)).cell (p:=b) (k:=0) hbn (by decide) hpb hc4
   have ca:loadRow (m3.new [] 3) ⟨bb,b * 6,none⟩ 1=some [.slice xvo l.length l.length]:=ca
   have z1:=z0 _ kn
   obtain⟨N,hN⟩:∃ N,l.length=N:=⟨_,rfl⟩
   rw [hN] at ca z1
   simp [-Int.natCast_add,-List.getD_eq_getElem?_getD,-w8_58,Za u22 bs3 rfl,Zc9 u22 sz3,nbm',hbl,e,ca,z1]
   rw [← hN]
   generalize hra:Zak _ _ _ _ _ _=ra
   obtain⟨m4,xb,rfl,ox,k4,n4⟩:=ap ra hra
   have hltR:=R.lt
   have hqx:∀ mg:Mem,m4.next≤mg.next→qJ mg ub rb bd fv fb fs m3.next:=fun mg h=>⟨by omega,by omega,by omega,by omega,by omega,by omega⟩
   rw [hN]
   by_cases hl0:N=0
   ·subst hl0
    obtain⟨mf,e1,hJ⟩:=Zhv R k4 (by simp) hbn (k:=0) (by omega) (Zd5 ox (hqx m4 (Nat.le_refl _))) (by omega)
    rw [hN] at e1
    rw [Nat.add_zero] at e1
    simp [-Int.natCast_add,-List.getD_eq_getElem?_getD,-w8_58,nbm',hbl,e1]
    exact Zbz (E:=[(1,.slice (some ⟨hb.1,hb.2,none⟩) how.length how.length),(2,.pointer (some ⟨ub,0,none⟩)),(4,.pointer (some ⟨rb,0,none⟩)),(5,.int .i64 (i:Int)),(7,.slice (some ⟨vb,0,none⟩) (nv u) (nv u)),(8,.slice (some ⟨bb,0,none⟩) (nb u) (nb u)),(9,.slice (some ⟨sb,0,none⟩) (ns u) (ns u))]) (meth mf hJ) (by repeat' constructor)
   ·have hl1:(0:Int) < N:=by omega
    have hl2:0 < N:=by omega
    have o1:(1:Int)≤N:=by omega
    have o2:1≤N:=by omega
    have o3:(N:Int)≤9223372036854775807:=by omega
    have el:Ze9 m4 xb 3=true:=by unfold Ze9;rw [ox.rdo.blk];simp
    obtain⟨n1,hn1⟩:∃ n1,N - 1=n1:=⟨_,rfl⟩
    obtain⟨mf,e1,hJ⟩:=Zhv R k4 (by simp) hbn (k:=0) (by omega) (Zt6 ox (by omega) (hqx m4 (Nat.le_refl _))) (by simp;omega)
    simp only [List.length_drop,hN,hn1,Nat.add_zero] at e1
    simp [-Int.natCast_add,-List.getD_eq_getElem?_getD,-w8_58,Zcc u22 sz3,nbm',hbl,hl2,o2,el,hn1,e1]
    exact Zbz (E:=[(1,.slice (some ⟨hb.1,hb.2,none⟩) how.length how.length),(2,.pointer (some ⟨ub,0,none⟩)),(4,.pointer (some ⟨rb,0,none⟩)),(5,.int .i64 (i:Int)),(7,.slice (some ⟨vb,0,none⟩) (nv u) (nv u)),(8,.slice (some ⟨bb,0,none⟩) (nb u) (nb u)),(9,.slice (some ⟨sb,0,none⟩) (ns u) (ns u))]) (meth mf hJ) (by repeat' constructor)
 intro mX hX
 obtain⟨lv,lb,ls,cv',cb',cs',Rv,Rb,Rss,e1,e2,e3,sm',kX⟩:=hX
 have oUX:=oU3.keep kX (by simp;omega)
 have oRX:=oR3.keep kX (by simp;omega)
 obtain⟨mP,eP,oP,kP⟩:=Zap (r:=_) rfl oUX (off:=2) (vs:=[.slice (some ⟨vb,0,none⟩) (nv u) (nv u)]) (by simp [Za1]) (by simp [Zae])
 obtain⟨mQ,eQ,oQ,kQ⟩:=Zap (r:=_) rfl oP (off:=3) (vs:=[.slice (some ⟨bb,0,none⟩) (nb u) (nb u)]) (by simp [Za1,Zbx]) (by simp [Zae])
 obtain⟨mR,eR,oZ,kR⟩:=Zap (r:=_) rfl oQ (off:=4) (vs:=[.slice (some ⟨sb,0,none⟩) (ns u) (ns u)]) (by simp [Za1,Zbx]) (by simp [Zae])
 have kZ:Zaa mX mR [ub]:=(kP.trans kQ).trans kR
 have hnx:=kZ.1
 have hnx2:=kX.1
 have hqb:∀ f,qJ mX ub rb bd fv fb fs f→qB mR ub rb bd f:=fun f hf=>⟨by have:=hf.1;omega,hf.2.1,hf.2.2.1⟩
 have hno:∀ f∈[ub],¬ qJ mX ub rb bd fv fb fs f:=fun f hf hq=>by simp at hf;exact hq.2.1 hf
 have Rv2:=((Rv.keep kZ hno (by simp;omega)).mono hqb).at_ ⟨by omega,by omega,by omega⟩
 have Rb2:=((Rb.keep kZ hno (by simp;omega)).mono hqb).at_ ⟨by omega,by omega,by omega⟩
 have Rs2:=((Rss.keep kZ hno (by simp;omega)).mono hqb).at_ ⟨by omega,by omega,by omega⟩
 have oRZ:=oRX.keep kZ (by simp;omega)
 have oZ':Own mR ub (Za1 (u.1,u.2.1,lv,lb,ls,()) (some ⟨vb,0,none⟩) (some ⟨bb,0,none⟩) (some ⟨sb,0,none⟩)) 29 ub:=by
  have e:Za1 (u.1,u.2.1,lv,lb,ls,()) (some ⟨vb,0,none⟩) (some ⟨bb,0,none⟩) (some ⟨sb,0,none⟩)=Zbx (Zbx (Zbx (Za1 u vo bo so) 2 [.slice (some ⟨vb,0,none⟩) (nv u) (nv u)]) 3 [.slice (some ⟨bb,0,none⟩) (nb u) (nb u)]) 4 [.slice (some ⟨sb,0,none⟩) (ns u) (ns u)]:=by
   rw [← e1,← e2,← e3];rfl
  rw [e];exact oZ
 simp [-Int.natCast_add,-List.getD_eq_getElem?_getD,eP,eQ,eR,wi]
 exact ih _ _ _ _ ⟨i+1,(u.1,u.2.1,lv,lb,ls,()),some ⟨vb,0,none⟩,some ⟨bb,0,none⟩,some ⟨sb,0,none⟩,rfl,by omega,⟨Rv2,Rb2,Rs2⟩,sm',oZ',oRZ,((kF.trans K3).fresh kX (by simp;omega)).fresh kZ (by simp;omega),rfl⟩ (by omega) (by repeat' constructor)
end Go.Proofs.YtcgmchechmbmeaaDoor.base
end
section
set_option maxRecDepth 100000
namespace Go.Proofs.YtcgmchechmbmeaaDoor.base
open Go.Sh gen
theorem Zs2:Tryd.prog.follows .mixedOrders=true:=by kernel_rfl
def Zla:List FuncId:=[9,11,12,13,15,24,25,33,34,35,36,37,38,39,40,41,42,43,44,45,46,47,48,49,53,54,55,56,58,59,60,62,63,64,65,66,67,68,69,70,72,73,76,77,79,83]
theorem Z9w:Sh.tabCheck Tryd.prog Zla=true:=by kernel_rfl
theorem nm1:Sh.isVal (.string ⟨[80,97,114,97,109].toArray⟩) (Sh.call Tryd.prog (Sh.tabOf Tryd.prog Zla) Sh.noSums 100000 15 [.int .i64 1] (Sh.memG Tryd.prog []))=true:=by kernel_rfl
theorem nm2:Sh.isVal (.string ⟨[67,111,110,115,116].toArray⟩) (Sh.call Tryd.prog (Sh.tabOf Tryd.prog Zla) Sh.noSums 100000 15 [.int .i64 2] (Sh.memG Tryd.prog []))=true:=by kernel_rfl
theorem nm3:Sh.isVal (.string ⟨[65,100,100].toArray⟩) (Sh.call Tryd.prog (Sh.tabOf Tryd.prog Zla) Sh.noSums 100000 15 [.int .i64 3] (Sh.memG Tryd.prog []))=true:=by kernel_rfl
theorem nm4:Sh.isVal (.string ⟨[83,117,98].toArray⟩) (Sh.call Tryd.prog (Sh.tabOf Tryd.prog Zla) Sh.noSums 100000 15 [.int .i64 4] (Sh.memG Tryd.prog []))=true:=by kernel_rfl
theorem nm5:Sh.isVal (.string ⟨[77,117,108].toArray⟩) (Sh.call Tryd.prog (Sh.tabOf Tryd.prog Zla) Sh.noSums 100000 15 [.int .i64 5] (Sh.memG Tryd.prog []))=true:=by kernel_rfl
theorem nm6:Sh.isVal (.string ⟨[68,105,118].toArray⟩) (Sh.call Tryd.prog (Sh.tabOf Tryd.prog Zla) Sh.noSums 100000 15 [.int .i64 6] (Sh.memG Tryd.prog []))=true:=by kernel_rfl
theorem nm7:Sh.isVal (.string ⟨[82,101,109].toArray⟩) (Sh.call Tryd.prog (Sh.tabOf Tryd.prog Zla) Sh.noSums 100000 15 [.int .i64 7] (Sh.memG Tryd.prog []))=true:=by kernel_rfl
theorem nm8:Sh.isVal (.string ⟨[78,101,103].toArray⟩) (Sh.call Tryd.prog (Sh.tabOf Tryd.prog Zla) Sh.noSums 100000 15 [.int .i64 8] (Sh.memG Tryd.prog []))=true:=by kernel_rfl
theorem nm9:Sh.isVal (.string ⟨[78,111,116].toArray⟩) (Sh.call Tryd.prog (Sh.tabOf Tryd.prog Zla) Sh.noSums 100000 15 [.int .i64 9] (Sh.memG Tryd.prog []))=true:=by kernel_rfl
theorem Yab:Sh.isVal (.string ⟨[69,113].toArray⟩) (Sh.call Tryd.prog (Sh.tabOf Tryd.prog Zla) Sh.noSums 100000 15 [.int .i64 10] (Sh.memG Tryd.prog []))=true:=by kernel_rfl
theorem Ya4:Sh.isVal (.string ⟨[78,101].toArray⟩) (Sh.call Tryd.prog (Sh.tabOf Tryd.prog Zla) Sh.noSums 100000 15 [.int .i64 11] (Sh.memG Tryd.prog []))=true:=by kernel_rfl
theorem Ybk:Sh.isVal (.string ⟨[76,116].toArray⟩) (Sh.call Tryd.prog (Sh.tabOf Tryd.prog Zla) Sh.noSums 100000 15 [.int .i64 12] (Sh.memG Tryd.prog []))=true:=by kernel_rfl
theorem Yby:Sh.isVal (.string ⟨[76,101].toArray⟩) (Sh.call Tryd.prog (Sh.tabOf Tryd.prog Zla) Sh.noSums 100000 15 [.int .i64 13] (Sh.memG Tryd.prog []))=true:=by kernel_rfl
theorem Ybd:Sh.isVal (.string ⟨[66,101,108,111,119].toArray⟩) (Sh.call Tryd.prog (Sh.tabOf Tryd.prog Zla) Sh.noSums 100000 15 [.int .i64 14] (Sh.memG Tryd.prog []))=true:=by kernel_rfl
theorem Ybg:Sh.isVal (.string ⟨[84,121,112,101,79,102].toArray⟩) (Sh.call Tryd.prog (Sh.tabOf Tryd.prog Zla) Sh.noSums 100000 15 [.int .i64 15] (Sh.memG Tryd.prog []))=true:=by kernel_rfl
theorem Yaj:Sh.isVal (.string ⟨[76,101,110,79,102].toArray⟩) (Sh.call Tryd.prog (Sh.tabOf Tryd.prog Zla) Sh.noSums 100000 15 [.int .i64 16] (Sh.memG Tryd.prog []))=true:=by kernel_rfl
theorem Yaz:Sh.isVal (.string ⟨[87,111,114,100].toArray⟩) (Sh.call Tryd.prog (Sh.tabOf Tryd.prog Zla) Sh.noSums 100000 15 [.int .i64 17] (Sh.memG Tryd.prog []))=true:=by kernel_rfl
theorem Ya1:Sh.isVal (.string ⟨[87,111,114,100,65,116].toArray⟩) (Sh.call Tryd.prog (Sh.tabOf Tryd.prog Zla) Sh.noSums 100000 15 [.int .i64 18] (Sh.memG Tryd.prog []))=true:=by kernel_rfl
theorem Ybx:Sh.isVal (.string ⟨[80,117,116].toArray⟩) (Sh.call Tryd.prog (Sh.tabOf Tryd.prog Zla) Sh.noSums 100000 15 [.int .i64 19] (Sh.memG Tryd.prog []))=true:=by kernel_rfl
theorem Ya3:Sh.isVal (.string ⟨[80,117,116,65,116].toArray⟩) (Sh.call Tryd.prog (Sh.tabOf Tryd.prog Zla) Sh.noSums 100000 15 [.int .i64 20] (Sh.memG Tryd.prog []))=true:=by kernel_rfl
theorem Yap:Sh.isVal (.string ⟨[80,104,105].toArray⟩) (Sh.call Tryd.prog (Sh.tabOf Tryd.prog Zla) Sh.noSums 100000 15 [.int .i64 21] (Sh.memG Tryd.prog []))=true:=by kernel_rfl
theorem Yaf:Sh.isVal (.string ⟨[71,117,97,114,100].toArray⟩) (Sh.call Tryd.prog (Sh.tabOf Tryd.prog Zla) Sh.noSums 100000 15 [.int .i64 22] (Sh.memG Tryd.prog []))=true:=by kernel_rfl
theorem Yat:Sh.isVal (.string ⟨[80,111,108,108].toArray⟩) (Sh.call Tryd.prog (Sh.tabOf Tryd.prog Zla) Sh.noSums 100000 15 [.int .i64 23] (Sh.memG Tryd.prog []))=true:=by kernel_rfl
def Z95:List (List UInt8):=[[],[80,97,114,97,109],[67,111,110,115,116],[65,100,100],[83,117,98],[77,117,108],[68,105,118],[82,101,109],[78,101,103],[78,111,116],[69,113],[78,101],[76,116],[76,101],[66,101,108,111,119],[84,121,112,101,79,102],[76,101,110,79,102],[87,111,114,100],[87,111,114,100,65,116],[80,117,116],[80,117,116,65,116],[80,104,105],[71,117,97,114,100],[80,111,108,108]]
def nmL:List (List Value × Value):=[([.int .i64 1],.string ⟨[80,97,114,97,109].toArray⟩),([.int .i64 2],.string ⟨[67,111,110,115,116].toArray⟩),([.int .i64 3],.string ⟨[65,100,100].toArray⟩),([.int .i64 4],.string ⟨[83,117,98].toArray⟩),([.int .i64 5],.string ⟨[77,117,108].toArray⟩),([.int .i64 6],.string ⟨[68,105,118].toArray⟩),([.int .i64 7],.string ⟨[82,101,109].toArray⟩),([.int .i64 8],.string ⟨[78,101,103].toArray⟩),([.int .i64 9],.string ⟨[78,111,116].toArray⟩),([.int .i64 10],.string ⟨[69,113].toArray⟩),([.int .i64 11],.string ⟨[78,101].toArray⟩),([.int .i64 12],.string ⟨[76,116].toArray⟩),([.int .i64 13],.string ⟨[76,101].toArray⟩),([.int .i64 14],.string ⟨[66,101,108,111,119].toArray⟩),([.int .i64 15],.string ⟨[84,121,112,101,79,102].toArray⟩),([.int .i64 16],.string ⟨[76,101,110,79,102].toArray⟩),([.int .i64 17],.string ⟨[87,111,114,100].toArray⟩),([.int .i64 18],.string ⟨[87,111,114,100,65,116].toArray⟩),([.int .i64 19],.string ⟨[80,117,116].toArray⟩),([.int .i64 20],.string ⟨[80,117,116,65,116].toArray⟩),([.int .i64 21],.string ⟨[80,104,105].toArray⟩),([.int .i64 22],.string ⟨[71,117,97,114,100].toArray⟩),([.int .i64 23],.string ⟨[80,111,108,108].toArray⟩)]
def Zyh:Zb4:=fun f=>if f=15 then nmL else []
theorem Zx:Zlk Tryd.prog Zyh:=by
 intro f p hp
 unfold Zyh at hp
 split at hp
 ·rename_i hf
  subst hf
  simp only [nmL,List.mem_cons,List.not_mem_nil,or_false] at hp
  have key:∀ (a:List Value) (v:Value),Zdk a=true→Zaz v=true→Sh.isVal v (Sh.call Tryd.prog (Sh.tabOf Tryd.prog Zla) Sh.noSums 100000 15 a (Sh.memG Tryd.prog []))=true→_:=fun a v h1 h2 h=>fun w=>Sh.closed_val Zs2 (Sh.tab_ok Z9w) (Sh.noSums_ok _) 100000 15 Tryd.func15 (by kernel_rfl) (gs:=[]) h1 h2 h w (fun p hp=>by simp at hp)
  have fin:Tryd.prog.funcs[15]?=some Tryd.f15:=Tryd.func15
  rcases hp with rfl | rfl | rfl | rfl | rfl | rfl | rfl | rfl | rfl | rfl | rfl | rfl | rfl | rfl | rfl | rfl | rfl | rfl | rfl | rfl | rfl | rfl | rfl
  ·exact⟨rfl,rfl,⟨Tryd.f15,Tryd.func15,by kernel_rfl,by kernel_rfl⟩,key _ _ rfl rfl nm1⟩
  ·exact⟨rfl,rfl,⟨Tryd.f15,Tryd.func15,by kernel_rfl,by kernel_rfl⟩,key _ _ rfl rfl nm2⟩
  ·exact⟨rfl,rfl,⟨Tryd.f15,Tryd.func15,by kernel_rfl,by kernel_rfl⟩,key _ _ rfl rfl nm3⟩
  ·exact⟨rfl,rfl,⟨Tryd.f15,Tryd.func15,by kernel_rfl,by kernel_rfl⟩,key _ _ rfl rfl nm4⟩
  ·exact⟨rfl,rfl,⟨Tryd.f15,Tryd.func15,by kernel_rfl,by kernel_rfl⟩,key _ _ rfl rfl nm5⟩
  ·exact⟨rfl,rfl,⟨Tryd.f15,Tryd.func15,by kernel_rfl,by kernel_rfl⟩,key _ _ rfl rfl nm6⟩
  ·exact⟨rfl,rfl,⟨Tryd.f15,Tryd.func15,by kernel_rfl,by kernel_rfl⟩,key _ _ rfl rfl nm7⟩
  ·exact⟨rfl,rfl,⟨Tryd.f15,Tryd.func15,by kernel_rfl,by kernel_rfl⟩,key _ _ rfl rfl nm8⟩
  ·exact⟨rfl,rfl,⟨Tryd.f15,Tryd.func15,by kernel_rfl,by kernel_rfl⟩,key _ _ rfl rfl nm9⟩
  ·exact⟨rfl,rfl,⟨Tryd.f15,Tryd.func15,by kernel_rfl,by kernel_rfl⟩,key _ _ rfl rfl Yab⟩
  ·exact⟨rfl,rfl,⟨Tryd.f15,Tryd.func15,by kernel_rfl,by kernel_rfl⟩,key _ _ rfl rfl Ya4⟩
  ·exact⟨rfl,rfl,⟨Tryd.f15,Tryd.func15,by kernel_rfl,by kernel_rfl⟩,key _ _ rfl rfl Ybk⟩
  ·exact⟨rfl,rfl,⟨Tryd.f15,Tryd.func15,by kernel_rfl,by kernel_rfl⟩,key _ _ rfl rfl Yby⟩
  ·exact⟨rfl,rfl,⟨Tryd.f15,Tryd.func15,by kernel_rfl,by kernel_rfl⟩,key _ _ rfl rfl Ybd⟩
  ·exact⟨rfl,rfl,⟨Tryd.f15,Tryd.func15,by kernel_rfl,by kernel_rfl⟩,key _ _ rfl rfl Ybg⟩
  ·exact⟨rfl,rfl,⟨Tryd.f15,Tryd.func15,by kernel_rfl,by kernel_rfl⟩,key _ _ rfl rfl Yaj⟩
  ·exact⟨rfl,rfl,⟨Tryd.f15,Tryd.func15,by kernel_rfl,by kernel_rfl⟩,key _ _ rfl rfl Yaz⟩
  ·exact⟨rfl,rfl,⟨Tryd.f15,Tryd.func15,by kernel_rfl,by kernel_rfl⟩,key _ _ rfl rfl Ya1⟩
  ·exact⟨rfl,rfl,⟨Tryd.f15,Tryd.func15,by kernel_rfl,by kernel_rfl⟩,key _ _ rfl rfl Ybx⟩
  ·exact⟨rfl,rfl,⟨Tryd.f15,Tryd.func15,by kernel_rfl,by kernel_rfl⟩,key _ _ rfl rfl Ya3⟩
  ·exact⟨rfl,rfl,⟨Tryd.f15,Tryd.func15,by kernel_rfl,by kernel_rfl⟩,key _ _ rfl rfl Yap⟩
  ·exact⟨rfl,rfl,⟨Tryd.f15,Tryd.func15,by kernel_rfl,by kernel_rfl⟩,key _ _ rfl rfl Yaf⟩
  ·exact⟨rfl,rfl,⟨Tryd.f15,Tryd.func15,by kernel_rfl,by kernel_rfl⟩,key _ _ rfl rfl Yat⟩
 ·simp at hp
theorem known:Sh.isVal (.bool true) (Sh.call Tryd.prog (Sh.tabOf Tryd.prog Zla) Zyh 100000 9 [] (Sh.memG Tryd.prog []))=true:=by kernel_rfl
def Z5v:Zb4:=fun f=>if f=9 then [([],.bool true)] else Zyh f
theorem Z5n:Zlk Tryd.prog Z5v:=by
 intro f p hp
 unfold Z5v at hp
 split at hp
 ·rename_i hf
  subst hf
  simp only [List.mem_cons,List.not_mem_nil,or_false] at hp
  subst hp
  exact⟨rfl,rfl,⟨Tryd.f9,Tryd.func9,by kernel_rfl,by kernel_rfl⟩,fun w=>Sh.closed_val Zs2 (Sh.tab_ok Z9w) Zx 100000 9 Tryd.func9 (by kernel_rfl) (gs:=[]) (by kernel_rfl) (by kernel_rfl) known w (fun p hp=>by simp at hp)⟩
 ·exact Zx f p hp
end Go.Proofs.YtcgmchechmbmeaaDoor.base
end
section
set_option maxRecDepth 100000
namespace Go.Proofs.YtcgmchechmbmeaaDoor.base
open Go.Sh gen
variable {S:Zb4}{m:Mem}
def Zd1 (op:Int):List UInt8:=if 1≤op∧op≤23 then Z95.getD op.toNat [] else []
theorem Z1z (op:Int):(Zd1 op=[])↔¬ (1≤op∧op≤23):=by
 rcases Zpx op with (rfl | rfl | rfl | rfl | rfl | rfl | rfl | rfl | rfl | rfl | rfl | rfl | rfl | rfl | rfl | rfl | rfl | rfl | rfl | rfl | rfl | rfl | rfl | hno)
 all_goals first
  | (simp [Zd1,Z95];done)
  | (unfold Zd1;rw [if_neg (by omega)];simp;omega)
theorem Z09 (hS:S 15=nmL)(op:Int):Zaq Tryd.prog TT S 15 [.int .i64 op] m=some (.string ⟨(Zd1 op).toArray⟩,m):=by
 rcases Zpx op with (rfl | rfl | rfl | rfl | rfl | rfl | rfl | rfl | rfl | rfl | rfl | rfl | rfl | rfl | rfl | rfl | rfl | rfl | rfl | rfl | rfl | rfl | rfl | hno)
 ·exact Zc2 (p:=([.int .i64 1],.string ⟨(Zd1 1).toArray⟩)) (by rw [hS];rfl)
 ·exact Zc2 (p:=([.int .i64 2],.string ⟨(Zd1 2).toArray⟩)) (by rw [hS];rfl)
 ·exact Zc2 (p:=([.int .i64 3],.string ⟨(Zd1 3).toArray⟩)) (by rw [hS];rfl)
 ·exact Zc2 (p:=([.int .i64 4],.string ⟨(Zd1 4).toArray⟩)) (by rw [hS];rfl)
 ·exact Zc2 (p:=([.int .i64 5],.string ⟨(Zd1 5).toArray⟩)) (by rw [hS];rfl)
 ·exact Zc2 (p:=([.int .i64 6],.string ⟨(Zd1 6).toArray⟩)) (by rw [hS];rfl)
 ·exact Zc2 (p:=([.int .i64 7],.string ⟨(Zd1 7).toArray⟩)) (by rw [hS];rfl)
 ·exact Zc2 (p:=([.int .i64 8],.string ⟨(Zd1 8).toArray⟩)) (by rw [hS];rfl)
 ·exact Zc2 (p:=([.int .i64 9],.string ⟨(Zd1 9).toArray⟩)) (by rw [hS];rfl)
 ·exact Zc2 (p:=([.int .i64 10],.string ⟨(Zd1 10).toArray⟩)) (by rw [hS];rfl)
 ·exact Zc2 (p:=([.int .i64 11],.string ⟨(Zd1 11).toArray⟩)) (by rw [hS];rfl)
 ·exact Zc2 (p:=([.int .i64 12],.string ⟨(Zd1 12).toArray⟩)) (by rw [hS];rfl)
 ·exact Zc2 (p:=([.int .i64 13],.string ⟨(Zd1 13).toArray⟩)) (by rw [hS];rfl)
 ·exact Zc2 (p:=([.int .i64 14],.string ⟨(Zd1 14).toArray⟩)) (by rw [hS];rfl)
 ·exact Zc2 (p:=([.int .i64 15],.string ⟨(Zd1 15).toArray⟩)) (by rw [hS];rfl)
 ·exact Zc2 (p:=([.int .i64 16],.string ⟨(Zd1 16).toArray⟩)) (by rw [hS];rfl)
 ·exact Zc2 (p:=([.int .i64 17],.string ⟨(Zd1 17).toArray⟩)) (by rw [hS];rfl)
 ·exact Zc2 (p:=([.int .i64 18],.string ⟨(Zd1 18).toArray⟩)) (by rw [hS];rfl)
 ·exact Zc2 (p:=([.int .i64 19],.string ⟨(Zd1 19).toArray⟩)) (by rw [hS];rfl)
 ·exact Zc2 (p:=([.int .i64 20],.string ⟨(Zd1 20).toArray⟩)) (by rw [hS];rfl)
 ·exact Zc2 (p:=([.int .i64 21],.string ⟨(Zd1 21).toArray⟩)) (by rw [hS];rfl)
 ·exact Zc2 (p:=([.int .i64 22],.string ⟨(Zd1 22).toArray⟩)) (by rw [hS];rfl)
 ·exact Zc2 (p:=([.int .i64 23],.string ⟨(Zd1 23).toArray⟩)) (by rw [hS];rfl)
 ·have hf:(S 15).find? (fun p=>eqL p.1 [Value.int .i64 op])=none:=by
   rw [hS,List.find?_eq_none]
   intro p hp
   simp only [nmL,List.mem_cons,List.not_mem_nil,or_false] at hp
   rcases hp with rfl | rfl | rfl | rfl | rfl | rfl | rfl | rfl | rfl | rfl | rfl | rfl | rfl | rfl | rfl | rfl | rfl | rfl | rfl | rfl | rfl | rfl | rfl
   all_goals (simp [eqL,eqV];omega)
  have e0:Zd1 op=[]:=by unfold Zd1;rw [if_neg (by omega)]
  rw [e0]
  refine Z6n 3 [8] k15 hf rfl ?_
  rcases hno with h | h
  ·simp [h]
  ·have h1:¬ op < 1:=by omega
   simp [h,h1]
theorem Z2v (hS:S 15=nmL):Z9p S:=by
 intro m op
 refine⟨Zd1 op,Z09 hS op,?_⟩
 rw [Z1z]
 unfold Zpg
 rw [Bool.and_eq_false_iff,decide_eq_false_iff_not,decide_eq_false_iff_not]
 omega
structure Nz (S:Zb4):Prop where
 name:S 15=nmL
 e:∀ f,f≠15→f≠9→S f=[]
theorem nz:Nz Z5v:=⟨rfl,fun f h1 h2=>by simp [Z5v,Zyh,h1,h2]⟩
theorem Nz.nk (h:Nz S):Nk S:=
 ⟨h.e _ (by decide) (by decide),h.e _ (by decide) (by decide),h.e _ (by decide) (by decide),h.e _ (by decide) (by decide),h.e _ (by decide) (by decide),h.e _ (by decide) (by decide),
  ⟨Z2v h.name,h.e _ (by decide) (by decide),h.e _ (by decide) (by decide),h.e _ (by decide) (by decide),h.e _ (by decide) (by decide),h.e _ (by decide) (by decide),h.e _ (by decide) (by decide),h.e _ (by decide) (by decide),h.e _ (by decide) (by decide),h.e _ (by decide) (by decide)⟩,
  ⟨h.e _ (by decide) (by decide),h.e _ (by decide) (by decide),h.e _ (by decide) (by decide),h.e _ (by decide) (by decide)⟩,
  ⟨h.e _ (by decide) (by decide),h.e _ (by decide) (by decide),h.e _ (by decide) (by decide),h.e _ (by decide) (by decide),h.e _ (by decide) (by decide),h.e _ (by decide) (by decide)⟩,
  ⟨h.e _ (by decide) (by decide),h.e _ (by decide) (by decide),h.e _ (by decide) (by decide),h.e _ (by decide) (by decide),h.e _ (by decide) (by decide),h.e _ (by decide) (by decide),h.e _ (by decide) (by decide)⟩⟩
theorem Zwv {u:UnT.D}{s:StS}(h:Zjj u=some s):Zj u=true∧Zsm u=true∧Zcd u=some s∧Zp4 u s.1=true∧Zm1 u=true∧Zni u=true:=by
 unfold Zjj at h
 split at h
 ·rename_i h1
  rw [Bool.and_eq_true] at h1
  obtain⟨h2,h3⟩:=Option.filter_eq_some_iff.1 h
  rw [Bool.and_eq_true,Bool.and_eq_true] at h3
  exact⟨h1.1,h1.2,h2,h3.1.1,h3.1.2,h3.2⟩
 ·cases h
end Go.Proofs.YtcgmchechmbmeaaDoor.base
end
section
set_option maxRecDepth 100000
namespace Go.Proofs.YtcgmchechmbmeaaDoor.base
open Go.Sh gen
variable {S:Zb4}
theorem Nz.nch (h:Nz S):Nch S:=by
 refine⟨⟨?_,?_,?_,?_,?_⟩,?_,?_,?_,?_,?_,?_,?_⟩
 all_goals exact h.e _ (by decide) (by decide)
def Z98 (S:Zb4)(u:UnT.D)(V:Bool):Prop:=∀ (m:Mem) {Q:Nat→Prop} {vo bo so:Option Addr},UAt Q m u vo bo so→(∀ f,Q f→f < m.next)→
 (∃ m1,Zaq Tryd.prog TT S 11 [.agg (Za1 u vo bo so).toArray] m=some (.bool V,m1)∧Zaa m m1 [])∧∃ m1,Zaq Tryd.prog TT S 10 [.agg (Za1 u vo bo so).toArray] m=some (.bool V,m1)∧Zaa m m1 []
theorem Zw3 (hN:Nk S)(hC:Nch S){u:UnT.D}(hz:Zli u)(hzv:nv u≤20000000000000)(hzb:nb u≤20000000000000)(hzs:ns u≤20000000000000){O I:List Int}(hT:∀ s,Zjj u=some s→Zw0 u O I)
  (hO:∀ s,Zjj u=some s→(∃ sn,Zwd u (sn,O.reverse,[]))∧(O.length=nb u→∀ a b:Nat,a < nb u→b < nb u→(upF I (a:Int) (nb u+2) (b:Int)=true↔¬ Av u a b))):Z98 S u (Zht u O I):=by
 intro m Q vo bo so hU hQ
 obtain⟨_,m1,c1,rfl,k1⟩:=Zxt hN hU hQ hz hzv hzb hzs hT
 obtain⟨_,m2,c2,rfl,k2⟩:=Zvq hC hU hQ hz Zo5
 rw [Zxf hO] at c2
 exact⟨⟨m1,c1,k1⟩,m2,c2,k2⟩
theorem Zuu (hN:Nk S)(hC:Nch S){u:UnT.D}(hz:Zli u)(hzv:nv u≤20000000000000)(hzb:nb u≤20000000000000)(hzs:ns u≤20000000000000):∃ V,Z98 S u V:=by
 cases hp:Zjj u with
 | none=>exact⟨_,Zw3 hN hC hz hzv hzb hzs (O:=[]) (I:=[]) (fun s h=>by rw [hp] at h;cases h) (fun s h=>by rw [hp] at h;cases h)⟩
 | some s =>
  obtain⟨h1,_,_,_,h5,_⟩:=Zwv hp
  obtain⟨O,I,hT,hO,hI⟩:=Z6 (Zpy h5) (Zk h1)
  exact⟨_,Zw3 hN hC hz hzv hzb hzs (fun _ _=>hT) (fun _ _=>⟨hO,hI⟩)⟩
theorem Sz.small {s:Us}(h:Sz s)(hv:s.vals.length≤300)(hb:s.blks.length≤20)(hs:s.sts.length≤330):Zl3 1000 s.un:=
 ⟨by show s.vals.length≤_;omega,by show s.blks.length≤_;omega,by show s.sts.length≤_;omega,fun x hx=>Nat.le_trans (h.v x hx).1 (by decide),fun x hx=>by have:=h.b x hx;omega,fun x hx=>⟨by have:=(h.t x hx).1;omega,fun f hf=>by have:=(h.t x hx).2 f hf;omega⟩⟩
end Go.Proofs.YtcgmchechmbmeaaDoor.base
end
