/- This text proves what kinds.Same and the document's Same answer Zdh the abstract run: whether two types are the same data. Condition: nothing is known of their calls ahead ('S f = []'). -/
import Derived.Test.YtbldiceiindbdaaGreatDoorVkA
set_option linter.unusedVariables false
set_option linter.unusedSimpArgs false
set_option maxRecDepth 100000
namespace Go.Proofs.YtbldiceiindbdaaGreatDoor.base
open Go.Sh gen
variable {S:Zed}{m:Mem}
open Classical in
noncomputable def Zub {α:Type}(x y:α):Bool:=decide (x=y)
theorem Zow {α:Type}{x y:α}(h:x=y):Zub x y=true:=by unfold Zub;simp [h]
theorem Zd0 {α:Type}{x y:α}(h:¬ x=y):Zub x y=false:=by unfold Zub;simp [h]
theorem Zfo {x:Zdz.D}{c:List Value}(h:At m Zdz x c):∃ ao f,c=[.string ⟨x.1.toArray⟩,.slice ao x.2.1.length x.2.1.length,.int .i64 x.2.2.1,.int .i64 x.2.2.2.1]∧Rs m ao x.2.1.length ((show List Int from x.2.1).map (Value.int .i64)) 3 1 f:=by
 obtain⟨_,_,rfl,rfl,_,_,rfl,⟨ao,css,f,rfl,h2,h3,h4⟩,_,_,rfl,rfl,_,_,rfl,rfl,rfl⟩:=h
 rw [Zug (e:=3) h2 h3] at h4
 exact⟨ao,f,rfl,h4⟩
structure Z7x (m:Mem)(x:Zb0.D)(c:List Value)(ao bo:Option Addr)(ca cb:List (List Value))(f g:Nat):Prop where
 c:c=[.int .i64 x.1,.string ⟨x.2.1.toArray⟩,.int .i64 x.2.2.1,.slice ao x.2.2.2.1.length x.2.2.2.1.length,.slice bo x.2.2.2.2.1.length x.2.2.2.2.1.length]
 fl:ca.length=x.2.2.2.1.length
 fe:∀ (i:Nat) (d:Ze8.D) c,x.2.2.2.1[i]?=some d→ca[i]?=some c→At m Ze8 d c
 fr:Rs m ao x.2.2.2.1.length ca.flatten 27 2 f
 ml:cb.length=x.2.2.2.2.1.length
 me:∀ (i:Nat) (d:Zdz.D) c,x.2.2.2.2.1[i]?=some d→cb[i]?=some c→At m Zdz d c
 mr:Rs m bo x.2.2.2.2.1.length cb.flatten 30 4 g
theorem Zc3 {x:Zb0.D}{c:List Value}(h:At m Zb0 x c):∃ ao bo ca cb f g,Z7x m x c ao bo ca cb f g:=by
 obtain⟨_,_,rfl,rfl,_,_,rfl,rfl,_,_,rfl,rfl,_,_,rfl,⟨ao,ca,f,rfl,h2,h3,h4⟩,_,_,rfl,⟨bo,cb,g,rfl,k2,k3,k4⟩,rfl⟩:=h
 exact⟨ao,bo,ca,cb,f,g,rfl,h2,h3,h4,k2,k3,k4⟩
structure Ns (S:Zed):Prop where
 same:S 69=[]
 sameR:S 85=[]
 eqF:S 109=[]
 eqI:S 39=[]
 sameI:S 123=[]
theorem Zyq (hN:Ns S){x y:Zb0.D}{cx cy:List Value}(hx:At m Zb0 x cx)(hy:At m Zb0 y cy)(wx:Zb0.wf x)(wy:Zb0.wf y) :
  ∃ v m1,Zbi Tryz.prog TT S 69 [.agg cx.toArray,.agg cy.toArray] m=some (v,m1)∧v=.bool (Zub x y)∧Zao m m1 []:=by
 obtain⟨ao,bo,ca,cb,f,g,hx⟩:=Zc3 hx
 obtain⟨ao',bo',ca',cb',f',g',hy⟩:=Zc3 hy
 rw [hx.c,hy.c]
 refine Zey 48 [48,83] k69 hN.same rfl ?_
 simp [-Int.natCast_add,-w69_1,-BitVec.toNat_or,-BitVec.toNat_ofInt,-BitVec.toNat_and,Zah b33,Za Za3,Zab ld3,Za Zbu,Zab ld9,Za Zau,Za Zay,Zab Zce,Za Zaq,Zab Zb1,Zac u31,Zaa u31 Zbd,Zae Zc6,Zag Zcw,Zaf Zbd,Za Zbr,Za Zap,Za Zbq,Za Zar,Zab Zbe]
 obtain⟨x1,x2,x3,x4,x5,_⟩:=x
 obtain⟨y1,y2,y3,y4,y5,_⟩:=y
 simp only
 obtain⟨oA,kA,nA⟩:=Za7 (m:=m) (cs:=[.int .i64 x1,.string ⟨x2.toArray⟩,.int .i64 x3,.slice ao x4.length x4.length,.slice bo x5.length x5.length]) (e:=33) rfl
 generalize hm1:m.new [.int .i64 x1,.string ⟨x2.toArray⟩,.int .i64 x3,.slice ao x4.length x4.length,.slice bo x5.length x5.length] 33=m1 at *
 obtain⟨oB,kB,nB⟩:=Za7 (m:=m1) (cs:=[.int .i64 y1,.string ⟨y2.toArray⟩,.int .i64 y3,.slice ao' y4.length y4.length,.slice bo' y5.length y5.length]) (e:=33) rfl
 generalize hm2:m1.new [.int .i64 y1,.string ⟨y2.toArray⟩,.int .i64 y3,.slice ao' y4.length y4.length,.slice bo' y5.length y5.length] 33=m2 at *
 have oA2:=oA.keep kB (by simp)
 have K2:=kA.trans kB
 have a0:=oA2.load1 (off:=0) rfl
 have a1:=oA2.load1 (off:=1) rfl
 have a2:=oA2.load1 (off:=2) rfl
 have a3:=oA2.load1 (off:=3) rfl
 have a4:=oA2.load1 (off:=4) rfl
 have b0:=oB.load1 (off:=0) rfl
 have b1:=oB.load1 (off:=1) rfl
 have b2:=oB.load1 (off:=2) rfl
 have b3:=oB.load1 (off:=3) rfl
 have b4:=oB.load1 (off:=4) rfl
 obtain⟨u,m3,hF,rfl,rfl⟩:=Z1r (m:=m2) hN.eqF hx.fl (fun i d c h1 h2=>(hx.fe i d c h1 h2).keep K2) (hx.fr.keep K2 (by simp)) wx.2.2.2.1.1 hy.fl (fun i d c h1 h2=>(hy.fe i d c h1 h2).keep K2) (hy.fr.keep K2 (by simp))
 simp only at hF
 by_cases c1:x1=y1
 ·subst c1
  by_cases c2:x2=y2
  ·subst c2
   by_cases c3:x3=y3
   ·subst c3
    by_cases c4:x4=y4
    ·subst c4
     have hF':=hF
     rw [decide_eq_true rfl] at hF'
     by_cases c5:x5.length=y5.length
     ·have c5':(x5.length:Int)=y5.length:=by omega
      simp [-Int.natCast_add,-BitVec.toNat_or,-BitVec.toNat_ofInt,-BitVec.toNat_and,Zah b33,Za Za3,Zab ld3,Za Zbu,Zab ld9,Za Zau,Za Zay,Zab Zce,Za Zaq,Zab Zb1,Zac u31,Zaa u31 Zbd,Zae Zc6,Zag Zcw,Zaf Zbd,Za Zbr,Za Zap,Za Zbq,Za Zar,Zab Zbe,a0,a1,a2,a3,a4,b0,b1,b2,b3,b4,c5,c5',hF']
      have ny5:y5.length≤9223372036854775807:=wy.2.2.2.2.1.1
      refine Zbg 48 [48,83] (fun d E m6=>∃ q:Nat,y5.length - q=d∧q≤y5.length∧x5.take q=y5.take q∧E=[(2,.pointer (some ⟨m.next,0,none⟩)),(3,.pointer (some ⟨m1.next,0,none⟩)),(4,.bool false),(45,.slice bo y5.length y5.length),(46,.int .i64 y5.length),(47,.int .i64 q)]∧Zao m3 m6 []) _ ⟨_,⟨0,rfl,by omega,rfl,rfl,Zaj _⟩,⟨by rfl,by rfl,by rfl,by rfl,by rfl,by rfl,trivial⟩⟩ ?_
      rintro d E m6 ih ⟨q,hq,hqx,htk,rfl,k6⟩
      have K6:=K2.trans k6
      by_cases hlt:q < y5.length
      ·have hlt':q < x5.length:=by omega
       obtain⟨bx,rfl,ox⟩:=(hx.mr.keep K6 (by simp)).rdo (by simp only;omega)
       obtain⟨bY,rfl,oy⟩:=(hy.mr.keep K6 (by simp)).rdo (by simp only;omega)
       obtain⟨e1,he1,w1⟩:=At.elem hx.ml hx.me hlt'
       obtain⟨e2,he2,w2⟩:=At.elem hy.ml hy.me hlt
       obtain⟨po,pf,rfl,hp⟩:=Zfo he1
       obtain⟨qo,qf,rfl,hq'⟩:=Zfo he2
       have lx:=ox.load (off:=q * 4) 4 (by rw [← hx.mr.1];simp only;omega)
       have ly:=oy.load (off:=q * 4) 4 (by rw [← hy.mr.1];simp only;omega)
       rw [show Zb cb.flatten (q * 4) 4=_ from w1] at lx
       rw [show Zb cb'.flatten (q * 4) 4=_ from w2] at ly
       have i1:(q:Int) < y5.length:=by omega
       have em:(q:Int)≤9223372036854775807:=by omega
       have wr:IntKind.i64.wrap ((q:Int)+1)=((q+1:Nat):Int):=by rw [Zbh (by omega) (by omega)];omega
       have hwx:=wx.2.2.2.2.1.2 _ (List.getElem_mem hlt')
       have ne:=Zrv hlt' hlt
       have st:=fun h=>Zjh hlt' hlt h htk
       obtain⟨zx,hzx⟩:∃ z,x5[q]=z:=⟨_,rfl⟩
       obtain⟨zy,hzy⟩:∃ z,y5[q]=z:=⟨_,rfl⟩
       simp only [hzx] at lx hp hwx ne st
       simp only [hzy] at ly hq' ne st
       obtain⟨n1,p1,r1,g1,_⟩:=zx
       obtain⟨n2,p2,r2,g2,_⟩:=zy
       have lx':=lx
       have ly':=ly
       simp only at lx ly hp hq'
       simp [-Int.natCast_add,-BitVec.toNat_or,-BitVec.toNat_ofInt,-BitVec.toNat_and,Zah b33,Za Za3,Zab ld3,Za Zbu,Zab ld9,Za Zau,Za Zay,Zab Zce,Za Zaq,Zab Zb1,Zac u31,Zaa u31 Zbd,Zae Zc6,Zag Zcw,Zaf Zbd,Za Zbr,Za Zap,Za Zbq,Za Zar,Zab Zbe,i1,em,hlt,hlt',lx]
       obtain⟨oz,kz,nz⟩:=Za7 (m:=m6) (cs:=[Value.string ⟨#[]⟩,.slice none 0 0,.int .i64 0,.int .i64 0]) (e:=30) rfl
       generalize hr7:Za8 _ _ _=r7
       obtain⟨m7,rfl,o7,k7⟩:=Za4 hr7 oz (by simp) (by simp [Zbk,Zco,Zbp])
       have kk7:Zao m6 m7 []:=kz.mono2 k7 (Nat.le_refl _)
       simp only [Zdh,List.take_zero,List.nil_append,List.length_cons,List.length_nil,List.drop_succ_cons,List.drop_zero,List.drop_nil,List.append_nil] at o7
       have K7:=K6.trans kk7
       have oB7:=(oB.keep k6 (by simp)).keep kk7 (by simp)
       have b47:=oB7.load1 (off:=4) rfl
       have ly7:=(oy.keep kk7 (by simp)).load (off:=q * 4) 4 (by rw [← hy.mr.1];simp only;omega)
       rw [show Zb cb'.flatten (q * 4) 4=_ from w2,hzy] at ly7
       simp only at ly7
       simp [-Int.natCast_add,-BitVec.toNat_or,-BitVec.toNat_ofInt,-BitVec.toNat_and,Zah b33,Za Za3,Zab ld3,Za Zbu,Zab ld9,Za Zau,Za Zay,Zab Zce,Za Zaq,Zab Zb1,Zac u31,Zaa u31 Zbd,Zae Zc6,Zag Zcw,Zaf Zbd,Za Zbr,Za Zap,Za Zbq,Za Zar,Zab Zbe,i1,em,hlt,hlt',b47,ly7]
       obtain⟨oz8,kz8,nz8⟩:=Za7 (m:=m7) (cs:=[Value.string ⟨#[]⟩,.slice none 0 0,.int .i64 0,.int .i64 0]) (e:=30) rfl
       generalize hr8:Za8 _ _ _=r8
       obtain⟨m8,rfl,o8,k8⟩:=Za4 hr8 oz8 (by simp) (by simp [Zbk,Zco,Zbp])
       have kk8:Zao m7 m8 []:=kz8.mono2 k8 (Nat.le_refl _)
       simp only [Zdh,List.take_zero,List.nil_append,List.length_cons,List.length_nil,List.drop_succ_cons,List.drop_zero,List.drop_nil,List.append_nil] at o8
       have K8:=K7.trans kk8
       have o78:=o7.keep kk8 (by simp)
       have u0:=o78.load1 (off:=0) rfl
       have u1:=o78.load1 (off:=1) rfl
       have u2:=o78.load1 (off:=2) rfl
       have u3:=o78.load1 (off:=3) rfl
       have v0:=o8.load1 (off:=0) rfl
       have v1:=o8.load1 (off:=1) rfl
       have v2:=o8.load1 (off:=2) rfl
       have v3:=o8.load1 (off:=3) rfl
       obtain⟨w,m9,hI,rfl,rfl⟩:=Zoz (m:=m8) hN.eqI (la:=p1) (lb:=p2) (hp.keep K8 (by simp)) hwx.2.1.1 (hq'.keep K8 (by simp))
       have fin:∀ h:¬ ((n1,p1,r1,g1,()):Zdz.D)=(n2,p2,r2,g2,()),¬ x5=y5:=fun h=>ne h
       by_cases d1:n1=n2
       ·subst d1
        by_cases d2:r1=r2
        ·subst d2
         by_cases d3:g1=g2
         ·subst d3
          by_cases d4:p1=p2
          ·have hI':=hI
           rw [decide_eq_true d4] at hI'
           subst d4
           simp [-Int.natCast_add,-BitVec.toNat_or,-BitVec.toNat_ofInt,-BitVec.toNat_and,Zah b33,Za Za3,Zab ld3,Za Zbu,Zab ld9,Za Zau,Za Zay,Zab Zce,Za Zaq,Zab Zb1,Zac u31,Zaa u31 Zbd,Zae Zc6,Zag Zcw,Zaf Zbd,Za Zbr,Za Zap,Za Zbq,Za Zar,Zab Zbe,u0,u1,u2,u3,v0,v1,v2,v3,hI',wr]
           exact ih _ _ _ _ ⟨q+1,rfl,by omega,st rfl,rfl,(k6.trans kk7).trans kk8⟩ (by omega) ⟨by rfl,by rfl,by rfl,by rfl,by rfl,by simp [Zcm],trivial⟩
          ·have hI':=hI
           rw [decide_eq_false d4] at hI'
           simp [-Int.natCast_add,-BitVec.toNat_or,-BitVec.toNat_ofInt,-BitVec.toNat_and,Zah b33,Za Za3,Zab ld3,Za Zbu,Zab ld9,Za Zau,Za Zay,Zab Zce,Za Zaq,Zab Zb1,Zac u31,Zaa u31 Zbd,Zae Zc6,Zag Zcw,Zaf Zbd,Za Zbr,Za Zap,Za Zbq,Za Zar,Zab Zbe,u0,u1,u2,u3,v0,v1,v2,v3,hI']
           exact⟨Zd0 (fun h=>fin (fun e=>d4 (congrArg (fun z=>z.2.1) e)) (congrArg (fun z=>z.2.2.2.2.1) h)),K8⟩
         ·simp [-Int.natCast_add,-BitVec.toNat_or,-BitVec.toNat_ofInt,-BitVec.toNat_and,Zah b33,Za Za3,Zab ld3,Za Zbu,Zab ld9,Za Zau,Za Zay,Zab Zce,Za Zaq,Zab Zb1,Zac u31,Zaa u31 Zbd,Zae Zc6,Zag Zcw,Zaf Zbd,Za Zbr,Za Zap,Za Zbq,Za Zar,Zab Zbe,u0,u1,u2,u3,v0,v1,v2,v3,d3]
          exact⟨Zd0 (fun h=>fin (fun e=>d3 (congrArg (fun z=>z.2.2.2.1) e)) (congrArg (fun z=>z.2.2.2.2.1) h)),K8⟩
        ·simp [-Int.natCast_add,-BitVec.toNat_or,-BitVec.toNat_ofInt,-BitVec.toNat_and,Zah b33,Za Za3,Zab ld3,Za Zbu,Zab ld9,Za Zau,Za Zay,Zab Zce,Za Zaq,Zab Zb1,Zac u31,Zaa u31 Zbd,Zae Zc6,Zag Zcw,Zaf Zbd,Za Zbr,Za Zap,Za Zbq,Za Zar,Zab Zbe,u0,u1,u2,u3,v0,v1,v2,v3,d2]
         exact⟨Zd0 (fun h=>fin (fun e=>d2 (congrArg (fun z=>z.2.2.1) e)) (congrArg (fun z=>z.2.2.2.2.1) h)),K8⟩
       ·simp [-Int.natCast_add,-BitVec.toNat_or,-BitVec.toNat_ofInt,-BitVec.toNat_and,Zah b33,Za Za3,Zab ld3,Za Zbu,Zab ld9,Za Zau,Za Zay,Zab Zce,Za Zaq,Zab Zb1,Zac u31,Zaa u31 Zbd,Zae Zc6,Zag Zcw,Zaf Zbd,Za Zbr,Za Zap,Za Zbq,Za Zar,Zab Zbe,u0,u1,u2,u3,v0,v1,v2,v3,d1]
        exact⟨Zd0 (fun h=>fin (fun e=>d1 (congrArg (fun z=>z.1) e)) (congrArg (fun z=>z.2.2.2.2.1) h)),K8⟩
      ·have i1:¬ (q:Int) < y5.length:=by omega
       have e0:=Zmv (by omega) (by omega) htk
       simp [-Int.natCast_add,-BitVec.toNat_or,-BitVec.toNat_ofInt,-BitVec.toNat_and,Zah b33,Za Za3,Zab ld3,Za Zbu,Zab ld9,Za Zau,Za Zay,Zab Zce,Za Zaq,Zab Zb1,Zac u31,Zaa u31 Zbd,Zae Zc6,Zag Zcw,Zaf Zbd,Za Zbr,Za Zap,Za Zbq,Za Zar,Zab Zbe,i1,hlt]
       exact⟨Zow (by rw [e0]),K6⟩
     ·have c5':¬ (x5.length:Int)=y5.length:=by omega
      simp [-Int.natCast_add,-BitVec.toNat_or,-BitVec.toNat_ofInt,-BitVec.toNat_and,Zah b33,Za Za3,Zab ld3,Za Zbu,Zab ld9,Za Zau,Za Zay,Zab Zce,Za Zaq,Zab Zb1,Zac u31,Zaa u31 Zbd,Zae Zc6,Zag Zcw,Zaf Zbd,Za Zbr,Za Zap,Za Zbq,Za Zar,Zab Zbe,a0,a1,a2,a3,a4,b0,b1,b2,b3,b4,c5,c5',hF']
      exact⟨Zd0 (fun h=>c5 (by rw [show x5=y5 from congrArg (fun z=>z.2.2.2.2.1) h])),K2⟩
    ·rw [decide_eq_false c4] at hF
     simp [-Int.natCast_add,-BitVec.toNat_or,-BitVec.toNat_ofInt,-BitVec.toNat_and,Zah b33,Za Za3,Zab ld3,Za Zbu,Zab ld9,Za Zau,Za Zay,Zab Zce,Za Zaq,Zab Zb1,Zac u31,Zaa u31 Zbd,Zae Zc6,Zag Zcw,Zaf Zbd,Za Zbr,Za Zap,Za Zbq,Za Zar,Zab Zbe,a0,a1,a2,a3,a4,b0,b1,b2,b3,b4,hF]
     exact⟨Zd0 (fun h=>c4 (congrArg (fun z=>z.2.2.2.1) h)),K2⟩
   ·simp [-Int.natCast_add,-BitVec.toNat_or,-BitVec.toNat_ofInt,-BitVec.toNat_and,Zah b33,Za Za3,Zab ld3,Za Zbu,Zab ld9,Za Zau,Za Zay,Zab Zce,Za Zaq,Zab Zb1,Zac u31,Zaa u31 Zbd,Zae Zc6,Zag Zcw,Zaf Zbd,Za Zbr,Za Zap,Za Zbq,Za Zar,Zab Zbe,a0,a1,a2,a3,a4,b0,b1,b2,b3,b4,c3]
    exact⟨Zd0 (fun h=>c3 (congrArg (fun z=>z.2.2.1) h)),K2⟩
  ·simp [-Int.natCast_add,-BitVec.toNat_or,-BitVec.toNat_ofInt,-BitVec.toNat_and,Zah b33,Za Za3,Zab ld3,Za Zbu,Zab ld9,Za Zau,Za Zay,Zab Zce,Za Zaq,Zab Zb1,Zac u31,Zaa u31 Zbd,Zae Zc6,Zag Zcw,Zaf Zbd,Za Zbr,Za Zap,Za Zbq,Za Zar,Zab Zbe,a0,a1,a2,a3,a4,b0,b1,b2,b3,b4,c2]
   exact⟨Zd0 (fun h=>c2 (congrArg (fun z=>z.2.1) h)),K2⟩
 ·simp [-Int.natCast_add,-BitVec.toNat_or,-BitVec.toNat_ofInt,-BitVec.toNat_and,Zah b33,Za Za3,Zab ld3,Za Zbu,Zab ld9,Za Zau,Za Zay,Zab Zce,Za Zaq,Zab Zb1,Zac u31,Zaa u31 Zbd,Zae Zc6,Zag Zcw,Zaf Zbd,Za Zbr,Za Zap,Za Zbq,Za Zar,Zab Zbe,a0,a1,a2,a3,a4,b0,b1,b2,b3,b4,c1]
  exact⟨Zd0 (fun h=>c1 (congrArg (fun z=>z.1) h)),K2⟩
end Go.Proofs.YtbldiceiindbdaaGreatDoor.base
