/- This text proves what the document's Same answers Zdh the abstract run: whether two types are the same data. Condition: nothing is known of their calls ahead ('S f = []'). -/
import Derived.Test.YtbldiceiindbdaaGreatDoorVkB
set_option linter.unusedVariables false
set_option linter.unusedSimpArgs false
set_option maxRecDepth 100000
namespace Go.Proofs.YtbldiceiindbdaaGreatDoor.base
open Go.Sh gen
variable {S:Zed}{m:Mem}
theorem Zva (hN:Ns S){x y:Zb0.D}{cx cy:List Value}(hx:At m Zb0 x cx)(hy:At m Zb0 y cy)(wx:Zb0.wf x)(wy:Zb0.wf y) :
  ∃ v m1,Zbi Tryz.prog TT S 85 [.agg cx.toArray,.agg cy.toArray] m=some (v,m1)∧v=.bool (Zub x y)∧Zao m m1 []:=by
 obtain⟨ao,bo,ca,cb,f,g,hx⟩:=Zc3 hx
 obtain⟨ao',bo',ca',cb',f',g',hy⟩:=Zc3 hy
 rw [hx.c,hy.c]
 refine Zey 9 [45,50,63,68,107] k85 hN.sameR rfl ?_
 simp [-Int.natCast_add,-w85_1,-BitVec.toNat_or,-BitVec.toNat_ofInt,-BitVec.toNat_and,Zah b33,Za Za3,Zab ld3,Za Zbu,Zab ld9,Za Zau,Za Zay,Zab Zce,Zac u28,Za Zaq,Zab Zb1,Zac u31,Zaa u28 Zcc,Zae Zhx,Zdc Zli .neq (Or.inr rfl),Zc5 u9,Zcy u3,Zaa u31 Zbd,Zae Zc6,Zag Zcw,Zaf Zbd,Za Zbr,Za Zap,Za Zbq,Za Zar,Zab Zbe]
 obtain⟨x1,x2,x3,x4,x5,_⟩:=x
 obtain⟨y1,y2,y3,y4,y5,_⟩:=y
 simp only
 obtain⟨oA,kA,nA⟩:=Za7 (m:=m) (cs:=[.int .i64 x1,.string ⟨x2.toArray⟩,.int .i64 x3,.slice ao x4.length x4.length,.slice bo x5.length x5.length]) (e:=33) rfl
 generalize hm1:m.new [.int .i64 x1,.string ⟨x2.toArray⟩,.int .i64 x3,.slice ao x4.length x4.length,.slice bo x5.length x5.length] 33=m1 at *
 obtain⟨oB,kB,nB⟩:=Za7 (m:=m1) (cs:=[.int .i64 y1,.string ⟨y2.toArray⟩,.int .i64 y3,.slice ao' y4.length y4.length,.slice bo' y5.length y5.length]) (e:=33) rfl
 generalize hm2:m1.new [.int .i64 y1,.string ⟨y2.toArray⟩,.int .i64 y3,.slice ao' y4.length y4.length,.slice bo' y5.length y5.length] 33=m2 at *
 have oA2:=oA.keep kB (by simp)
 have K2:=kA.trans kB
 have a0:=oA2.load1 (off:=0) rfl
 have a1:=oA2.load1 (off:=1) rfl
 have a2:=oA2.load1 (off:=2) rfl
 have a3:=oA2.load1 (off:=3) rfl
 have a4:=oA2.load1 (off:=4) rfl
 have b0:=oB.load1 (off:=0) rfl
 have b1:=oB.load1 (off:=1) rfl
 have b2:=oB.load1 (off:=2) rfl
 have b3:=oB.load1 (off:=3) rfl
 have b4:=oB.load1 (off:=4) rfl
 by_cases c1:x1=y1
 ·subst c1
  by_cases c2:x2=y2
  ·subst c2
   by_cases c3:x3=y3
   ·subst c3
    by_cases c4:x4.length=y4.length
    ·have c4':(x4.length:Int)=y4.length:=by omega
     by_cases c5:x5.length=y5.length
     ·have c5':(x5.length:Int)=y5.length:=by omega
      simp [-Int.natCast_add,-BitVec.toNat_or,-BitVec.toNat_ofInt,-BitVec.toNat_and,Zah b33,Za Za3,Zab ld3,Za Zbu,Zab ld9,Za Zau,Za Zay,Zab Zce,Zac u28,Za Zaq,Zab Zb1,Zac u31,Zaa u28 Zcc,Zae Zhx,Zdc Zli .neq (Or.inr rfl),Zc5 u9,Zcy u3,Zaa u31 Zbd,Zae Zc6,Zag Zcw,Zaf Zbd,Za Zbr,Za Zap,Za Zbq,Za Zar,Zab Zbe,a0,a1,a2,a3,a4,b0,b1,b2,b3,b4,c4,c4',c5,c5']
      have ny4:y4.length≤9223372036854775807:=wy.2.2.2.1.1
      have ny5:y5.length≤9223372036854775807:=wy.2.2.2.2.1.1
      refine Zbg 9 [45,50,63,68,107] (fun d E m6=>∃ q:Nat,y4.length - q=d∧q≤y4.length∧x4.take q=y4.take q∧E=[(2,.pointer (some ⟨m.next,0,none⟩)),(3,.pointer (some ⟨m1.next,0,none⟩)),(4,.bool false),(5,.int .i64 q)]∧m6=m2) _ ⟨_,⟨0,rfl,by omega,rfl,rfl,rfl⟩,⟨by rfl,by rfl,by rfl,by rfl,trivial⟩⟩ ?_
      rintro d E m6 ih ⟨q,hq,hqx,htk,rfl,rfl⟩
      by_cases hlt:q < y4.length
      ·have hlt':q < x4.length:=by omega
       obtain⟨bx,rfl,ox⟩:=(hx.fr.keep K2 (by simp)).rdo (by simp only;omega)
       obtain⟨bY,rfl,oy⟩:=(hy.fr.keep K2 (by simp)).rdo (by simp only;omega)
       obtain⟨e1,he1,w1⟩:=At.elem hx.fl hx.fe hlt'
       obtain⟨e2,he2,w2⟩:=At.elem hy.fl hy.fe hlt
       have lx:=ox.load (off:=q * 2) 2 (by rw [← hx.fr.1];simp only;omega)
       have ly:=oy.load (off:=q * 2) 2 (by rw [← hy.fr.1];simp only;omega)
       rw [show Zb ca.flatten (q * 2) 2=e1 from w1,Zfp he1] at lx
       rw [show Zb ca'.flatten (q * 2) 2=e2 from w2,Zfp he2] at ly
       have i1:(q:Int) < y4.length:=by omega
       have em:(q:Int)≤9223372036854775807:=by omega
       have wr:IntKind.i64.wrap ((q:Int)+1)=((q+1:Nat):Int):=by rw [Zbh (by omega) (by omega)];omega
       have ne:=Zrv hlt' hlt
       have st:=fun h=>Zjh hlt' hlt h htk
       obtain⟨zx,hzx⟩:∃ z,x4[q]=z:=⟨_,rfl⟩
       obtain⟨zy,hzy⟩:∃ z,y4[q]=z:=⟨_,rfl⟩
       simp only [hzx] at lx ne st
       simp only [hzy] at ly ne st
       obtain⟨n1,p1,_⟩:=zx
       obtain⟨n2,p2,_⟩:=zy
       simp only at lx ly
       by_cases d1:n1=n2
       ·subst d1
        by_cases d2:p1=p2
        ·subst d2
         simp [-Int.natCast_add,-BitVec.toNat_or,-BitVec.toNat_ofInt,-BitVec.toNat_and,Zah b33,Za Za3,Zab ld3,Za Zbu,Zab ld9,Za Zau,Za Zay,Zab Zce,Zac u28,Za Zaq,Zab Zb1,Zac u31,Zaa u28 Zcc,Zae Zhx,Zdc Zli .neq (Or.inr rfl),Zc5 u9,Zcy u3,Zaa u31 Zbd,Zae Zc6,Zag Zcw,Zaf Zbd,Za Zbr,Za Zap,Za Zbq,Za Zar,Zab Zbe,a3,b3,i1,em,hlt,hlt',lx,ly,c4,c4',wr]
         exact ih _ _ _ _ ⟨q+1,rfl,by omega,st rfl,rfl,rfl⟩ (by omega) ⟨by rfl,by rfl,by rfl,by simp [Zcm],trivial⟩
        ·simp [-Int.natCast_add,-BitVec.toNat_or,-BitVec.toNat_ofInt,-BitVec.toNat_and,Zah b33,Za Za3,Zab ld3,Za Zbu,Zab ld9,Za Zau,Za Zay,Zab Zce,Zac u28,Za Zaq,Zab Zb1,Zac u31,Zaa u28 Zcc,Zae Zhx,Zdc Zli .neq (Or.inr rfl),Zc5 u9,Zcy u3,Zaa u31 Zbd,Zae Zc6,Zag Zcw,Zaf Zbd,Za Zbr,Za Zap,Za Zbq,Za Zar,Zab Zbe,a3,b3,i1,em,hlt,hlt',lx,ly,c4,c4',d2]
         exact⟨Zd0 (fun h=>ne (fun e=>d2 (congrArg (fun z=>z.2.1) e)) (congrArg (fun z=>z.2.2.2.1) h)),K2⟩
       ·simp [-Int.natCast_add,-BitVec.toNat_or,-BitVec.toNat_ofInt,-BitVec.toNat_and,Zah b33,Za Za3,Zab ld3,Za Zbu,Zab ld9,Za Zau,Za Zay,Zab Zce,Zac u28,Za Zaq,Zab Zb1,Zac u31,Zaa u28 Zcc,Zae Zhx,Zdc Zli .neq (Or.inr rfl),Zc5 u9,Zcy u3,Zaa u31 Zbd,Zae Zc6,Zag Zcw,Zaf Zbd,Za Zbr,Za Zap,Za Zbq,Za Zar,Zab Zbe,a3,b3,i1,em,hlt,hlt',lx,ly,c4,c4',d1]
        exact⟨Zd0 (fun h=>ne (fun e=>d1 (congrArg (fun z=>z.1) e)) (congrArg (fun z=>z.2.2.2.1) h)),K2⟩
      ·have i1:¬ (q:Int) < y4.length:=by omega
       have e04:=Zmv (by omega) (by omega) htk
       subst e04
       simp [-Int.natCast_add,-BitVec.toNat_or,-BitVec.toNat_ofInt,-BitVec.toNat_and,Zah b33,Za Za3,Zab ld3,Za Zbu,Zab ld9,Za Zau,Za Zay,Zab Zce,Zac u28,Za Zaq,Zab Zb1,Zac u31,Zaa u28 Zcc,Zae Zhx,Zdc Zli .neq (Or.inr rfl),Zc5 u9,Zcy u3,Zaa u31 Zbd,Zae Zc6,Zag Zcw,Zaf Zbd,Za Zbr,Za Zap,Za Zbq,Za Zar,Zab Zbe,a3,b3,i1,hlt]
       refine Zbg 9 [45,50,63,68,107] (fun d E mA=>∃ q:Nat,y5.length - q=d∧q≤y5.length∧x5.take q=y5.take q∧E=[(2,.pointer (some ⟨m.next,0,none⟩)),(3,.pointer (some ⟨m1.next,0,none⟩)),(4,.bool false),(6,.int .i64 q)]∧Zao m6 mA []) _ ⟨_,⟨0,rfl,by omega,rfl,rfl,Zaj _⟩,⟨by rfl,by rfl,by rfl,by rfl,trivial⟩⟩ ?_
       clear ih htk hqx hlt i1 hq
       rintro d E mA ih ⟨q,hq,hqx,htk,rfl,kA6⟩
       have KA:=K2.trans kA6
       have oA3:=oA2.keep kA6 (by simp)
       have oB3:=oB.keep kA6 (by simp)
       have a4':=oA3.load1 (off:=4) rfl
       have b4':=oB3.load1 (off:=4) rfl
       by_cases hlt:q < y5.length
       ·have hlt':q < x5.length:=by omega
        obtain⟨bx,rfl,ox⟩:=(hx.mr.keep KA (by simp)).rdo (by simp only;omega)
        obtain⟨bY,rfl,oy⟩:=(hy.mr.keep KA (by simp)).rdo (by simp only;omega)
        obtain⟨e1,he1,w1⟩:=At.elem hx.ml hx.me hlt'
        obtain⟨e2,he2,w2⟩:=At.elem hy.ml hy.me hlt
        obtain⟨po,pf,rfl,hp⟩:=Zfo he1
        obtain⟨qo,qf,rfl,hq'⟩:=Zfo he2
        have lx:=ox.load (off:=q * 4) 4 (by rw [← hx.mr.1];simp only;omega)
        rw [show Zb cb.flatten (q * 4) 4=_ from w1] at lx
        have i1:(q:Int) < y5.length:=by omega
        have em:(q:Int)≤9223372036854775807:=by omega
        have wr:IntKind.i64.wrap ((q:Int)+1)=((q+1:Nat):Int):=by rw [Zbh (by omega) (by omega)];omega
        have hwx:=wx.2.2.2.2.1.2 _ (List.getElem_mem hlt')
        have ne:=Zrv hlt' hlt
        have st:=fun h=>Zjh hlt' hlt h htk
        obtain⟨zx,hzx⟩:∃ z,x5[q]=z:=⟨_,rfl⟩
        obtain⟨zy,hzy⟩:∃ z,y5[q]=z:=⟨_,rfl⟩
        simp only [hzx] at lx hp hwx ne st
        simp only [hzy] at hq' ne st
        obtain⟨n1,p1,r1,g1,_⟩:=zx
        obtain⟨n2,p2,r2,g2,_⟩:=zy
        simp only at lx hp hq'
        simp [-Int.natCast_add,-BitVec.toNat_or,-BitVec.toNat_ofInt,-BitVec.toNat_and,Zah b33,Za Za3,Zab ld3,Za Zbu,Zab ld9,Za Zau,Za Zay,Zab Zce,Zac u28,Za Zaq,Zab Zb1,Zac u31,Zaa u28 Zcc,Zae Zhx,Zdc Zli .neq (Or.inr rfl),Zc5 u9,Zcy u3,Zaa u31 Zbd,Zae Zc6,Zag Zcw,Zaf Zbd,Za Zbr,Za Zap,Za Zbq,Za Zar,Zab Zbe,i1,em,hlt,hlt',c5,c5',a4',b4',lx]
        obtain⟨oz,kz,nz⟩:=Za7 (m:=mA) (cs:=[Value.string ⟨#[]⟩,.slice none 0 0,.int .i64 0,.int .i64 0]) (e:=30) rfl
        generalize hr7:Za8 _ _ _=r7
        obtain⟨m7,rfl,o7,k7⟩:=Za4 hr7 oz (by simp) (by simp [Zbk,Zco,Zbp])
        have kk7:Zao mA m7 []:=kz.mono2 k7 (Nat.le_refl _)
        simp only [Zdh,List.take_zero,List.nil_append,List.length_cons,List.length_nil,List.drop_succ_cons,List.drop_zero,List.drop_nil,List.append_nil] at o7
        have K7:=KA.trans kk7
        have oB7:=oB3.keep kk7 (by simp)
        have b47:=oB7.load1 (off:=4) rfl
        have ly7:=(oy.keep kk7 (by simp)).load (off:=q * 4) 4 (by rw [← hy.mr.1];simp only;omega)
        rw [show Zb cb'.flatten (q * 4) 4=_ from w2,hzy] at ly7
        simp only at ly7
        simp [-Int.natCast_add,-BitVec.toNat_or,-BitVec.toNat_ofInt,-BitVec.toNat_and,Zah b33,Za Za3,Zab ld3,Za Zbu,Zab ld9,Za Zau,Za Zay,Zab Zce,Zac u28,Za Zaq,Zab Zb1,Zac u31,Zaa u28 Zcc,Zae Zhx,Zdc Zli .neq (Or.inr rfl),Zc5 u9,Zcy u3,Zaa u31 Zbd,Zae Zc6,Zag Zcw,Zaf Zbd,Za Zbr,Za Zap,Za Zbq,Za Zar,Zab Zbe,i1,em,hlt,hlt',c5,c5',b47,ly7]
        obtain⟨oz8,kz8,nz8⟩:=Za7 (m:=m7) (cs:=[Value.string ⟨#[]⟩,.slice none 0 0,.int .i64 0,.int .i64 0]) (e:=30) rfl
        generalize hr8:Za8 _ _ _=r8
        obtain⟨m8,rfl,o8,k8⟩:=Za4 hr8 oz8 (by simp) (by simp [Zbk,Zco,Zbp])
        have kk8:Zao m7 m8 []:=kz8.mono2 k8 (Nat.le_refl _)
        simp only [Zdh,List.take_zero,List.nil_append,List.length_cons,List.length_nil,List.drop_succ_cons,List.drop_zero,List.drop_nil,List.append_nil] at o8
        have K8:=K7.trans kk8
        have o78:=o7.keep kk8 (by simp)
        have uu0:=o78.load1 (off:=0) rfl
        have uu1:=o78.load1 (off:=1) rfl
        have uu2:=o78.load1 (off:=2) rfl
        have uu3:=o78.load1 (off:=3) rfl
        have v0:=o8.load1 (off:=0) rfl
        have v1:=o8.load1 (off:=1) rfl
        have v2:=o8.load1 (off:=2) rfl
        have v3:=o8.load1 (off:=3) rfl
        obtain⟨w,m9,hI,rfl,rfl⟩:=Zqc (m:=m8) hN.sameI (la:=p1) (lb:=p2) (hp.keep K8 (by simp)) hwx.2.1.1 (hq'.keep K8 (by simp))
        have fin:∀ h:¬ ((n1,p1,r1,g1,()):Zdz.D)=(n2,p2,r2,g2,()),¬ x5=y5:=fun h=>ne h
        by_cases d1:n1=n2
        ·subst d1
         by_cases d2:r1=r2
         ·subst d2
          by_cases d3:g1=g2
          ·subst d3
           by_cases d4:p1=p2
           ·have hI':=hI
            rw [decide_eq_true d4] at hI'
            subst d4
            simp [-Int.natCast_add,-BitVec.toNat_or,-BitVec.toNat_ofInt,-BitVec.toNat_and,Zah b33,Za Za3,Zab ld3,Za Zbu,Zab ld9,Za Zau,Za Zay,Zab Zce,Zac u28,Za Zaq,Zab Zb1,Zac u31,Zaa u28 Zcc,Zae Zhx,Zdc Zli .neq (Or.inr rfl),Zc5 u9,Zcy u3,Zaa u31 Zbd,Zae Zc6,Zag Zcw,Zaf Zbd,Za Zbr,Za Zap,Za Zbq,Za Zar,Zab Zbe,uu0,uu1,uu2,uu3,v0,v1,v2,v3,hI',wr]
            exact ih _ _ _ _ ⟨q+1,rfl,by omega,st rfl,rfl,(kA6.trans kk7).trans kk8⟩ (by omega) ⟨by rfl,by rfl,by rfl,by simp [Zcm],trivial⟩
           ·have hI':=hI
            rw [decide_eq_false d4] at hI'
            simp [-Int.natCast_add,-BitVec.toNat_or,-BitVec.toNat_ofInt,-BitVec.toNat_and,Zah b33,Za Za3,Zab ld3,Za Zbu,Zab ld9,Za Zau,Za Zay,Zab Zce,Zac u28,Za Zaq,Zab Zb1,Zac u31,Zaa u28 Zcc,Zae Zhx,Zdc Zli .neq (Or.inr rfl),Zc5 u9,Zcy u3,Zaa u31 Zbd,Zae Zc6,Zag Zcw,Zaf Zbd,Za Zbr,Za Zap,Za Zbq,Za Zar,Zab Zbe,uu0,uu1,uu2,uu3,v0,v1,v2,v3,hI']
            exact⟨Zd0 (fun h=>fin (fun e=>d4 (congrArg (fun z=>z.2.1) e)) (congrArg (fun z=>z.2.2.2.2.1) h)),K8⟩
          ·simp [-Int.natCast_add,-BitVec.toNat_or,-BitVec.toNat_ofInt,-BitVec.toNat_and,Zah b33,Za Za3,Zab ld3,Za Zbu,Zab ld9,Za Zau,Za Zay,Zab Zce,Zac u28,Za Zaq,Zab Zb1,Zac u31,Zaa u28 Zcc,Zae Zhx,Zdc Zli .neq (Or.inr rfl),Zc5 u9,Zcy u3,Zaa u31 Zbd,Zae Zc6,Zag Zcw,Zaf Zbd,Za Zbr,Za Zap,Za Zbq,Za Zar,Zab Zbe,uu0,uu1,uu2,uu3,v0,v1,v2,v3,d3]
           exact⟨Zd0 (fun h=>fin (fun e=>d3 (congrArg (fun z=>z.2.2.2.1) e)) (congrArg (fun z=>z.2.2.2.2.1) h)),K8⟩
         ·simp [-Int.natCast_add,-BitVec.toNat_or,-BitVec.toNat_ofInt,-BitVec.toNat_and,Zah b33,Za Za3,Zab ld3,Za Zbu,Zab ld9,Za Zau,Za Zay,Zab Zce,Zac u28,Za Zaq,Zab Zb1,Zac u31,Zaa u28 Zcc,Zae Zhx,Zdc Zli .neq (Or.inr rfl),Zc5 u9,Zcy u3,Zaa u31 Zbd,Zae Zc6,Zag Zcw,Zaf Zbd,Za Zbr,Za Zap,Za Zbq,Za Zar,Zab Zbe,uu0,uu1,uu2,uu3,v0,v1,v2,v3,d2]
          exact⟨Zd0 (fun h=>fin (fun e=>d2 (congrArg (fun z=>z.2.2.1) e)) (congrArg (fun z=>z.2.2.2.2.1) h)),K8⟩
        ·simp [-Int.natCast_add,-BitVec.toNat_or,-BitVec.toNat_ofInt,-BitVec.toNat_and,Zah b33,Za Za3,Zab ld3,Za Zbu,Zab ld9,Za Zau,Za Zay,Zab Zce,Zac u28,Za Zaq,Zab Zb1,Zac u31,Zaa u28 Zcc,Zae Zhx,Zdc Zli .neq (Or.inr rfl),Zc5 u9,Zcy u3,Zaa u31 Zbd,Zae Zc6,Zag Zcw,Zaf Zbd,Za Zbr,Za Zap,Za Zbq,Za Zar,Zab Zbe,uu0,uu1,uu2,uu3,v0,v1,v2,v3,d1]
         exact⟨Zd0 (fun h=>fin (fun e=>d1 (congrArg (fun z=>z.1) e)) (congrArg (fun z=>z.2.2.2.2.1) h)),K8⟩
       ·have i1:¬ (q:Int) < y5.length:=by omega
        have e05:=Zmv (by omega) (by omega) htk
        subst e05
        simp [-Int.natCast_add,-BitVec.toNat_or,-BitVec.toNat_ofInt,-BitVec.toNat_and,Zah b33,Za Za3,Zab ld3,Za Zbu,Zab ld9,Za Zau,Za Zay,Zab Zce,Zac u28,Za Zaq,Zab Zb1,Zac u31,Zaa u28 Zcc,Zae Zhx,Zdc Zli .neq (Or.inr rfl),Zc5 u9,Zcy u3,Zaa u31 Zbd,Zae Zc6,Zag Zcw,Zaf Zbd,Za Zbr,Za Zap,Za Zbq,Za Zar,Zab Zbe,a4',i1,hlt]
        exact⟨Zow rfl,KA⟩
     ·have c5':¬ (x5.length:Int)=y5.length:=by omega
      simp [-Int.natCast_add,-BitVec.toNat_or,-BitVec.toNat_ofInt,-BitVec.toNat_and,Zah b33,Za Za3,Zab ld3,Za Zbu,Zab ld9,Za Zau,Za Zay,Zab Zce,Zac u28,Za Zaq,Zab Zb1,Zac u31,Zaa u28 Zcc,Zae Zhx,Zdc Zli .neq (Or.inr rfl),Zc5 u9,Zcy u3,Zaa u31 Zbd,Zae Zc6,Zag Zcw,Zaf Zbd,Za Zbr,Za Zap,Za Zbq,Za Zar,Zab Zbe,a0,a1,a2,a3,a4,b0,b1,b2,b3,b4,c4,c4',c5,c5']
      exact⟨Zd0 (fun h=>c5 (by rw [show x5=y5 from congrArg (fun z=>z.2.2.2.2.1) h])),K2⟩
    ·have c4':¬ (x4.length:Int)=y4.length:=by omega
     simp [-Int.natCast_add,-BitVec.toNat_or,-BitVec.toNat_ofInt,-BitVec.toNat_and,Zah b33,Za Za3,Zab ld3,Za Zbu,Zab ld9,Za Zau,Za Zay,Zab Zce,Zac u28,Za Zaq,Zab Zb1,Zac u31,Zaa u28 Zcc,Zae Zhx,Zdc Zli .neq (Or.inr rfl),Zc5 u9,Zcy u3,Zaa u31 Zbd,Zae Zc6,Zag Zcw,Zaf Zbd,Za Zbr,Za Zap,Za Zbq,Za Zar,Zab Zbe,a0,a1,a2,a3,a4,b0,b1,b2,b3,b4,c4,c4']
     exact⟨Zd0 (fun h=>c4 (by rw [show x4=y4 from congrArg (fun z=>z.2.2.2.1) h])),K2⟩
   ·simp [-Int.natCast_add,-BitVec.toNat_or,-BitVec.toNat_ofInt,-BitVec.toNat_and,Zah b33,Za Za3,Zab ld3,Za Zbu,Zab ld9,Za Zau,Za Zay,Zab Zce,Zac u28,Za Zaq,Zab Zb1,Zac u31,Zaa u28 Zcc,Zae Zhx,Zdc Zli .neq (Or.inr rfl),Zc5 u9,Zcy u3,Zaa u31 Zbd,Zae Zc6,Zag Zcw,Zaf Zbd,Za Zbr,Za Zap,Za Zbq,Za Zar,Zab Zbe,a0,a1,a2,a3,a4,b0,b1,b2,b3,b4,c3]
    exact⟨Zd0 (fun h=>c3 (congrArg (fun z=>z.2.2.1) h)),K2⟩
  ·simp [-Int.natCast_add,-BitVec.toNat_or,-BitVec.toNat_ofInt,-BitVec.toNat_and,Zah b33,Za Za3,Zab ld3,Za Zbu,Zab ld9,Za Zau,Za Zay,Zab Zce,Zac u28,Za Zaq,Zab Zb1,Zac u31,Zaa u28 Zcc,Zae Zhx,Zdc Zli .neq (Or.inr rfl),Zc5 u9,Zcy u3,Zaa u31 Zbd,Zae Zc6,Zag Zcw,Zaf Zbd,Za Zbr,Za Zap,Za Zbq,Za Zar,Zab Zbe,a0,a1,a2,a3,a4,b0,b1,b2,b3,b4,c2]
   exact⟨Zd0 (fun h=>c2 (congrArg (fun z=>z.2.1) h)),K2⟩
 ·simp [-Int.natCast_add,-BitVec.toNat_or,-BitVec.toNat_ofInt,-BitVec.toNat_and,Zah b33,Za Za3,Zab ld3,Za Zbu,Zab ld9,Za Zau,Za Zay,Zab Zce,Zac u28,Za Zaq,Zab Zb1,Zac u31,Zaa u28 Zcc,Zae Zhx,Zdc Zli .neq (Or.inr rfl),Zc5 u9,Zcy u3,Zaa u31 Zbd,Zae Zc6,Zag Zcw,Zaf Zbd,Za Zbr,Za Zap,Za Zbq,Za Zar,Zab Zbe,a0,a1,a2,a3,a4,b0,b1,b2,b3,b4,c1]
  exact⟨Zd0 (fun h=>c1 (congrArg (fun z=>z.1) h)),K2⟩
end Go.Proofs.YtbldiceiindbdaaGreatDoor.base
