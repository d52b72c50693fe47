/- This text proves what eval's 'come' does, Zb5 the abstract run. Condition: nothing is known of the calls ahead ('S f = []'). -/
import Derived.Test.YtlogdohlcdhepaaDoorM3
set_option linter.unusedVariables false
set_option linter.unusedSimpArgs false
section
set_option maxRecDepth 100000
namespace Go.Proofs.YtlogdohlcdhepaaDoor.base
open Go.Sh gen
variable {S:Zc}{m:Mem}
def Zks:List Int→Int→Nat
 | [],_=>0
 | [_],_=>0
 | a::b::r,f=>if a=f then 0 else Zks (b::r) f+1
theorem Z73 {l:List Int}{f:Int}{i:Nat}(h1:∀ k,k < i→l.getD k 0≠f)(h2:i≤l.length - 1)(h3:l.length - 1≤i∨l.getD i 0=f):Zks l f=i:=by
  induction l generalizing i with
  | nil=>simp at h2;subst h2;rfl
  | cons a t ih =>
    cases t with
    | nil=>simp at h2;subst h2;rfl
    | cons b r =>
      unfold Zks
      by_cases ha:a=f
      · rw [if_pos ha]
        cases i with
        | zero=>rfl
        | succ i=>exact absurd (by simpa using ha) (h1 0 (by omega))
      · rw [if_neg ha]
        cases i with
        | zero => rcases h3 with h3 | h3
                  · simp at h3
                  · exact absurd (by simpa using h3) ha
        | succ i =>
          rw [ih (i:=i) (fun k hk=>by have:=h1 (k+1) (by omega);simpa using this) (by simp at h2 ⊢;omega) (by
            rcases h3 with h3 | h3
            · left;simp at h3 ⊢;omega
            · right;simpa using h3)]
theorem Z7e {l:List Int}{f:Int}(h:l≠[]):Zks l f < l.length:=by
 induction l with
 | nil=>exact absurd rfl h
 | cons a t ih =>
  cases t with
  | nil=>simp [Zks]
  | cons b r =>
   unfold Zks
   split
   ·simp
   ·have:=ih (by simp)
    simp at this ⊢;omega
def Zkr (u:UnT.D)(l:List Int)(i:Nat)(ws:List Int):List Int:=l.flatMap fun v=>if (Zbd u v).1=21 then [ws.getD ((show List Int from (Zbd u v).2.2.2.2.1).getD i 0).toNat 0] else []
theorem Zyr {u:UnT.D}{l:List Int}{i j:Nat}{ws:List Int}(h:j < l.length):Zkr u (l.take (j+1)) i ws=Zkr u (l.take j) i ws++(if (Zbd u (l.getD j 0)).1=21 then [ws.getD ((show List Int from (Zbd u (l.getD j 0)).2.2.2.2.1).getD i 0).toNat 0] else []):=by
 unfold Zkr
 rw [List.take_succ_eq_append_getElem h,List.flatMap_append,List.getD_eq_getElem?_getD,List.getElem?_eq_getElem h]
 simp
theorem Zpm (u:UnT.D)(l:List Int)(i:Nat)(ws:List Int):(Zkr u l i ws).length≤l.length:=by
 induction l with
 | nil=>simp [Zkr]
 | cons a r ih =>
  have:Zkr u (a::r) i ws=(if (Zbd u a).1=21 then [ws.getD ((show List Int from (Zbd u a).2.2.2.2.1).getD i 0).toNat 0] else [])++Zkr u r i ws:=by simp [Zkr]
  rw [this,List.length_append,List.length_cons]
  split
  ·simp;omega
  ·simp;omega
theorem Z7x {u:UnT.D}{l:List Int}{i:Nat}{ws:List Int}(h:Wd ws):Wd (Zkr u l i ws):=by
 intro w hw
 unfold Zkr at hw
 rw [List.mem_flatMap] at hw
 obtain⟨v,_,hv⟩:=hw
 split at hv
 ·simp only [List.mem_singleton] at hv
  rw [hv];exact h.at_ _
 ·simp at hv
def Z38 (l p:List Int):Nat→List Int→List Int
 | 0,ws=>ws
 | j+1,ws=>(Z38 l p j ws).set (l.getD j 0).toNat (p.getD j 0)
set_option maxHeartbeats 16000000 in
theorem Z31 (hS:S 30=[]){Q:Nat→Prop}{u:UnT.D}{K:Kv}{V:Vv}(h:Ev Q m u K V)(hnu:nv u≤1000000)(hnb:nb u≤1000000){from_:Int}{to:Nat}(hto:to < nb u)
  {l pr:List Int} (el:(u.2.2.2.1[to]).1=l) (ep:(u.2.2.2.1[to]).2.2.2.2.1=pr) (hl:l.length≤1000000) (hpl:pr.length≤1000000) (hp0:pr≠[])
  (hv:∀ v∈l,(0:Int)≤v∧v < (nv u:Int)) (hph:∀ v∈l,(Zbd u v).1=21→Zks pr from_ < (Zbd u v).2.2.2.2.1.length∧(Zbd u v).2.2.2.2.1.length≤1000000∧(0:Int)≤(show List Int from (Zbd u v).2.2.2.2.1).getD (Zks pr from_) 0∧(show List Int from (Zbd u v).2.2.2.2.1).getD (Zks pr from_) 0 < (nv u:Int))
  (hs:0≤V.steps∧V.steps≤1000000000) :
  ∃ v m1,Zal Tryd.prog TT S 30 [.pointer (some ⟨K.x,0,none⟩),.int .i64 from_,.int .i64 (to:Int)] m=some (v,m1)∧
   Ev Q m1 u K { V with ws:=Z38 l (Zkr u l (Zks pr from_) V.ws) (Zkr u l (Zks pr from_) V.ws).length V.ws,steps:=V.steps+(Zkr u l (Zks pr from_) V.ws).length }∧Zag m m1 [K.f,K.wf]:=by
 obtain⟨bb,vo,no,po,hbo,ldb,hvo,hno,hpo⟩:=Zh0 h.unit hto
 rw [el] at hvo
 rw [ep] at hpo
 generalize u.2.2.2.1[to]=x at *
 have o3:=h.own.load1 (off:=3) rfl
 rw [hbo] at o3
 have t1:(to:Int) < nb u:=by omega
 have t2:(to:Int)≤9223372036854775807:=by omega
 have hnq:∀ f∈[K.f,K.wf],¬ Q f:=by
  intro f hf
  simp at hf
  rcases hf with rfl | rfl
  ·exact h.nq.1
  ·exact h.nq.2.1
 obtain⟨oZ,kZ,nZ⟩:=Zay (m:=m) (cs:=[.slice none 0 0,.int .i64 0,.int .i64 0,.slice none 0 0,.slice none 0 0,.int .i64 0]) (e:=40) rfl
 obtain⟨bx,hbx⟩:∃ bx,m.next=bx:=⟨_,rfl⟩
 obtain⟨m3,e3,oX,kX⟩:=Zap (r:=_) rfl oZ (off:=0) (vs:=Z1n x vo no po) (by simp) (by simp [Zau,Zai])
 simp [Zb5] at oX
 unfold Z1n at oX
 rw [el,ep] at oX
 have k3:=kZ.fresh kX (by simp)
 rw [hbx] at oX nZ e3
 have nb3:bx < m3.next:=oX.flt
 have h3:=h.keep0 k3
 refine Zfz 75 [75] k30 hS rfl ?_
 simp [-Int.natCast_add,Za Zgf,Za Zbl,Zaa Zgb,Zab u31 Zje,Zao Z48,Zas Z4m,Zad Zje,o3,t2,hto,ldb,hbx,e3]
 have b4:=oX.load1 (off:=4) rfl
 have b0:=oX.load1 (off:=0) rfl
 have hpo3:=hpo.keep k3 (by simp)
 have hvo3:=hvo.keep k3 (by simp)
 have hpp:0 < pr.length:=List.length_pos_iff.2 hp0
 refine Zaq 75 [75] (fun d E mE=>∃ (j:Nat),pr.length - j=d∧j≤pr.length - 1∧(∀ k,k < j→pr.getD k 0≠from_)∧mE=m3∧
  E=[(0,.pointer (some ⟨K.x,0,none⟩)),(1,.int .i64 from_),(6,.pointer (some ⟨bx,0,none⟩)),(7,.int .i64 (j:Int))]) _ ⟨_,⟨0,rfl,by omega,fun k hk=>by omega,rfl,rfl⟩,⟨by rfl,by rfl,by rfl,by rfl,trivial⟩⟩ ?_
 rintro d E mE ih ⟨j,hd,hj,hne,rfl,rfl⟩
 have w1:IntKind.i64.wrap ((pr.length:Int) - 1)=((pr.length:Int) - 1):=Zaf (by omega) (by omega)
 have jm:(j:Int)≤9223372036854775807:=by omega
 have wj:IntKind.i64.wrap ((j:Int)+1)=((j+1:Nat):Int):=by rw [Zaf (by omega) (by omega)];omega
 have jl:(j:Int) < pr.length:=by omega
 have jl':j < pr.length:=by omega
 obtain⟨pb,hpb,lj⟩:=hpo3.get jl'
 rw [hpb] at b4
 by_cases hgo:j < pr.length - 1∧pr.getD j 0≠from_
 ·obtain⟨g1,g2⟩:=hgo
  have g3:(j:Int) < (pr.length:Int) - 1:=by omega
  simp [-Int.natCast_add,-List.getD_eq_getElem?_getD,Za Zds,Zaa Zb3,Zac u36,Zab u36 sz3,Zaa ld3,b4,w1,g3,jm,jl',lj,g2,wj]
  exact ih _ _ _ _ ⟨j+1,rfl,by omega,fun k hk=>by
   by_cases hkj:k=j
   ·rw [hkj];exact g2
   ·exact hne k (by omega),rfl,rfl⟩ (by omega) ⟨by rfl,by rfl,by rfl,by rfl,trivial⟩
 have hidx:Zks pr from_=j:=Z73 hne hj (by
  by_cases hq:j < pr.length - 1
  ·right;exact Classical.byContradiction fun hc=>hgo ⟨hq,hc⟩
  ·left;omega)
 rw [hidx] at hph ⊢
 clear ih
 apply Yby
 case main =>
  by_cases g1:j < pr.length - 1
  case' pos =>
   have g2:pr.getD j 0=from_:=Classical.byContradiction fun hc=>hgo ⟨g1,hc⟩
   have g3:(j:Int) < (pr.length:Int) - 1:=by omega
   intro meth
   simp [-Int.natCast_add,-List.getD_eq_getElem?_getD,-w30_4,Za Zds,Zaa Zb3,Zac u36,Zab u36 sz3,Zaa ld3,b4,w1,g3,jm,jl',lj,g2]
  case' neg =>
   have g3:¬ (j:Int) < (pr.length:Int) - 1:=by omega
   intro meth
   simp [-Int.natCast_add,-List.getD_eq_getElem?_getD,-w30_4,Za Zds,Zaa Zb3,Zac u36,Zab u36 sz3,Zaa ld3,b4,w1,g3]
  all_goals
   exact Zfd (E:=[(0,.pointer (some ⟨K.x,0,none⟩)),(6,.pointer (some ⟨bx,0,none⟩)),(7,.int .i64 (j:Int))]) meth ⟨by rfl,by rfl,by rfl,trivial⟩
 simp [-Int.natCast_add,Zaa Zb3,Zac u36,Za Zh8,b0]
 refine Zaq 75 [75] (fun d E mF=>∃ (i:Nat) (lo:Option Addr) (lf:Nat),l.length - i=d∧i≤l.length∧Sl mF lo (Zkr u (l.take i) j V.ws).length (words (Zkr u (l.take i) j V.ws)) 45 1 lf∧(lo≠none→mE.next≤lf)∧Zag mE mF []∧
  E=[(0,.pointer (some ⟨K.x,0,none⟩)),(6,.pointer (some ⟨bx,0,none⟩)),(7,.int .i64 (j:Int)),(8,.slice lo (Zkr u (l.take i) j V.ws).length (Zkr u (l.take i) j V.ws).length),(40,.slice vo l.length l.length),(41,.int .i64 l.length),(42,.int .i64 (i:Int))]) _ ⟨_,⟨0,none,0,rfl,by omega,Sl.nil _ _ _ _,fun q=>absurd rfl q,.refl _ _,rfl⟩,⟨by rfl,by rfl,by rfl,by rfl,by rfl,by rfl,by rfl,trivial⟩⟩ ?_
 rintro d E mF ih ⟨i,lo,lf,hd,hi,sL,hlf,kF,rfl⟩
 have im:(i:Int)≤9223372036854775807:=by omega
 have hF:=h3.keep0 kF
 have oXF:=oX.keep kF (by simp)
 by_cases hlt:i < l.length
 ·have i1:(i:Int) < l.length:=by omega
  have wi:IntKind.i64.wrap ((i:Int)+1)=((i+1:Nat):Int):=by rw [Zaf (by omega) (by omega)];omega
  have et:=Zyr (u:=u) (i:=j) (ws:=V.ws) hlt
  obtain⟨vb,hvb,li⟩:=(hvo3.keep kF (by simp)).get hlt
  rw [hvb] at ih ⊢
  obtain⟨v,ev⟩:∃ v:Nat,l.getD i 0=(v:Int):=⟨(l.getD i 0).toNat,by have:=hv _ (Za8 hlt);omega⟩
  have hvn:v < nv u:=by have:=hv _ (Za8 hlt);omega
  have hphv:=hph _ (Za8 hlt)
  rw [ev] at li et hphv
  rw [Zgs hvn] at et hphv
  obtain⟨xb,ao,fa,hvo',ldx,hra,hqa⟩:=Zie hF.unit hvn
  have o2:=hF.own.load1 (off:=2) rfl
  rw [hvo'] at o2
  have v1:(v:Int) < nv u:=by omega
  have v2:(v:Int)≤9223372036854775807:=by omega
  have nL1:(nv u:Int)≤9223372036854775807:=by omega
  generalize u.2.2.1[v]=y at *
  obtain⟨oY,kY,nY⟩:=Zay (m:=mF) (cs:=[.int .i64 0,.int .i64 0,.int .i64 0,.int .i64 0,.slice none 0 0,.int .i64 0]) (e:=38) rfl
  obtain⟨bv,hbv⟩:∃ bv,mF.next=bv:=⟨_,rfl⟩
  obtain⟨m4,e4,oV,kV⟩:=Zap (r:=_) rfl oY (off:=0) (vs:=Zmk y ao) (by simp) (by simp [Zau,Zai])
  simp [Zb5] at oV
  have k4:=kY.fresh kV (by simp)
  rw [hbv] at oV nY e4
  have h4:=hF.keep0 k4
  have c0:=oV.load1 (off:=0) rfl
  have c4:=oV.load1 (off:=4) rfl
  have w6:=h4.own.load1 (off:=6) rfl
  have lb0:=Zpm u (l.take i) j V.ws
  have lb1:(l.take i).length=i:=by rw [List.length_take];omega
  rw [lb1] at lb0
  obtain⟨p,hp⟩:∃ p,Zkr u (l.take i) j V.ws=p:=⟨_,rfl⟩
  rw [hp] at et sL lb0 ⊢
  by_cases c1:y.1=21
  ·rw [if_pos c1] at et
   obtain⟨q1,q2,q3,q4⟩:=hphv c1
   obtain⟨w,ew⟩:∃ w:Nat,(show List Int from y.2.2.2.2.1).getD j 0=(w:Int):=⟨_,(Int.toNat_of_nonneg q3).symm⟩
   rw [ew] at q4 et
   rw [Int.toNat_natCast] at et
   have w1':w < nv u:=by omega
   have w2':(w:Int)≤9223372036854775807:=by omega
   obtain⟨ab,rfl,oA⟩:=(hra.keep k4 (by simp)).rdo (by omega)
   have la:=oA.load1 (off:=j) (Zc1 q1)
   rw [ew] at la
   have lw:=h4.wds.load1 (off:=w) (Zdm (by rw [h.len];exact w1'))
   have q5:(j:Int) < y.2.2.2.2.1.length:=by omega
   have q6:(y.2.2.2.2.1.length:Int)≤9223372036854775807:=by omega
   simp [-Int.natCast_add,-List.getD_eq_getElem?_getD,Za Zgf,Zaa Zb3,Zab u36 sz3,Zaa ld3,Za Za3,Zaa Zd5,Zab u30 Ze8,Zao Zme,Zas Zqu,Zad Ze8,Za Zbv,Za Zfj,Zaa Zh1,Za Zhv,Zab u42 Zfu,Zaa Zn7,Zae u42 Z45 rfl,Zbe u42 Zfu,i1,im,hlt,li,o2,v2,hvn,ldx,hbv,e4,c0,c1,c4,w6,jm,q1,la,w1',w2',lw]
   generalize hra:Zax _ _ _ _ _ _=ra
   obtain⟨m5,lb5,lf5,rfl,oL5,k5,hlf5,_⟩:=Zle hra u42 Z46 (sL.keepz k4 (by simp)) (by omega) (by simp) (by simp [Zau]) (by omega) (by omega)
   simp [-Int.natCast_add,-List.getD_eq_getElem?_getD,Zaa Zb3,Zaa ld3,Zaa Zh1,Zaa Zn7,w6,c4,la,lw,wi]
   have kn1:=kF.1
   have kn4:=k4.1
   have K5:Zag mE m5 []:=(kF.trans k4).fresh k5 (by
    intro f hf
    split at hf
    ·simp at hf
    ·rename_i hn
     simp at hf
     rw [hf];exact hlf hn)
   have lf5':mE.next≤lf5:=by
    rcases hlf5 with⟨q,q2⟩ | q
    ·rw [q2];exact hlf q
    ·omega
   have elen:(p++[V.ws.getD w 0]).length=p.length+1:=by simp
   exact ih _ _ _ _ ⟨i+1,some ⟨lb5,0,none⟩,lf5,rfl,by omega,by rw [et];exact Sl.of (by simpa [words] using oL5) (by rw [Zfw];simp),fun _=>lf5',K5,rfl⟩ (by omega) ⟨by rfl,by rfl,by rfl,by rw [et,elen];rfl,by rfl,by rfl,by rfl,trivial⟩
  ·rw [if_neg c1,List.append_nil] at et
   simp [-Int.natCast_add,-List.getD_eq_getElem?_getD,Za Zgf,Zab u36 sz3,Zaa ld3,Za Za3,Zaa Zd5,Zab u30 Ze8,Zao Zme,Zas Zqu,Zad Ze8,Za Zbv,i1,im,hlt,li,o2,v2,hvn,ldx,hbv,e4,c0,c1,wi]
   exact ih _ _ _ _ ⟨i+1,lo,lf,rfl,by omega,by rw [et];exact sL.keepz k4 (by simp),hlf,kF.trans k4,rfl⟩ (by omega) ⟨by rfl,by rfl,by rfl,by rw [et];rfl,by rfl,by rfl,by rfl,trivial⟩
 have i1:¬ (i:Int) < l.length:=by omega
 rw [List.take_of_length_le (by omega)] at sL ⊢
 clear ih
 simp [-Int.natCast_add,Zac u42,i1]
 have pl:=Zpm u l j V.ws
 have pw:=Z7x (u:=u) (l:=l) (i:=j) h.wd
 obtain⟨P,hP⟩:∃ P,Zkr u l j V.ws=P:=⟨_,rfl⟩
 rw [hP] at pl pw sL ⊢
 have ff:K.f < mF.next∧K.wf < mF.next∧K.f < mE.next∧K.wf < mE.next:=⟨hF.own.flt,hF.wds.flt,h3.own.flt,h3.wds.flt⟩
 have fb:=nb3
 have fbm:m.next≤bx:=by omega
 have ffm:K.f < m.next∧K.wf < m.next:=⟨h.own.flt,h.wds.flt⟩
 have KF:Zag m mF [K.f,K.wf]:=(k3.trans kF).mono (by simp)
 refine Zaq 75 [75] (fun d E mG=>∃ (k:Nat),P.length - k=d∧k≤P.length∧Ev Q mG u K { V with ws:=Z38 l P k V.ws,steps:=V.steps+k }∧Zag mF mG [K.f,K.wf]∧
  E=[(0,.pointer (some ⟨K.x,0,none⟩)),(6,.pointer (some ⟨bx,0,none⟩)),(72,.slice lo P.length P.length),(73,.int .i64 P.length),(74,.int .i64 (k:Int))]) _ ⟨_,⟨0,rfl,by omega,by simpa [Z38] using hF,.refl _ _,rfl⟩,⟨by rfl,by rfl,by rfl,by rfl,by rfl,trivial⟩⟩ ?_
 rintro d E mG ih ⟨k,hd,hk,hG,kG,rfl⟩
 have km:(k:Int)≤9223372036854775807:=by omega
 by_cases hlt:k < P.length
 ·have k1:(k:Int) < P.length:=by omega
  have wk:IntKind.i64.wrap ((k:Int)+1)=((k+1:Nat):Int):=by rw [Zaf (by omega) (by omega)];omega
  obtain⟨lb,rfl,oL⟩:=(sL.keepz kG (fun q=>by have:=hlf q;simp;omega)).own (by omega)
  have lk:=oL.load1 (off:=k) (Zdm hlt)
  have oXG:=oXF.keep kG (by simp;omega)
  have b0G:=oXG.load1 (off:=0) rfl
  have kl:k < l.length:=by omega
  have kl':(k:Int) < l.length:=by omega
  obtain⟨vb,hvb,lv⟩:=((hvo3.keep kF (by simp)).keep kG hnq).get kl
  rw [hvb] at b0G
  obtain⟨v,ev⟩:∃ v:Nat,l.getD k 0=(v:Int):=⟨(l.getD k 0).toNat,by have:=hv _ (Za8 kl);omega⟩
  have hvn:v < nv u:=by have:=hv _ (Za8 kl);omega
  rw [ev] at lv
  have v1:(v:Int) < nv u:=by omega
  have v2:(v:Int)≤9223372036854775807:=by omega
  have w6:=hG.own.load1 (off:=6) rfl
  obtain⟨m5,e5,v5,k5⟩:=hG.setw (i:=v) hvn (pw.at_ k)
  dsimp only at v5
  have w8:=v5.own.load1 (off:=8) rfl
  obtain⟨m6,e6,v6,k6⟩:=Zka v5 (V.steps+k+1)
  have ws1:IntKind.i64.wrap (V.steps+(k:Int)+1)=V.steps+k+1:=Zaf (by omega) (by omega)
  simp [-Int.natCast_add,-List.getD_eq_getElem?_getD,Zaa Zb3,Zab u36 sz3,Zaa ld3,Za Zh8,Za Zfj,Zaa Zh1,Zab u42 Zfu,Zaa Zn7,Zad Zfu,Za Zh,Zad sz3,k1,km,hlt,lk,b0G,kl,lv,v2,hvn,w6,e5,w8,ws1,e6,wk]
  have kk:Zag mF m6 [K.f,K.wf]:=(kG.trans (k5.mono (by simp))).trans (k6.mono (by simp))
  have es:Z38 l P (k+1) V.ws=(Z38 l P k V.ws).set v (P.getD k 0):=by
   show (Z38 l P k V.ws).set (l.getD k 0).toNat (P.getD k 0)=_
   rw [ev,Int.toNat_natCast]
  have et:V.steps+((k+1:Nat):Int)=V.steps+k+1:=by omega
  exact ih _ _ _ _ ⟨k+1,rfl,by omega,by rw [es,et];exact v6,kk,rfl⟩ (by omega) ⟨by rfl,by rfl,by rfl,by rfl,by rfl,trivial⟩
 have k1:¬ (k:Int) < P.length:=by omega
 have ek:k=P.length:=by omega
 simp [-Int.natCast_add,k1]
 rw [ek] at hG
 exact⟨hG,KF.trans kG⟩
end Go.Proofs.YtlogdohlcdhepaaDoor.base
end
section
set_option maxRecDepth 100000
namespace Go.Proofs.YtlogdohlcdhepaaDoor.base
open Go.Sh gen
variable {S:Zc}{m:Mem}
def Zoo (ws l:List Int):List Int:=l.map fun i=>ws.getD i.toNat 0
theorem Zzg {ws l:List Int}{j:Nat}(h:j < l.length):Zoo ws (l.take (j+1))=Zoo ws (l.take j)++[ws.getD (l.getD j 0).toNat 0]:=by
 unfold Zoo
 rw [List.take_succ_eq_append_getElem h,List.map_append,List.getD_eq_getElem?_getD (l:=l),List.getElem?_eq_getElem h]
 rfl
theorem Zir (ws l:List Int):(Zoo ws l).length=l.length:=by simp [Zoo]
theorem Zse {Q:Nat→Prop}{ao:Option Addr}{l:List Int}{f:Nat}(h:Rs m ao l.length (words l) 45 1 f)(hq:l.length≠0→Q f):AtQ Q m (Ty.slice 45 (Ty.int .u64)) l [.slice ao l.length l.length]:=by
 refine⟨ao,l.map fun n=>[Value.int .u64 n],f,rfl,by simp,?_,?_,hq⟩
 ·intro i d c h1 h2
  rw [List.getElem?_map,h1] at h2
  simp only [Option.map_some,Option.some.injEq] at h2
  exact h2.symm
 ·have:(l.map fun n=>[Value.int .u64 n]).flatten=words l:=by
   unfold words
   rw [← List.flatMap_def]
   exact List.map_eq_flatMap.symm
  rw [this];exact h
set_option maxHeartbeats 8000000 in
theorem Z0f (hS:S 57=[]){Q:Nat→Prop}{u:UnT.D}{K:Kv}{V:Vv}(h:Ev Q m u K V)(hnu:nv u≤1000000){l:List Int}(hl:l.length≤1000000)(hv:∀ v∈l,(0:Int)≤v∧v < (nv u:Int))
  {ao:Option Addr} (hi:Za5 Q m ao l) {xb xf:Nat} (hx:Own m xb [.pointer (some ⟨K.x,0,none⟩)] 76 xf) :
  ∃ v m1,Zal Tryd.prog TT S 57 [.slice ao l.length l.length,.pointer (some ⟨xb,0,none⟩)] m=some (v,m1)∧
   (∃ ro f,v=.slice ro l.length l.length∧Rs m1 ro l.length (words (Zoo V.ws l)) 45 1 f∧(l.length≠0→m.next≤f∧f < m1.next))∧Zag m m1 []:=by
 refine Zfz 10 [10] k57 hS rfl ?_
 simp [-Int.natCast_add,Zac u36]
 refine Zaq 10 [10] (fun d E mF=>∃ (i:Nat) (lo:Option Addr) (lf:Nat),l.length - i=d∧i≤l.length∧Sl mF lo i (words (Zoo V.ws (l.take i))) 45 1 lf∧(lo≠none→m.next≤lf∧lf < mF.next)∧Zag m mF []∧
  E=[(1,.pointer (some ⟨xb,0,none⟩)),(4,.slice lo i i),(7,.slice ao l.length l.length),(8,.int .i64 l.length),(9,.int .i64 (i:Int))]) _ ⟨_,⟨0,none,0,rfl,by omega,Sl.nil _ _ _ _,fun q=>absurd rfl q,.refl _ _,rfl⟩,⟨by rfl,by rfl,by rfl,by rfl,by rfl,trivial⟩⟩ ?_
 rintro d E mF ih ⟨i,lo,lf,hd,hi',sL,hlf,kF,rfl⟩
 have im:(i:Int)≤9223372036854775807:=by omega
 have hF:=h.keep0 kF
 by_cases hlt:i < l.length
 ·have i1:(i:Int) < l.length:=by omega
  have wi:IntKind.i64.wrap ((i:Int)+1)=((i+1:Nat):Int):=by rw [Zaf (by omega) (by omega)];omega
  have et:=Zzg (ws:=V.ws) hlt
  obtain⟨vb,rfl,li⟩:=(hi.keep kF (by simp)).get hlt
  obtain⟨v,ev⟩:∃ v:Nat,l.getD i 0=(v:Int):=⟨(l.getD i 0).toNat,by have:=hv _ (Za8 hlt);omega⟩
  have hvn:v < nv u:=by have:=hv _ (Za8 hlt);omega
  rw [ev] at li et
  rw [Int.toNat_natCast] at et
  have v1:(v:Int) < nv u:=by omega
  have v2:(v:Int)≤9223372036854775807:=by omega
  have x0:=(hx.keep kF (by simp)).load1 (off:=0) rfl
  have w6:=hF.own.load1 (off:=6) rfl
  have lw:=hF.wds.load1 (off:=v) (Zdm (by rw [h.len];exact hvn))
  simp [-Int.natCast_add,-List.getD_eq_getElem?_getD,Zab u36 sz3,Zaa ld3,Zaa Yce,Za Zfj,Zaa Zh1,Zab u42 Zfu,Zaa Zn7,Zae u42 Z45 rfl,Zbe u42 Zfu,i1,im,hlt,li,x0,w6,v2,hvn,lw]
  generalize hra:Zax _ _ _ _ _ _=ra
  obtain⟨m5,lb5,lf5,rfl,oL5,k5,hlf5,hl5,_⟩:=Zle hra u42 Z46 sL (by omega) (by simp) (by simp [Zau]) (by omega) (by omega)
  simp [-Int.natCast_add,-List.getD_eq_getElem?_getD,wi]
  have kn1:=kF.1
  have K5:Zag m m5 []:=kF.fresh k5 (by
   intro f hf
   split at hf
   ·simp at hf
   ·rename_i hn
    simp at hf
    rw [hf];exact (hlf hn).1)
  have lf5':m.next≤lf5:=by
   rcases hlf5 with⟨q,q2⟩ | q
   ·rw [q2];exact (hlf q).1
   ·omega
  exact ih _ _ _ _ ⟨i+1,some ⟨lb5,0,none⟩,lf5,rfl,by omega,by rw [et];exact Sl.of (by simpa [words] using oL5) (by simp [words,Zoo];omega),fun _=>⟨lf5',hl5⟩,K5,rfl⟩ (by omega) ⟨by rfl,by rfl,by rfl,by rfl,by rfl,trivial⟩
 have i1:¬ (i:Int) < l.length:=by omega
 have ei:i=l.length:=by omega
 subst ei
 rw [List.take_length] at sL
 clear ih
 simp [-Int.natCast_add,i1]
 exact⟨⟨lf,sL.rs,fun q=>hlf (by
  obtain⟨b,hb,_⟩:=sL.own (fun e=>q (List.length_eq_zero_iff.1 e))
  rw [hb];simp)⟩,kF⟩
end Go.Proofs.YtlogdohlcdhepaaDoor.base
end
section
set_option maxRecDepth 100000
namespace Go.Proofs.YtlogdohlcdhepaaDoor.base
open Go.Sh gen
variable {S:Zc}{m:Mem}
abbrev ns (u:UnT.D):Nat:=u.2.2.2.2.1.length
abbrev Yac:Ty:=(Ty.pair (Ty.int .i64) (Ty.pair (Ty.int .i64) (Ty.pair (Ty.slice 45 (Ty.int .u64)) (Ty.pair (Ty.slice 45 (Ty.int .u64)) Ty.unit))))
def frW (ws:List Int)(f:Znw.D):Yac.D:=((show Int from f.1),(show Int from f.2.1),Zoo ws f.2.2.1,Zoo ws f.2.2.2.1,())
theorem Zmm {Q:Nat→Prop}{e:TypeId}{t:Ty}{l:List t.D}{ao:Option Addr}(h:AtQ Q m (Ty.slice e t) l [.slice ao l.length l.length]){i:Nat}(hi:i < l.length) :
  ∃ (vb:Nat) (c:List Value),ao=some ⟨vb,0,none⟩∧AtQ Q m t l[i] c∧∀ (m':Mem) (fs:List Nat),Zag m m' fs→(∀ f∈fs,¬ Q f)→loadRow m' ⟨vb,i * t.size,none⟩ t.size=some c:=by
 obtain⟨css,fam,hcl,hce,hr,hq⟩:=Zuq h
 obtain⟨vb,rfl,o⟩:=hr.rdo (by omega)
 have hce':∀ (j:Nat) d c,l[j]?=some d→css[j]?=some c→At m t d c:=fun j d c h1 h2=>(hce j d c h1 h2).at_
 have hci:i < css.length:=by omega
 have hat:=hce i l[i] css[i] (List.getElem?_eq_getElem hi) (List.getElem?_eq_getElem hci)
 have hlen:∀ x∈css,x.length=t.size:=by
  intro x hx
  obtain⟨j,hj⟩:=List.getElem?_of_mem hx
  have hjl:j < l.length:=by have:=(List.getElem?_eq_some_iff.1 hj).1;omega
  exact (hce' j l[j] x (List.getElem?_eq_getElem hjl) hj).len
 have hwin:=Zu2 hlen hci
 have hfl:css.flatten.length=css.length * t.size:=Zsa hlen
 have hb:i * t.size+t.size≤css.flatten.length:=by
  rw [hfl,← Nat.succ_mul]
  exact Nat.mul_le_mul_right _ hci
 refine⟨vb,css[i],rfl,hat,fun m' fs k hf=>?_⟩
 rw [(o.keep k (fun hm=>hf fam hm (hq (by omega)))).load t.size hb,hwin]
theorem Zqg {Q:Nat→Prop}{u:UnT.D}{vo bo so:Option Addr}(h:UAt Q m u vo bo so){i:Nat}(hi:i < ns u) :
  ∃ (b:Nat) (fo:Option Addr),so=some ⟨b,0,none⟩∧(∀ (m':Mem) (fs:List Nat),Zag m m' fs→(∀ f∈fs,¬ Q f)→loadRow m' ⟨b,i,none⟩ 1=some [.slice fo (u.2.2.2.2.1[i]).1.length (u.2.2.2.2.1[i]).1.length])∧AtQ Q m (Ty.slice 64 (Ty.pair (Ty.int .i64) (Ty.pair (Ty.int .i64) (Ty.pair (Ty.slice 3 (Ty.int .i64)) (Ty.pair (Ty.slice 3 (Ty.int .i64)) Ty.unit))))) (u.2.2.2.2.1[i]).1 [.slice fo (u.2.2.2.2.1[i]).1.length (u.2.2.2.2.1[i]).1.length]:=by
 obtain⟨vb,c,e,hc,hl⟩:=Zmm h.s hi
 obtain⟨_,_,e1,h1,h2⟩:=hc
 simp only [AtQ] at h2
 subst h2
 have h1':=h1
 obtain⟨ao,css,fm,rfl,_⟩:=h1
 refine⟨vb,ao,e,fun m' fs k hf=>?_,h1'⟩
 have hl':=hl m' fs k hf
 rw [e1] at hl'
 rw [show (Ty.pair (Ty.slice 64 Znw) Ty.unit).size=1 from rfl] at hl'
 simpa using hl'
abbrev frC (f:Znw.D)(lo so:Option Addr):List Value:=[.int .i64 f.1,.int .i64 f.2.1,.slice lo f.2.2.1.length f.2.2.1.length,.slice so f.2.2.2.1.length f.2.2.2.1.length]
theorem Zqk {Q:Nat→Prop}{fs:List Znw.D}{fo:Option Addr}(h:AtQ Q m (Ty.slice 64 (Ty.pair (Ty.int .i64) (Ty.pair (Ty.int .i64) (Ty.pair (Ty.slice 3 (Ty.int .i64)) (Ty.pair (Ty.slice 3 (Ty.int .i64)) Ty.unit))))) fs [.slice fo fs.length fs.length]){i:Nat}(hi:i < fs.length) :
  ∃ (b:Nat) (lo so:Option Addr),fo=some ⟨b,0,none⟩∧loadRow m ⟨b,i * 4,none⟩ 4=some (frC fs[i] lo so)∧Za5 Q m lo (fs[i]).2.2.1∧Za5 Q m so (fs[i]).2.2.2.1:=by
 obtain⟨vb,c,fam,e,hc,hl,hq,_⟩:=Zit h hi
 obtain⟨_,_,e1,rfl,_,_,e2,rfl,_,_,e3,h3,_,_,e4,h4,h5⟩:=hc
 simp only [AtQ] at h5
 subst h5
 obtain⟨ao3,f3,rfl,hr3,hqf3⟩:=Zgp h3
 obtain⟨ao4,f4,rfl,hr4,hqf4⟩:=Zgp h4
 refine⟨vb,ao3,ao4,e,?_,⟨f3,hr3,hqf3⟩,⟨f4,hr4,hqf4⟩⟩
 rw [e1,e2,e3,e4] at hl
 exact hl
theorem Z08 {Q:Nat→Prop}{ws:List Int}{F:Znw.D}{r5 r6:Option Addr}{w5 w6:Nat}(R5:Rs m r5 (List.length F.2.2.1) (words (Zoo ws F.2.2.1)) 45 1 w5)(q5:List.length F.2.2.1≠0→Q w5)
  (R6:Rs m r6 (List.length F.2.2.2.1) (words (Zoo ws F.2.2.2.1)) 45 1 w6) (q6:List.length F.2.2.2.1≠0→Q w6) :
  AtQ Q m Yac (frW ws F) [.int .i64 F.1,.int .i64 F.2.1,.slice r5 (List.length F.2.2.1) (List.length F.2.2.1),.slice r6 (List.length F.2.2.2.1) (List.length F.2.2.2.1)]:=by
 have a5:AtQ Q m (Ty.slice 45 (Ty.int .u64)) (Zoo ws F.2.2.1) [.slice r5 (List.length F.2.2.1) (List.length F.2.2.1)]:=by
  have:=Zse (Q:=Q) (m:=m) (l:=Zoo ws F.2.2.1) (ao:=r5) (f:=w5) (by rw [Zir];exact R5) (by rw [Zir];exact q5)
  rwa [Zir] at this
 have a6:AtQ Q m (Ty.slice 45 (Ty.int .u64)) (Zoo ws F.2.2.2.1) [.slice r6 (List.length F.2.2.2.1) (List.length F.2.2.2.1)]:=by
  have:=Zse (Q:=Q) (m:=m) (l:=Zoo ws F.2.2.2.1) (ao:=r6) (f:=w6) (by rw [Zir];exact R6) (by rw [Zir];exact q6)
  rwa [Zir] at this
 exact⟨[_],_,rfl,rfl,[_],_,rfl,rfl,[_],_,rfl,a5,[_],[],rfl,a6,rfl⟩
set_option maxHeartbeats 16000000 in
theorem Zus (hS:S 28=[])(hR:S 57=[]){Q:Nat→Prop}{u:UnT.D}{K:Kv}{V:Vv}(h:Ev Q m u K V)(hnu:nv u≤1000000)(hns:ns u≤1000000){st:Nat}(hst:st < ns u)(val:Int)
  {fs:List Znw.D} (hfs:(u.2.2.2.2.1[st]).1=fs) (hfl:fs.length≤1000000) (hf:∀ f∈fs,f.2.2.1.length≤1000000∧f.2.2.2.1.length≤1000000∧(∀ v∈(show List Int from f.2.2.1),(0:Int)≤v∧v < (nv u:Int))∧(∀ v∈(show List Int from f.2.2.2.1),(0:Int)≤v∧v < (nv u:Int))) :
  ∃ v m1,Zal Tryd.prog TT S 28 [.pointer (some ⟨K.x,0,none⟩),.int .i64 (st:Int),.int .i64 val] m=some (v,m1)∧
   (∃ fo,v=.agg #[.int .i64 1,.int .i64 (st:Int),.int .i64 val,.slice fo fs.length fs.length,.int .i64 V.steps]∧AtQ (fun f=>m.next≤f) m1 (Ty.slice 44 (Ty.pair (Ty.int .i64) (Ty.pair (Ty.int .i64) (Ty.pair (Ty.slice 45 (Ty.int .u64)) (Ty.pair (Ty.slice 45 (Ty.int .u64)) Ty.unit))))) (fs.map (frW V.ws)) [.slice fo fs.length fs.length])∧Zag m m1 []:=by
 obtain⟨sb,fo,hso,lds,hfo⟩:=Zqg h.unit hst
 rw [hfs] at lds hfo
 have o4:=h.own.load1 (off:=4) rfl
 rw [hso] at o4
 have s1:(st:Int) < ns u:=by omega
 have s2:(st:Int)≤9223372036854775807:=by omega
 refine Zfz 30 [30] k28 hS rfl ?_
 obtain⟨oP,kP,nP⟩:=Zay (m:=m) (cs:=[.pointer (some ⟨K.x,0,none⟩)]) (e:=76) rfl
 obtain⟨pb,hpb⟩:∃ pb,m.next=pb:=⟨_,rfl⟩
 obtain⟨mA,hmA⟩:∃ mA,m.new [.pointer (some ⟨K.x,0,none⟩)] 76=mA:=⟨_,rfl⟩
 rw [hmA,hpb] at oP nP
 rw [hmA] at kP
 obtain⟨oR,kR,nR⟩:=Zay (m:=mA) (cs:=[.int .i64 0,.int .i64 0,.int .i64 0,.slice none 0 0,.int .i64 0]) (e:=28) rfl
 obtain⟨rb,hrb⟩:∃ rb,mA.next=rb:=⟨_,rfl⟩
 obtain⟨mB,hmB⟩:∃ mB,mA.new [.int .i64 0,.int .i64 0,.int .i64 0,.slice none 0 0,.int .i64 0] 28=mB:=⟨_,rfl⟩
 rw [hmB,hrb] at oR nR
 rw [hmB] at kR
 obtain⟨oY,kY,nY⟩:=Zay (m:=mB) (cs:=[.int .i64 0,.int .i64 0,.int .i64 0,.slice none 0 0,.int .i64 0]) (e:=28) rfl
 obtain⟨yb,hyb⟩:∃ yb,mB.next=yb:=⟨_,rfl⟩
 rw [hyb] at oY nY
 obtain⟨m4,e4,oX,kX⟩:=Zap (r:=_) rfl oY (off:=0) (vs:=[.int .i64 1,.int .i64 (st:Int),.int .i64 val,.slice none 0 0,.int .i64 V.steps]) (by simp) (by simp [Zau,Zai])
 simp [Zb5] at oX
 have kB4:=kY.fresh kX (by simp;omega)
 have kB:Zag m mB []:=kP.trans kR
 have k4:Zag m m4 []:=kB.trans kB4
 have hB:=h.keep0 kB
 have h4:=h.keep0 k4
 have x0B:=(oP.keep kR (by simp)).load1 (off:=0) rfl
 have oP4:=(oP.keep kR (by simp)).keep kB4 (by simp)
 have oR4:=oR.keep kB4 (by simp)
 have x04:=oP4.load1 (off:=0) rfl
 have w8:=hB.own.load1 (off:=8) rfl
 have o44:=h4.own.load1 (off:=4) rfl
 rw [hso] at o44
 have lds4:=lds m4 [] k4 (by simp)
 have hfoB:=hfo.keep kB (by simp)
 have bds:pb < rb∧rb < yb∧m.next=pb∧yb < m4.next:=by
  have:=oP.flt;have:=oR.flt;have:=oX.flt;omega
 have nsL:(ns u:Int)≤9223372036854775807:=by omega
 simp [-Int.natCast_add,Zdh b76,Zas Z8g,Zaa Yce,Za Zh,Zaa ld3,Za2 Ycf,Zad Z3u,Za Zgf,Za Zdb,Zaa Zmv,Zab u32 Z8q,Za Zry,Zaa Yab,Zac u65,hpb,hmA,hrb,hmB,hyb,x0B,w8,e4,x04,o44,s2,hst,lds4]
 refine Zaq 30 [30] (fun d E mF=>∃ (i:Nat) (lo:Option Addr) (lf:Nat) (css:List (List Value)),fs.length - i=d∧i≤fs.length∧Own mF yb [.int .i64 1,.int .i64 (st:Int),.int .i64 val,.slice lo i i,.int .i64 V.steps] 28 yb∧css.length=i∧
  (∀ (k:Nat) d c,((fs.map (frW V.ws)).take i)[k]?=some d→css[k]?=some c→AtQ (fun f=>yb < f∧f≠lf) mF Yac d c)∧Sl mF lo i css.flatten 44 4 lf∧(lo≠none→yb < lf∧lf < mF.next)∧Zag mB mF []∧
  E=[(6,.pointer (some ⟨rb,0,none⟩)),(7,.pointer (some ⟨yb,0,none⟩)),(8,.func (.func 57) #[] #[.pointer (some ⟨pb,0,none⟩)]),(27,.slice fo fs.length fs.length),(28,.int .i64 fs.length),(29,.int .i64 (i:Int))]) _ ⟨_,⟨0,none,0,[],rfl,by omega,oX,rfl,fun k d c hk=>by simp at hk,Sl.nil _ _ _ _,fun q=>absurd rfl q,kB4,rfl⟩,⟨by rfl,by rfl,by rfl,by rfl,by rfl,by rfl,trivial⟩⟩ ?_
 rintro d E mF ih ⟨i,lo,lf,css,hd,hi,oYF,hcl,hcs,sL,hlf,kF,rfl⟩
 have im:(i:Int)≤9223372036854775807:=by omega
 have hF:=hB.keep0 kF
 have ybF:=oYF.flt
 by_cases hlt:i < fs.length
 ·have i1:(i:Int) < fs.length:=by omega
  have wi:IntKind.i64.wrap ((i:Int)+1)=((i+1:Nat):Int):=by rw [Zaf (by omega) (by omega)];omega
  obtain⟨fb,la,sa,hfb,ldf,hla,hsa⟩:=Zqk (hfoB.keep kF (by simp)) hlt
  obtain⟨f1,f2,f3,f4⟩:=hf _ (List.getElem_mem hlt)
  have etk:(fs.map (frW V.ws)).take (i+1)=(fs.map (frW V.ws)).take i++[frW V.ws fs[i]]:=by rw [List.take_succ_eq_append_getElem (by simpa using hlt)];simp
  rw [hfb] at ih ⊢
  generalize fs[i]=F at *
  obtain⟨oZ,kZ,nZ⟩:=Zay (m:=mF) (cs:=[.int .i64 0,.int .i64 0,.slice none 0 0,.slice none 0 0]) (e:=64) rfl
  obtain⟨zb,hzb⟩:∃ zb,mF.next=zb:=⟨_,rfl⟩
  obtain⟨mG,eG,oG,kG'⟩:=Zap (r:=_) rfl oZ (off:=0) (vs:=frC F la sa) (by simp) (by simp [Zau,Zai])
  simp [Zb5] at oG
  have kG:=kZ.fresh kG' (by simp)
  rw [hzb] at oG nZ eG
  have hG:=hF.keep0 kG
  have oPG:=((oP.keep kR (by simp)).keep kF (by simp)).keep kG (by simp)
  have oYG:=oYF.keep kG (by simp)
  have y3:=oYG.load1 (off:=3) rfl
  have g0:=oG.load1 (off:=0) rfl
  have g1:=oG.load1 (off:=1) rfl
  have g2:=oG.load1 (off:=2) rfl
  obtain⟨_,m5,c5,⟨r5,w5,rfl,R5,q5⟩,k5⟩:=Z0f hR hG hnu f1 f3 (hla.keep kG (by simp)) oPG
  have h5:=hG.keep0 k5
  have g3:=(oG.keep k5 (by simp)).load1 (off:=3) rfl
  obtain⟨_,m6,c6,⟨r6,w6,rfl,R6,q6⟩,k6⟩:=Z0f hR h5 hnu f2 f4 ((hsa.keep kG (by simp)).keep k5 (by simp)) (oPG.keep k5 (by simp))
  have oY5:=oYG.keep k5 (by simp)
  have oY6:=oY5.keep k6 (by simp)
  have oG5:=oG.keep k5 (by simp)
  have oG6:=oG5.keep k6 (by simp)
  have g05:=oG5.load1 (off:=0) rfl
  have g15:=oG5.load1 (off:=1) rfl
  have g06:=oG6.load1 (off:=0) rfl
  have g16:=oG6.load1 (off:=1) rfl
  have y35:=oY5.load1 (off:=3) rfl
  have y36:=oY6.load1 (off:=3) rfl
  have g25:=oG5.load1 (off:=2) rfl
  have g26:=oG6.load1 (off:=2) rfl
  have g36:=oG6.load1 (off:=3) rfl
  have gG3:=oG.load1 (off:=3) rfl
  obtain⟨oW,kW,nW⟩:=Zay (m:=m6) (cs:=[.int .i64 F.1,.int .i64 F.2.1,.slice r5 (List.length F.2.2.1) (List.length F.2.2.1),.slice r6 (List.length F.2.2.2.1) (List.length F.2.2.2.1)]) (e:=44) rfl
  have gW0:=(oG6.keep kW (by simp)).load1 (off:=0) rfl
  have gW1:=(oG6.keep kW (by simp)).load1 (off:=1) rfl
  have yW3:=(oY6.keep kW (by simp)).load1 (off:=3) rfl
  simp [-Int.natCast_add,Zaa ld3,Zab u65 Zpq,Zao Z1r,Zas Z1s,Zad Zpq,Za Zqx,Zaa Z87,Za Z8e,Za Z9m,Za Zh2,Zaa Zb3,Za Zi9,Za2 Ydw,Zae u26 Ycu rfl,Zbe u26 Yc,i1,im,hlt,ldf,hzb,eG,y3,g0,g1,g2,c5,g3,c6]
  generalize hra:Zax _ _ _ _ _ _=ra
  obtain⟨m7,lb7,lf7,rfl,oL7,k7,hlf7,hl7,hz7⟩:=Zle hra u26 Yc5 ((sL.keepz kG (by simp)).keepz (k5.trans k6) (by simp)) (by omega) (by simp) (by simp [Zau,Zai]) (by omega) (by omega)
  have b5:=k5.1
  have b6:=k6.1
  have bG:=kG.1
  have bF:=kF.1
  have knew:∀ f:Nat,f≤yb∨zb≤f→f∉(if lo=none then [] else [lf]):=by
   intro f hf'
   split
   ·simp
   ·rename_i hn
    have:=hlf hn
    simp;omega
  have oY7:=oY6.keep k7 (knew _ (by omega))
  have oG7:=oG6.keep k7 (knew _ (by omega))
  have y37:=oY7.load1 (off:=3) rfl
  have g07:=oG7.load1 (off:=0) rfl
  have g17:=oG7.load1 (off:=1) rfl
  obtain⟨m8,e8,oY8,k8⟩:=Zap (r:=_) rfl oY7 (off:=3) (vs:=[.slice (some ⟨lb7,0,none⟩) (i+1) (i+1)]) (by simp) (by simp [Zai])
  simp [Zb5] at oY8
  simp [-Int.natCast_add,Zaa ld3,Za Zqx,Zaa Z87,Zaa Zb3,Zad Ycr,y3,g0,g1,g2,g3,g05,g15,g06,g16,y35,y36,yW3,gG3,e8,wi]
  have R57:Rs m8 r5 (List.length F.2.2.1) (words (Zoo V.ws F.2.2.1)) 45 1 w5:=by
   refine ((R5.keep0 k6 (by simp)).keep0 k7 (fun q=>?_)).keep0 k8 (fun q=>?_)
   ·split
    ·simp
    ·rename_i hn
     have:=hlf hn;have:=q5 q
     simp;omega
   ·have:=q5 q
    simp;omega
  have R67:Rs m8 r6 (List.length F.2.2.2.1) (words (Zoo V.ws F.2.2.2.1)) 45 1 w6:=by
   refine (R6.keep0 k7 (fun q=>?_)).keep0 k8 (fun q=>?_)
   ·split
    ·simp
    ·rename_i hn
     have:=hlf hn;have:=q6 q
     simp;omega
   ·have:=q6 q
    simp;omega
  have lfz:(lo≠none∧lf7=lf)∨(lo=none∧m6.next≤lf7):=by
   rcases hlf7 with q | q
   ·exact Or.inl q
   ·by_cases hn:lo=none
    ·exact Or.inr ⟨hn,q⟩
    ·exact Or.inl ⟨hn,hz7 hn⟩
  have hl7':yb < lf7∧(lf7 < mF.next∨m6.next≤lf7):=by
   rcases lfz with⟨q,q2⟩ | ⟨_,q⟩
   ·have:=hlf q;omega
   ·omega
  have at8:=Z08 (Q:=fun f=>yb < f∧f≠lf7) R57 (fun q=>by have:=q5 q;omega) R67 (fun q=>by have:=q6 q;omega)
  have K8:Zag mB m8 []:=by
   refine (((kF.trans kG).trans (k5.trans k6)).fresh k7 ?_).fresh k8 (by simp;omega)
   intro f hf'
   split at hf'
   ·simp at hf'
   ·rename_i hn
    simp at hf'
    have:=hlf hn
    rw [hf'];omega
  exact ih _ _ _ _ ⟨i+1,some ⟨lb7,0,none⟩,lf7,css++[[.int .i64 F.1,.int .i64 F.2.1,.slice r5 (List.length F.2.2.1) (List.length F.2.2.1),.slice r6 (List.length F.2.2.2.1) (List.length F.2.2.2.1)]],rfl,by omega,oY8,by simp [hcl],(by
    intro k d c hd' hc'
    rw [etk] at hd'
    have hml:((fs.map (frW V.ws)).take i).length=i:=by rw [List.length_take,List.length_map];omega
    by_cases hk:k < i
    ·rw [List.getElem?_append_left (by omega)] at hd' hc'
     have a1:=hcs k d c hd' hc'
     have hln:lo≠none:=by
      intro e
      rcases sL.2 with⟨_,q⟩ | ⟨b,q,_⟩
      ·omega
      ·rw [e] at q;cases q
     have e7:=hz7 hln
     have a2:=((a1.keep ((kG.trans k5).trans k6) (by simp)).keep k7 (by
      intro f hf'
      rw [if_neg hln] at hf'
      simp at hf'
      rw [hf']
      exact fun q=>q.2 rfl)).keep k8 (by simp)
     rw [e7];exact a2
    ·have hk2:k=i:=by
      have:=(List.getElem?_eq_some_iff.1 hc').1
      simp [hcl] at this
      omega
     subst hk2
     rw [List.getElem?_append_right (by omega),hml,Nat.sub_self] at hd'
     rw [List.getElem?_append_right (by omega),hcl,Nat.sub_self] at hc'
     simp only [List.getElem?_cons_zero,Option.some.injEq] at hd' hc'
     subst hd' hc'
     exact at8),by
    have:=(oL7.keep k8 (by simp;omega))
    exact Sl.of (by simpa using this) (by have:=sL.1;simp [List.length_flatten] at this ⊢;omega),fun _=>⟨hl7'.1,by have:=k8.1;omega⟩,K8,rfl⟩ (by omega) ⟨by rfl,by rfl,by rfl,by rfl,by rfl,by rfl,trivial⟩
 have i1:¬ (i:Int) < fs.length:=by omega
 have ei:i=fs.length:=by omega
 clear ih
 have lY:=oYF.load (off:=0) 5 (by simp)
 simp [Za1] at lY
 obtain⟨m8,e8,oR8,k8⟩:=Zap (r:=_) rfl (oR.keep kF (by simp)) (off:=0) (vs:=[.int .i64 1,.int .i64 (st:Int),.int .i64 val,.slice lo i i,.int .i64 V.steps]) (by simp) (by simp [Zau,Zai])
 simp [Zb5] at oR8
 have lR:=oR8.load (off:=0) 5 (by simp)
 simp [Za1] at lR
 simp [-Int.natCast_add,Zhj Z3f,Zad Z3u,Zao Z3f,i1,lY,e8,lR]
 subst ei
 rw [List.take_of_length_le (by simp)] at hcs
 have KR:Zag m m8 []:=(kB.trans kF).fresh k8 (by simp;omega)
 refine⟨⟨lo,⟨rfl,rfl⟩,lo,css,lf,by simp,by simpa using hcl,fun k d c h1 h2=>((hcs k d c h1 h2).keep k8 (by simp;omega)).mono (fun f q=>by omega),?_,fun q=>?_⟩,KR⟩
 ·have:=(sL.keepz k8 (fun q=>by have:=hlf q;simp;omega)).rs
  rw [List.length_map]
  exact this
 ·have hln:lo≠none:=by
   intro e
   simp at q
   rcases sL.2 with⟨_,z⟩ | ⟨b,z,_⟩
   ·exact q (List.length_eq_zero_iff.1 z)
   ·rw [e] at z;cases z
  have:=hlf hln
  omega
end Go.Proofs.YtlogdohlcdhepaaDoor.base
end
section
set_option maxRecDepth 100000
namespace Go.Proofs.YtlogdohlcdhepaaDoor.base
open Go.Sh gen
variable {S:Zc}{m:Mem}
def Zcf (k n:Int):Bool:=decide (0≤k) && decide (k < n)
theorem Zg6 (hS:S 65=[])(k n:Int):Zal Tryd.prog TT S 65 [.int .i64 k,.int .i64 n] m=some (.bool (Zcf k n),m):=by
 refine Zb9 5 [] k65 hS rfl ?_
 unfold Zcf
 by_cases h:0≤k
 ·simp [h]
 ·simp [h]
def noW (op:Int):Bool:=decide (op=19) || decide (op=20) || decide (op=22) || decide (op=23)
def Zcm (u:UnT.D)(l:List Int):Bool:=l.all fun k=>Zcf k (nv u) && !noW (Zbd u k).1
set_option maxHeartbeats 4000000 in
theorem Zki (hS:S 64=[])(hB:S 65=[]){Q Q2:Nat→Prop}{u:UnT.D}{vo bo so:Option Addr}(hU:UAt Q m u vo bo so)(hnu:nv u≤1000000){cb:Nat}(h2:loadRow m ⟨cb,2,none⟩ 1=some [.slice vo (nv u) (nv u)])
  {l:List Int} (hl:l.length≤20000000000000) {ao:Option Addr} (hi:Za5 Q2 m ao l) :
  Zal Tryd.prog TT S 64 [.pointer (some ⟨cb,0,none⟩),.slice ao l.length l.length] m=some (.bool (Zcm u l),m):=by
 have br:=fun k n=>Zg6 (m:=m) hB k n
 refine Zb9 31 [31,31,31,31] k64 hS rfl ?_
 simp [-Int.natCast_add,Zac u36]
 refine Zaq 31 [31,31,31,31] (fun d E mF=>∃ (i:Nat),l.length - i=d∧i≤l.length∧mF=m∧Zcm u (l.drop i)=Zcm u l∧
  E=[(0,.pointer (some ⟨cb,0,none⟩)),(7,.slice ao l.length l.length),(8,.int .i64 l.length),(9,.int .i64 (i:Int))]) _ ⟨_,⟨0,rfl,by omega,rfl,by rw [List.drop_zero],rfl⟩,⟨by rfl,by rfl,by rfl,by rfl,trivial⟩⟩ ?_
 rintro d E mF ih ⟨i,hd,hi',rfl,ht,rfl⟩
 have im:(i:Int)≤9223372036854775807:=by omega
 by_cases hlt:i < l.length
 ·have i1:(i:Int) < l.length:=by omega
  have wi:IntKind.i64.wrap ((i:Int)+1)=((i+1:Nat):Int):=by rw [Zaf (by omega) (by omega)];omega
  obtain⟨lb,hlb,li⟩:=hi.get hlt
  rw [hlb] at ih ⊢
  obtain⟨k,hk⟩:∃ k,l.getD i 0=k:=⟨_,rfl⟩
  rw [hk] at li
  have hdrop:l.drop i=k::l.drop (i+1):=by
   rw [List.drop_eq_getElem_cons hlt,← hk,List.getD_eq_getElem?_getD,List.getElem?_eq_getElem hlt];rfl
  rw [hdrop] at ht
  have ht':(Zcf k (nv u) && !noW (Zbd u k).1 && Zcm u (l.drop (i+1)))=Zcm u l:=ht
  by_cases hb:Zcf k (nv u)=true
  ·have hb2:=hb
   unfold Zcf at hb2
   simp only [Bool.and_eq_true,decide_eq_true_eq] at hb2
   obtain⟨n,rfl⟩:∃ n:Nat,k=(n:Int):=⟨k.toNat,by omega⟩
   have hn:n < nv u:=by omega
   have hn1:(n:Int) < nv u:=by omega
   have hn2:(n:Int)≤9223372036854775807:=by omega
   obtain⟨xb,ao',fa,hxv,ldx,_,_⟩:=Zie hU hn
   rw [hxv] at h2
   have lop:=Zcd (k:=0) ldx rfl
   rw [Nat.add_zero] at lop
   rw [Zgs hn,hb] at ht'
   obtain⟨o,ho⟩:∃ o:Int,(u.2.2.1[n]).1=o:=⟨_,rfl⟩
   rw [ho] at lop
   rw [show (u.2.2.1[n]).1=o from ho] at ht'
   by_cases c19:o=19
   ·have:Zcm u l=false:=by rw [← ht'];simp [noW,c19]
    simp [-Int.natCast_add,-List.getD_eq_getElem?_getD,Zab u36 sz3,Zaa ld3,Za Zbt,Za Za3,Zaa Zd5,Zac u30,Zab u30 Ze8,Za Zbv,i1,im,hlt,li,h2,br,hb,hn,hn2,lop,c19,this]
   by_cases c20:o=20
   ·have:Zcm u l=false:=by rw [← ht'];simp [noW,c20]
    simp [-Int.natCast_add,-List.getD_eq_getElem?_getD,Zab u36 sz3,Zaa ld3,Za Zbt,Za Za3,Zaa Zd5,Zac u30,Zab u30 Ze8,Za Zbv,i1,im,hlt,li,h2,br,hb,hn,hn2,lop,c20,this]
   by_cases c22:o=22
   ·have:Zcm u l=false:=by rw [← ht'];simp [noW,c22]
    simp [-Int.natCast_add,-List.getD_eq_getElem?_getD,Zab u36 sz3,Zaa ld3,Za Zbt,Za Za3,Zaa Zd5,Zac u30,Zab u30 Ze8,Za Zbv,i1,im,hlt,li,h2,br,hb,hn,hn2,lop,c22,this]
   by_cases c23:o=23
   ·have:Zcm u l=false:=by rw [← ht'];simp [noW,c23]
    simp [-Int.natCast_add,-List.getD_eq_getElem?_getD,Zab u36 sz3,Zaa ld3,Za Zbt,Za Za3,Zaa Zd5,Zac u30,Zab u30 Ze8,Za Zbv,i1,im,hlt,li,h2,br,hb,hn,hn2,lop,c23,this]
   have hno:noW o=false:=by simp [noW,c19,c20,c22,c23]
   simp [-Int.natCast_add,-List.getD_eq_getElem?_getD,Zab u36 sz3,Zaa ld3,Za Zbt,Za Za3,Zaa Zd5,Zac u30,Zab u30 Ze8,Za Zbv,i1,im,hlt,li,h2,br,hb,hn,hn2,lop,c19,c20,c22,c23,wi]
   exact ih _ _ _ _ ⟨i+1,rfl,by omega,rfl,by rw [← ht',hno];rfl,rfl⟩ (by omega) ⟨by rfl,by rfl,by rfl,by rfl,trivial⟩
  ·have hb':Zcf k (nv u)=false:=by simpa using hb
   have:Zcm u l=false:=by rw [← ht',hb'];rfl
   simp [-Int.natCast_add,-List.getD_eq_getElem?_getD,Zab u36 sz3,Zaa ld3,Za Zbt,Za Za3,Zaa Zd5,Zac u30,i1,im,hlt,li,h2,br,hb',this]
 have i1:¬ (i:Int) < l.length:=by omega
 rw [List.drop_of_length_le (by omega)] at ht
 have:Zcm u l=true:=by rw [← ht];rfl
 simp [-Int.natCast_add,i1,this]
end Go.Proofs.YtlogdohlcdhepaaDoor.base
end
