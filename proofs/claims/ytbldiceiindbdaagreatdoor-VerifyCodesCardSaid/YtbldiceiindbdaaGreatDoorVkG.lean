/- This text proves that kinds.one and Right say yes of a table that is right. Condition: nothing is known of the calls ahead ('S f = []'). -/
import Derived.Test.YtbldiceiindbdaaGreatDoorVkE
set_option linter.unusedVariables false
set_option linter.unusedSimpArgs false
set_option maxRecDepth 100000
namespace Go.Proofs.YtbldiceiindbdaaGreatDoor.base
open Go.Sh gen
variable {S:Zed}{m:Mem}
set_option maxHeartbeats 4000000 in
theorem Z0q (hN:Nk S)(hO:S 70=[]){to:Option Addr}{n:Nat}{d:Zb0.D}{c:List Value}(hd:Zb0.wf d)(h:At m Zb0 d c)(hL:Z2q n d) :
  ∃ v m1,Zbi Tryz.prog TT S 70 [.slice to n n,.agg c.toArray] m=some (v,m1)∧v=.bool true∧Zao m m1 []:=by
 obtain⟨ao,bo,ca,cb,f,g,ty⟩:=Zc3 h
 have hc:=ty.c
 have h0:=h
 have hff:=fun m' (h:At m' Zb0 d c) hP hk=>Ztv (m:=m') hN (to:=to) (n:=n) hd h hP hk
 obtain⟨k,nm,el,fs,ms,u⟩:=d
 simp only at hc
 rw [hc]
 refine Zey 7 [7,22,43] k70 hO rfl ?_
 simp [-Int.natCast_add,-w70_1,-BitVec.toNat_or,-BitVec.toNat_ofInt,-BitVec.toNat_and,Zah b33,Za Za3,Zab ld3,Za Zbu,Zab ld9,Za Zau,Zae Zf5,Za Zay,Zab Zce,Zac u28,Za Zaq,Zab Zb1,Zac u31]
 obtain⟨o1,k1,n1⟩:=Za7 (m:=m) (cs:=[.int .i64 k,.string ⟨nm.toArray⟩,.int .i64 el,.slice ao fs.length fs.length,.slice bo ms.length ms.length]) (e:=33) rfl
 obtain⟨xb,hxb⟩:∃ xb,m.next=xb:=⟨_,rfl⟩
 rw [hxb] at o1 n1
 obtain⟨m1,hm1⟩:∃ m1,m.new [.int .i64 k,.string ⟨nm.toArray⟩,.int .i64 el,.slice ao fs.length fs.length,.slice bo ms.length ms.length] 33=m1:=⟨_,rfl⟩
 simp only [hxb]
 rw [hm1] at o1 k1 n1 ⊢
 have l0:=o1.load1 (off:=0) rfl
 have l1:=o1.load1 (off:=1) rfl
 have l2:=o1.load1 (off:=2) rfl
 have l3:=o1.load1 (off:=3) rfl
 have l4:=o1.load1 (off:=4) rfl
 have lx:=o1.load (off:=0) 5 (by simp)
 simp [Zb] at lx
 have vr:=Zmu (m:=m1) (to:=to) (n:=n) hN.value el
 rcases hL with⟨e5,hP,hk⟩ | ⟨e7,hP,hF,hk⟩ | ⟨e6,hn,hv,hF,hM⟩
 ·obtain⟨_,m2,hf,rfl,k2⟩:=hff m1 (h0.keep k1) hP (Or.inl ⟨e5,hk⟩)
  have c2:el=0:=hP.el
  have c1:List.isEmpty nm=false:=by have h9:nm≠[]:=hP.nm;cases nm <;> simp_all
  rw [hc] at hf
  simp only at e5
  subst e5 c2
  simp [-Int.natCast_add,-BitVec.toNat_or,-BitVec.toNat_ofInt,-BitVec.toNat_and,Zah b33,Za Za3,Zab ld3,Za Zbu,Zab ld9,Za Zau,Zae Zf5,Za Zay,Zab Zce,Zac u28,Za Zaq,Zab Zb1,Zac u31,l0,l1,l2,lx,hf,c1]
  exact k1.trans k2
 ·obtain⟨_,m2,hf,rfl,k2⟩:=hff m1 (h0.keep k1) hP (Or.inr ⟨e7,hk⟩)
  have c2:el=0:=hP.el
  have c1:List.isEmpty nm=false:=by have h9:nm≠[]:=hP.nm;cases nm <;> simp_all
  rw [hc] at hf
  simp only [tF] at e7 hF
  subst e7 c2 hF
  simp [-Int.natCast_add] at hf lx l3
  simp [-Int.natCast_add,-BitVec.toNat_or,-BitVec.toNat_ofInt,-BitVec.toNat_and,Zah b33,Za Za3,Zab ld3,Za Zbu,Zab ld9,Za Zau,Zae Zf5,Za Zay,Zab Zce,Zac u28,Za Zaq,Zab Zb1,Zac u31,l0,l1,l2,l3,lx,hf,c1]
  exact k1.trans k2
 ·simp only [tF,tM] at e6 hn hF hM hv
  rw [decide_eq_true hv] at vr
  subst e6 hn hF hM
  simp [-Int.natCast_add] at l3 l4
  simp [-Int.natCast_add,-BitVec.toNat_or,-BitVec.toNat_ofInt,-BitVec.toNat_and,Zah b33,Za Za3,Zab ld3,Za Zbu,Zab ld9,Za Zau,Zae Zf5,Za Zay,Zab Zce,Zac u28,Za Zaq,Zab Zb1,Zac u31,l0,l1,l2,l3,l4,vr]
  exact k1
theorem Zw4 {x y:Zb0.D}(h:Zdv x y)(c1:x.1=6)(c2:y.1=6):¬ x.2.2.1=y.2.2.1:=by
 unfold Zdv at h;rw [if_pos ⟨c1,c2⟩] at h;exact h
theorem Zs5 {x y:Zb0.D}(h:Zdv x y)(c1:¬ x.1=6)(c2:¬ y.1=6):¬ x.2.1=y.2.1:=by
 unfold Zdv at h;rw [if_neg (fun e=>c1 e.1)] at h
 rcases h with h | h | h
 ·exact absurd h c1
 ·exact absurd h c2
 ·exact h
set_option maxHeartbeats 4000000 in
theorem Zwp (hN:Nk S)(hM:Ns S)(hO:S 70=[])(hB:S 68=[])(hS:S 36=[]){to:Option Addr}{L:List Zb0.D}(h:Tb m to L)(hR:Zdp L) :
  ∃ v m1,Zbi Tryz.prog TT S 36 [.slice to L.length L.length] m=some (v,m1)∧v=.bool true∧Zao m m1 []:=by
 obtain⟨_,m1,hb,bb,rfl,oB,hbb,k1⟩:=Zxu (m:=m) hB
 refine Zey 57 [57,96] k36 hS rfl ?_
 have q1:=hR.lo
 have q2:=hR.hi
 have c1:¬ L.length < 5:=by omega
 have c2:¬ 60 < L.length:=by omega
 have c1':¬ (L.length:Int) < 5:=by omega
 have c2':¬ (60:Int) < L.length:=by omega
 simp [-Int.natCast_add,-BitVec.toNat_or,-BitVec.toNat_ofInt,-BitVec.toNat_and,Zac u24,Zaa u24 Zbn,Zae Zf5,Zag Zgb,Zaf Zbn,Zbz u24 Zbn,Za Za3,Zab ld3,Za Zau,Za Zbu,Zab ld9,hb,c1,c1',c2,c2']
 have h1:=h.keep k1
 refine Zbg 57 [57,96] (fun dd E mC=>∃ (i:Nat),L.length - i=dd∧i≤L.length∧Zao m1 mC []∧
  E=[(0,.slice to L.length L.length),(3,.slice (some ⟨bb,0,none⟩) 5 5),(20,.slice to L.length L.length),(21,.int .i64 L.length),(22,.int .i64 i)]) _ ⟨_,⟨0,rfl,by omega,Zaj _,rfl⟩,⟨by rfl,by rfl,by rfl,by rfl,by rfl,trivial⟩⟩ ?_
 rintro dd E mC ih ⟨i,hdi,hi,kC,rfl⟩
 by_cases hlt:i < L.length
 ·have i1:(i:Int) < L.length:=by omega
  have em:(i:Int)≤9223372036854775807:=by omega
  have wi:IntKind.i64.wrap ((i:Int)+1)=((i+1:Nat):Int):=by rw [Zbh (by omega) (by omega)];omega
  have hC:=h1.keep kC
  obtain⟨tb,cx,rfl,hcx,ldx⟩:=hC.one hlt
  obtain⟨aox,box,cax,cbx,fx,gx,tyx⟩:=Zc3 hcx
  have hwx:=h.wf _ (List.getElem_mem hlt)
  have hlx:=ldx _ (Zaj _)
  rw [tyx.c] at hlx
  have hb5:=hR.base i hlt
  have ho5:=hR.one i hlt
  have hp5:=fun j hj=>hR.pair i j hlt hj
  obtain⟨x,hx⟩:∃ x,L[i]=x:=⟨_,rfl⟩
  rw [hx] at hlx hcx hwx tyx hb5 ho5 hp5
  simp [-Int.natCast_add,-w36_7,-BitVec.toNat_or,-BitVec.toNat_ofInt,-BitVec.toNat_and,Zac u24,Zaa u24 Zbn,Zae Zf5,Zag Zgb,Zaf Zbn,Zbz u24 Zbn,Za Za3,Zab ld3,Za Zau,Za Zbu,Zab ld9,i1,em,hlt,wi,hlx]
  obtain⟨o1,j1,n1⟩:=Za7 (m:=mC) (cs:=[.int .i64 0,.string ⟨#[]⟩,.int .i64 0,.slice none 0 0,.slice none 0 0]) (e:=33) rfl
  obtain⟨xb,hxb⟩:∃ xb,mC.next=xb:=⟨_,rfl⟩
  rw [hxb] at o1 n1
  simp only [hxb]
  obtain⟨mD,hmD⟩:∃ mD,mC.new [.int .i64 0,.string ⟨#[]⟩,.int .i64 0,.slice none 0 0,.slice none 0 0] 33=mD:=⟨_,rfl⟩
  rw [hmD] at o1 j1 n1 ⊢
  generalize hrp:Za8 _ _ _=rp
  obtain⟨mE,rfl,o2,j2⟩:=Za4 hrp o1 (by simp) (by simp [Zbk,Zco,Zbp])
  simp [Zdh] at o2
  have kE:Zao mC mE []:=j1.fresh j2 (by simp;omega)
  have hcE:=hcx.keep kE
  have hE:=hC.keep kE
  have lx:=o2.load (off:=0) 5 (by simp)
  simp [Zb] at lx
  have lx0:=o2.load1 (off:=0) rfl
  apply Z50 (fun (mX:Mem)=>Zao mE mX [])
  case main =>
   intro meth
   by_cases c5:i < 5
   ·have i5:(i:Int) < 5:=by omega
    have i6:¬ (5:Int)≤(i:Int):=by omega
    obtain⟨db,hdb⟩:∃ d,Zcs[i]?=some d:=⟨_,List.getElem?_eq_getElem (by simpa [Zcs] using c5)⟩
    obtain⟨cb,hcb⟩:∃ d,Zgi[i]?=some d:=⟨_,List.getElem?_eq_getElem (by simpa [Zgi] using c5)⟩
    have hAb:=(Zlo (fun _=>True) mE i db cb hdb hcb).at_
    have hwb:=Zlp db (List.mem_of_getElem? hdb)
    obtain⟨aob,bob,cab,cbb,fb,gb,tyb⟩:=Zc3 hAb
    have lb:loadRow mE ⟨bb,i * 5,none⟩ 5=some cb:=Zjy (oB.keep (kC.trans kE) (by simp)) hcb
    obtain⟨_,mF,hs,rfl,kF⟩:=Zyq hM hcE hAb hwx hwb
    have lxF:=(o2.keep kF (by simp)).load (off:=0) 5 (by simp)
    simp [Zb] at lxF
    have lbF:loadRow mF ⟨bb,i * 5,none⟩ 5=some cb:=Zjy ((oB.keep (kC.trans kE) (by simp)).keep kF (by simp)) hcb
    rw [tyx.c] at hs
    rw [tyb.c] at lb lbF hs
    rw [Zow (hb5 db hdb)] at hs
    simp [-Int.natCast_add,-w36_7,-BitVec.toNat_or,-BitVec.toNat_ofInt,-BitVec.toNat_and,Zac u24,Zaa u24 Zbn,Zae Zf5,Zag Zgb,Zaf Zbn,Zbz u24 Zbn,Za Za3,Zab ld3,Za Zau,Za Zbu,Zab ld9]
    simp [-Int.natCast_add,-w36_9,-BitVec.toNat_or,-BitVec.toNat_ofInt,-BitVec.toNat_and,Zac u24,Zaa u24 Zbn,Zae Zf5,Zag Zgb,Zaf Zbn,Zbz u24 Zbn,Za Za3,Zab ld3,Za Zau,Za Zbu,Zab ld9,i5,i6,c5,em,lx,lb,hs,lxF,lbF,Zdf,Zic,Zc1]
    exact Zcq (E:=[(0,.slice (some ⟨tb,0,none⟩) L.length L.length),(3,.slice (some ⟨bb,0,none⟩) 5 5),(4,.int .i64 i),(5,.pointer (some ⟨xb,0,none⟩)),(20,.slice (some ⟨tb,0,none⟩) L.length L.length),(21,.int .i64 L.length),(22,.int .i64 i)]) (meth mF kF) ⟨by rfl,by rfl,by rfl,by rfl,by rfl,by rfl,by rfl,trivial⟩
   ·have i5:¬ (i:Int) < 5:=by omega
    have i6:(5:Int)≤(i:Int):=by omega
    obtain⟨_,mF,hs,rfl,kF⟩:=Z0q hN hO (to:=some ⟨tb,0,none⟩) (n:=L.length) hwx hcE (ho5 (by omega))
    have lxF:=(o2.keep kF (by simp)).load (off:=0) 5 (by simp)
    simp [Zb] at lxF
    rw [tyx.c] at hs
    simp [-Int.natCast_add,-w36_7,-BitVec.toNat_or,-BitVec.toNat_ofInt,-BitVec.toNat_and,Zac u24,Zaa u24 Zbn,Zae Zf5,Zag Zgb,Zaf Zbn,Zbz u24 Zbn,Za Za3,Zab ld3,Za Zau,Za Zbu,Zab ld9]
    simp [-Int.natCast_add,-w36_9,-BitVec.toNat_or,-BitVec.toNat_ofInt,-BitVec.toNat_and,Zac u24,Zaa u24 Zbn,Zae Zf5,Zag Zgb,Zaf Zbn,Zbz u24 Zbn,Za Za3,Zab ld3,Za Zau,Za Zbu,Zab ld9,i5,i6,c5,em,lx,hs,lxF,Zdf,Zic,Zc1]
    exact Zcq (E:=[(0,.slice (some ⟨tb,0,none⟩) L.length L.length),(3,.slice (some ⟨bb,0,none⟩) 5 5),(4,.int .i64 i),(5,.pointer (some ⟨xb,0,none⟩)),(20,.slice (some ⟨tb,0,none⟩) L.length L.length),(21,.int .i64 L.length),(22,.int .i64 i)]) (meth mF kF) ⟨by rfl,by rfl,by rfl,by rfl,by rfl,by rfl,by rfl,trivial⟩
  intro mX kX
  have KX:=(kC.trans kE).trans kX
  have oX:=o2.keep kX (by simp)
  have wi1:IntKind.i64.wrap ((i:Int)+1)=((i+1:Nat):Int):=wi
  simp [-Int.natCast_add,-BitVec.toNat_or,-BitVec.toNat_ofInt,-BitVec.toNat_and,Zac u24,Zaa u24 Zbn,Zae Zf5,Zag Zgb,Zaf Zbn,Zbz u24 Zbn,Za Za3,Zab ld3,Za Zau,Za Zbu,Zab ld9,em,hlt,hi]
  refine Zbg 57 [57,96] (fun de E mD=>∃ (j:Nat),i - j=de∧j≤i∧Zao mE mD []∧
   E=[(0,.slice (some ⟨tb,0,none⟩) L.length L.length),(3,.slice (some ⟨bb,0,none⟩) 5 5),(5,.pointer (some ⟨xb,0,none⟩)),(20,.slice (some ⟨tb,0,none⟩) L.length L.length),(21,.int .i64 L.length),(22,.int .i64 i),(54,.slice (some ⟨tb,0,none⟩) i i),(55,.int .i64 i),(56,.int .i64 j)]) _ ⟨_,⟨0,rfl,by omega,kX,rfl⟩,⟨by rfl,by rfl,by rfl,by rfl,by rfl,by rfl,by simp [Zcm],by rfl,by rfl,trivial⟩⟩ ?_
  rintro de E mD ihM ⟨j,hdj,hj,kD,rfl⟩
  have KD:=(kC.trans kE).trans kD
  by_cases hlj:j < i
  ·have i1:(j:Int) < i:=by omega
   have ej:(j:Int)≤9223372036854775807:=by omega
   have wj:IntKind.i64.wrap ((j:Int)+1)=((j+1:Nat):Int):=by rw [Zbh (by omega) (by omega)];omega
   have hjL:j < L.length:=by omega
   obtain⟨tb2,cy,he2,hcy,ldy⟩:=(h1.keep KD).one hjL
   cases he2
   obtain⟨aoy,boy,cay,cby,fy,gy,tyy⟩:=Zc3 hcy
   have hly:=ldy _ (Zaj _)
   rw [tyy.c] at hly
   have hpj:=hp5 j hlj
   obtain⟨y,hy⟩:∃ y,L[j]=y:=⟨_,rfl⟩
   rw [hy] at hly hpj
   obtain⟨p1,q1,nn1⟩:=Za7 (m:=mD) (cs:=[.int .i64 0,.string ⟨#[]⟩,.int .i64 0,.slice none 0 0,.slice none 0 0]) (e:=33) rfl
   obtain⟨yb,hyb⟩:∃ xb,mD.next=xb:=⟨_,rfl⟩
   rw [hyb] at p1 nn1
   obtain⟨mF,hmF⟩:∃ mF,mD.new [.int .i64 0,.string ⟨#[]⟩,.int .i64 0,.slice none 0 0,.slice none 0 0] 33=mF:=⟨_,rfl⟩
   rw [hmF] at p1 q1 nn1
   simp [-Int.natCast_add,-BitVec.toNat_or,-BitVec.toNat_ofInt,-BitVec.toNat_and,Zac u24,Zaa u24 Zbn,Zae Zf5,Zag Zgb,Zaf Zbn,Zbz u24 Zbn,Za Za3,Zab ld3,Za Zau,Za Zbu,Zab ld9,i1,ej,hlj,wj,hly,hyb,hmF]
   generalize hrq:Za8 _ _ _=rq
   obtain⟨mG,rfl,p2,q2⟩:=Za4 hrq p1 (by simp) (by simp [Zbk,Zco,Zbp])
   simp [Zdh] at p2
   have kG:Zao mD mG []:=q1.fresh q2 (by simp;omega)
   have ox:=(o2.keep kD (by simp)).keep kG (by simp)
   have lx:=ox.load (off:=0) 5 (by simp)
   have ly:=p2.load (off:=0) 5 (by simp)
   simp [Zb] at lx ly
   have lx0:=ox.load1 (off:=0) rfl
   have lx1:=ox.load1 (off:=1) rfl
   have lx2:=ox.load1 (off:=2) rfl
   have ly0:=p2.load1 (off:=0) rfl
   have ly1:=p2.load1 (off:=1) rfl
   have ly2:=p2.load1 (off:=2) rfl
   by_cases e1:x.1=6 <;> by_cases e2:y.1=6
   ·have e3:=Zw4 hpj e1 e2
    simp [-Int.natCast_add,-BitVec.toNat_or,-BitVec.toNat_ofInt,-BitVec.toNat_and,Zac u24,Zaa u24 Zbn,Zae Zf5,Zag Zgb,Zaf Zbn,Zbz u24 Zbn,Za Za3,Zab ld3,Za Zau,Za Zbu,Zab ld9,lx0,ly0,lx1,ly1,lx2,ly2,e1,e2,e3,wj]
    exact ihM _ _ _ _ ⟨j+1,rfl,by omega,kD.trans kG,rfl⟩ (by omega) ⟨by rfl,by rfl,by rfl,by rfl,by rfl,by rfl,by rfl,by rfl,by simp [Zcm],trivial⟩
   ·simp [-Int.natCast_add,-BitVec.toNat_or,-BitVec.toNat_ofInt,-BitVec.toNat_and,Zac u24,Zaa u24 Zbn,Zae Zf5,Zag Zgb,Zaf Zbn,Zbz u24 Zbn,Za Za3,Zab ld3,Za Zau,Za Zbu,Zab ld9,lx0,ly0,lx1,ly1,lx2,ly2,e1,e2,wj]
    by_cases e4:x.2.1=y.2.1 <;> simp [-Int.natCast_add,-BitVec.toNat_or,-BitVec.toNat_ofInt,-BitVec.toNat_and,Zac u24,Zaa u24 Zbn,Zae Zf5,Zag Zgb,Zaf Zbn,Zbz u24 Zbn,Za Za3,Zab ld3,Za Zau,Za Zbu,Zab ld9,lx0,ly0,lx1,ly1,lx2,ly2,e1,e2,e4,wj]
    all_goals exact ihM _ _ _ _ ⟨j+1,rfl,by omega,kD.trans kG,rfl⟩ (by omega) ⟨by rfl,by rfl,by rfl,by rfl,by rfl,by rfl,by rfl,by rfl,by simp [Zcm],trivial⟩
   ·by_cases e4:x.2.1=y.2.1 <;> simp [-Int.natCast_add,-BitVec.toNat_or,-BitVec.toNat_ofInt,-BitVec.toNat_and,Zac u24,Zaa u24 Zbn,Zae Zf5,Zag Zgb,Zaf Zbn,Zbz u24 Zbn,Za Za3,Zab ld3,Za Zau,Za Zbu,Zab ld9,lx0,ly0,lx1,ly1,lx2,ly2,e1,e2,e4,wj]
    all_goals exact ihM _ _ _ _ ⟨j+1,rfl,by omega,kD.trans kG,rfl⟩ (by omega) ⟨by rfl,by rfl,by rfl,by rfl,by rfl,by rfl,by rfl,by rfl,by simp [Zcm],trivial⟩
   ·have e4:=Zs5 hpj e1 e2
    simp [-Int.natCast_add,-BitVec.toNat_or,-BitVec.toNat_ofInt,-BitVec.toNat_and,Zac u24,Zaa u24 Zbn,Zae Zf5,Zag Zgb,Zaf Zbn,Zbz u24 Zbn,Za Za3,Zab ld3,Za Zau,Za Zbu,Zab ld9,lx0,ly0,lx1,ly1,lx2,ly2,e1,e2,e4,wj]
    exact ihM _ _ _ _ ⟨j+1,rfl,by omega,kD.trans kG,rfl⟩ (by omega) ⟨by rfl,by rfl,by rfl,by rfl,by rfl,by rfl,by rfl,by rfl,by simp [Zcm],trivial⟩
  ·have i1:¬ (j:Int) < i:=by omega
   simp [-Int.natCast_add,-BitVec.toNat_or,-BitVec.toNat_ofInt,-BitVec.toNat_and,Zac u24,Zaa u24 Zbn,Zae Zf5,Zag Zgb,Zaf Zbn,Zbz u24 Zbn,Za Za3,Zab ld3,Za Zau,Za Zbu,Zab ld9,i1,em,wi]
   exact ih _ _ _ _ ⟨i+1,rfl,by omega,KD,rfl⟩ (by omega) ⟨by rfl,by rfl,by rfl,by rfl,by simp [Zcm],trivial⟩
 ·have i1:¬ (i:Int) < L.length:=by omega
  simp [-Int.natCast_add,-w36_7,-BitVec.toNat_or,-BitVec.toNat_ofInt,-BitVec.toNat_and,Zac u24,Zaa u24 Zbn,Zae Zf5,Zag Zgb,Zaf Zbn,Zbz u24 Zbn,Za Za3,Zab ld3,Za Zau,Za Zbu,Zab ld9,i1]
  exact k1.trans kC
end Go.Proofs.YtbldiceiindbdaaGreatDoor.base
