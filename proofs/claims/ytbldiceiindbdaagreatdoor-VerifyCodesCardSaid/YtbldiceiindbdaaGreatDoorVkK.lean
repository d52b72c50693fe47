/- This text proves that the document's Right says yes of a table that is right. Condition: nothing is known of the calls ahead ('S f = []'). -/
import Derived.Test.YtbldiceiindbdaaGreatDoorVkJ
set_option linter.unusedVariables false
set_option linter.unusedSimpArgs false
set_option maxRecDepth 100000
namespace Go.Proofs.YtbldiceiindbdaaGreatDoor.base
open Go.Sh gen
variable {S:Zed}{m:Mem}
set_option maxHeartbeats 4000000 in
theorem Zt7 (hM:Ns S)(hO:S 86=[])(hV:S 87=[])(hB:S 7=[])(hS:S 48=[]){to:Option Addr}{L:List Zb0.D}(h:Tb m to L)(hR:Zdp L) :
  ∃ v m1,Zbi Tryz.prog TT S 48 [.slice to L.length L.length] m=some (v,m1)∧v=.bool true∧Zao m m1 []:=by
 obtain⟨_,m1,hb,bb,rfl,oB,hbb,k1⟩:=Zn7 (m:=m) hB
 refine Zey 9 [17,19,31,35,44,47,88] k48 hS rfl ?_
 have q1:=hR.lo
 have q2:=hR.hi
 have c1:¬ L.length < 5:=by omega
 have c2:¬ 60 < L.length:=by omega
 have c1':¬ (L.length:Int) < 5:=by omega
 have c2':¬ (60:Int) < L.length:=by omega
 simp [-Int.natCast_add,-BitVec.toNat_or,-BitVec.toNat_ofInt,-BitVec.toNat_and,Zac u24,Zaa u24 Zbn,Zae Zf5,Zag Zgb,Zaf Zbn,Za Za3,Zab ld3,Zaw u4 .eql (Or.inl rfl),Za Zau,Za Zbu,Zab ld9,hb,c1,c1',c2,c2']
 have h1:=h.keep k1
 refine Zbg 9 [17,19,31,35,44,47,88] (fun dd E mC=>∃ (i:Nat),5 - i=dd∧i≤5∧Zao m1 mC []∧E=[(0,.slice to L.length L.length),(3,.slice (some ⟨bb,0,none⟩) 5 5),(4,.int .i64 i)]) _ ⟨_,⟨0,rfl,by omega,Zaj _,rfl⟩,⟨by rfl,by rfl,by rfl,trivial⟩⟩ ?_
 rintro dd E mC ih ⟨i,hdi,hi,kC,rfl⟩
 by_cases c5:i < 5
 ·have hlt:i < L.length:=by omega
  have i1:(i:Int) < 5:=by omega
  have em:(i:Int)≤9223372036854775807:=by omega
  have wi:IntKind.i64.wrap ((i:Int)+1)=((i+1:Nat):Int):=by rw [Zbh (by omega) (by omega)];omega
  have hC:=h1.keep kC
  obtain⟨tb,cx,rfl,hcx,ldx⟩:=hC.one hlt
  obtain⟨aox,box,cax,cbx,fx,gx,tyx⟩:=Zc3 hcx
  have hwx:=h.wf _ (List.getElem_mem hlt)
  have hlx:=ldx _ (Zaj _)
  have hb5:=hR.base i hlt
  obtain⟨x,hx⟩:∃ x,L[i]=x:=⟨_,rfl⟩
  rw [hx] at hcx hwx tyx hb5
  obtain⟨db,hdb⟩:∃ d,Zcs[i]?=some d:=⟨_,List.getElem?_eq_getElem (by simpa [Zcs] using c5)⟩
  obtain⟨cb,hcb⟩:∃ d,Zgi[i]?=some d:=⟨_,List.getElem?_eq_getElem (by simpa [Zgi] using c5)⟩
  have hAb:=(Zlo (fun _=>True) mC i db cb hdb hcb).at_
  have hwb:=Zlp db (List.mem_of_getElem? hdb)
  obtain⟨aob,bob,cab,cbb,fb,gb,tyb⟩:=Zc3 hAb
  have lb:loadRow mC ⟨bb,i * 5,none⟩ 5=some cb:=Zjy (oB.keep kC (by simp)) hcb
  obtain⟨_,mF,hs,rfl,kF⟩:=Zva hM hcx hAb hwx hwb
  have hlx2:=ldx _ kF
  have lb2:loadRow mF ⟨bb,i * 5,none⟩ 5=some cb:=Zjy ((oB.keep kC (by simp)).keep kF (by simp)) hcb
  rw [tyx.c] at hs hlx hlx2
  rw [tyb.c] at lb hs lb2
  rw [Zow (hb5 db hdb)] at hs
  simp [-Int.natCast_add,-BitVec.toNat_or,-BitVec.toNat_ofInt,-BitVec.toNat_and,Zac u24,Zaa u24 Zbn,Zae Zf5,Zag Zgb,Zaf Zbn,Za Za3,Zab ld3,Zaw u4 .eql (Or.inl rfl),Za Zau,Za Zbu,Zab ld9,i1,em,hlt,c5,hlx,lb,hs,hlx2,lb2,Zdf,Zic,Zc1,wi]
  exact ih _ _ _ _ ⟨i+1,rfl,by omega,kC.trans kF,rfl⟩ (by omega) ⟨by rfl,by rfl,by simp [Zcm],trivial⟩
 have i1:¬ (i:Int) < 5:=by omega
 simp [-Int.natCast_add,-BitVec.toNat_or,-BitVec.toNat_ofInt,-BitVec.toNat_and,Zac u24,Zaa u24 Zbn,Zae Zf5,Zag Zgb,Zaf Zbn,Za Za3,Zab ld3,Zaw u4 .eql (Or.inl rfl),Za Zau,Za Zbu,Zab ld9,i1]
 clear ih
 refine Zbg 9 [17,19,31,35,44,47,88] (fun dd E mC=>∃ (i:Nat),L.length - i=dd∧5≤i∧i≤L.length∧Zao m1 mC []∧E=[(0,.slice to L.length L.length),(5,.int .i64 i)]) _ ⟨_,⟨5,rfl,by omega,by omega,kC,rfl⟩,⟨by rfl,by rfl,trivial⟩⟩ ?_
 rintro dd E mC ih ⟨i,hdi,hi5,hi,kC,rfl⟩
 by_cases hlt:i < L.length
 ·have i1:(i:Int) < L.length:=by omega
  have em:(i:Int)≤9223372036854775807:=by omega
  have wi:IntKind.i64.wrap ((i:Int)+1)=((i+1:Nat):Int):=by rw [Zbh (by omega) (by omega)];omega
  have hC:=h1.keep kC
  obtain⟨tb,cx,rfl,hcx,ldx⟩:=hC.one hlt
  obtain⟨aox,box,cax,cbx,fx,gx,tyx⟩:=Zc3 hcx
  have hwx:=h.wf _ (List.getElem_mem hlt)
  have ho5:=hR.one i hlt hi5
  have hp5:=fun j hj=>hR.pair i j hlt hj
  obtain⟨x,hx⟩:∃ x,L[i]=x:=⟨_,rfl⟩
  rw [hx] at hcx hwx tyx ho5 hp5
  obtain⟨_,mF,hs,rfl,kF⟩:=Zye hO hV (to:=some ⟨tb,0,none⟩) q1 hwx hcx ho5
  have hlx:=ldx _ (Zaj _)
  rw [tyx.c] at hs hlx
  simp [-Int.natCast_add,-BitVec.toNat_or,-BitVec.toNat_ofInt,-BitVec.toNat_and,Zac u24,Zaa u24 Zbn,Zae Zf5,Zag Zgb,Zaf Zbn,Za Za3,Zab ld3,Zaw u4 .eql (Or.inl rfl),Za Zau,Za Zbu,Zab ld9,i1,em,hlt,hlx,hs]
  refine Zbg 9 [17,19,31,35,44,47,88] (fun de E mD=>∃ (j:Nat),i - j=de∧j≤i∧Zao mC mD []∧E=[(0,.slice (some ⟨tb,0,none⟩) L.length L.length),(5,.int .i64 i),(6,.int .i64 j)]) _ ⟨_,⟨0,rfl,by omega,kF,rfl⟩,⟨by rfl,by rfl,by rfl,trivial⟩⟩ ?_
  rintro de E mD ihM ⟨j,hdj,hj,kD,rfl⟩
  by_cases hlj:j < i
  ·have j1:(j:Int) < i:=by omega
   have emj:(j:Int)≤9223372036854775807:=by omega
   have wj:IntKind.i64.wrap ((j:Int)+1)=((j+1:Nat):Int):=by rw [Zbh (by omega) (by omega)];omega
   have hjL:j < L.length:=by omega
   have hlxD:=ldx _ kD
   rw [tyx.c] at hlxD
   obtain⟨tb2,cy,he2,hcy,ldy⟩:=(hC.keep kD).one hjL
   cases he2
   obtain⟨aoy,boy,cay,cby,fy,gy,tyy⟩:=Zc3 hcy
   have hpj:=hp5 j hlj
   obtain⟨y,hy⟩:∃ y,L[j]=y:=⟨_,rfl⟩
   rw [hy] at hpj tyy
   obtain⟨o1,j1',n1⟩:=Za7 (m:=mD) (cs:=[.int .i64 0,.string ⟨#[]⟩,.int .i64 0,.slice none 0 0,.slice none 0 0]) (e:=33) rfl
   obtain⟨xb,hxb⟩:∃ xb,mD.next=xb:=⟨_,rfl⟩
   rw [hxb] at o1 n1
   obtain⟨mE,hmE⟩:∃ mF,mD.new [.int .i64 0,.string ⟨#[]⟩,.int .i64 0,.slice none 0 0,.slice none 0 0] 33=mF:=⟨_,rfl⟩
   rw [hmE] at o1 j1' n1
   simp [-Int.natCast_add,-BitVec.toNat_or,-BitVec.toNat_ofInt,-BitVec.toNat_and,Zac u24,Zaa u24 Zbn,Zae Zf5,Zag Zgb,Zaf Zbn,Za Za3,Zab ld3,Zaw u4 .eql (Or.inl rfl),Za Zau,Za Zbu,Zab ld9,j1,em,hlt,hlxD,hxb,hmE]
   generalize hrq:Za8 _ _ _=rq
   obtain⟨mG,rfl,p2,q2'⟩:=Za4 hrq o1 (by simp) (by simp [Zbk,Zco,Zbp])
   simp [Zdh] at p2
   have kG:Zao mD mG []:=j1'.fresh q2' (by simp;omega)
   have hly:=ldy _ kG
   rw [tyy.c] at hly
   obtain⟨o3,j3,n3⟩:=Za7 (m:=mG) (cs:=[.int .i64 0,.string ⟨#[]⟩,.int .i64 0,.slice none 0 0,.slice none 0 0]) (e:=33) rfl
   obtain⟨yb,hyb⟩:∃ xb,mG.next=xb:=⟨_,rfl⟩
   rw [hyb] at o3 n3
   obtain⟨mH,hmH⟩:∃ mF,mG.new [.int .i64 0,.string ⟨#[]⟩,.int .i64 0,.slice none 0 0,.slice none 0 0] 33=mF:=⟨_,rfl⟩
   rw [hmH] at o3 j3 n3
   simp [-Int.natCast_add,-BitVec.toNat_or,-BitVec.toNat_ofInt,-BitVec.toNat_and,Zac u24,Zaa u24 Zbn,Zae Zf5,Zag Zgb,Zaf Zbn,Za Za3,Zab ld3,Zaw u4 .eql (Or.inl rfl),Za Zau,Za Zbu,Zab ld9,j1,emj,hjL,hly,hyb,hmH]
   generalize hrr:Za8 _ _ _=rr
   obtain⟨mI,rfl,p4,q4⟩:=Za4 hrr o3 (by simp) (by simp [Zbk,Zco,Zbp])
   simp [Zdh] at p4
   have kI:Zao mG mI []:=j3.fresh q4 (by simp;omega)
   have ox:=p2.keep kI (by simp)
   have lx0:=ox.load1 (off:=0) rfl
   have lx1:=ox.load1 (off:=1) rfl
   have lx2:=ox.load1 (off:=2) rfl
   have ly0:=p4.load1 (off:=0) rfl
   have ly1:=p4.load1 (off:=1) rfl
   have ly2:=p4.load1 (off:=2) rfl
   have KI:=kD.trans (kG.trans kI)
   by_cases e1:x.1=6 <;> by_cases e2:y.1=6
   ·have e3:=Zw4 hpj e1 e2
    simp [-Int.natCast_add,-BitVec.toNat_or,-BitVec.toNat_ofInt,-BitVec.toNat_and,Zac u24,Zaa u24 Zbn,Zae Zf5,Zag Zgb,Zaf Zbn,Za Za3,Zab ld3,Zaw u4 .eql (Or.inl rfl),Za Zau,Za Zbu,Zab ld9,lx0,ly0,lx1,ly1,lx2,ly2,e1,e2,e3,wj]
    exact ihM _ _ _ _ ⟨j+1,rfl,by omega,KI,rfl⟩ (by omega) ⟨by rfl,by rfl,by simp [Zcm],trivial⟩
   ·simp [-Int.natCast_add,-BitVec.toNat_or,-BitVec.toNat_ofInt,-BitVec.toNat_and,Zac u24,Zaa u24 Zbn,Zae Zf5,Zag Zgb,Zaf Zbn,Za Za3,Zab ld3,Zaw u4 .eql (Or.inl rfl),Za Zau,Za Zbu,Zab ld9,lx0,ly0,lx1,ly1,lx2,ly2,e1,e2,wj]
    exact ihM _ _ _ _ ⟨j+1,rfl,by omega,KI,rfl⟩ (by omega) ⟨by rfl,by rfl,by simp [Zcm],trivial⟩
   ·simp [-Int.natCast_add,-BitVec.toNat_or,-BitVec.toNat_ofInt,-BitVec.toNat_and,Zac u24,Zaa u24 Zbn,Zae Zf5,Zag Zgb,Zaf Zbn,Za Za3,Zab ld3,Zaw u4 .eql (Or.inl rfl),Za Zau,Za Zbu,Zab ld9,lx0,ly0,lx1,ly1,lx2,ly2,e1,e2,wj]
    exact ihM _ _ _ _ ⟨j+1,rfl,by omega,KI,rfl⟩ (by omega) ⟨by rfl,by rfl,by simp [Zcm],trivial⟩
   ·have e4:=Zs5 hpj e1 e2
    simp [-Int.natCast_add,-BitVec.toNat_or,-BitVec.toNat_ofInt,-BitVec.toNat_and,Zac u24,Zaa u24 Zbn,Zae Zf5,Zag Zgb,Zaf Zbn,Za Za3,Zab ld3,Zaw u4 .eql (Or.inl rfl),Za Zau,Za Zbu,Zab ld9,lx0,ly0,lx1,ly1,lx2,ly2,e1,e2,e4,wj]
    exact ihM _ _ _ _ ⟨j+1,rfl,by omega,KI,rfl⟩ (by omega) ⟨by rfl,by rfl,by simp [Zcm],trivial⟩
  ·have j1:¬ (j:Int) < i:=by omega
   simp [-Int.natCast_add,-BitVec.toNat_or,-BitVec.toNat_ofInt,-BitVec.toNat_and,Zac u24,Zaa u24 Zbn,Zae Zf5,Zag Zgb,Zaf Zbn,Za Za3,Zab ld3,Zaw u4 .eql (Or.inl rfl),Za Zau,Za Zbu,Zab ld9,j1,wi]
   exact ih _ _ _ _ ⟨i+1,rfl,by omega,by omega,kC.trans kD,rfl⟩ (by omega) ⟨by rfl,by simp [Zcm],trivial⟩
 ·have i1:¬ (i:Int) < L.length:=by omega
  simp [-Int.natCast_add,-BitVec.toNat_or,-BitVec.toNat_ofInt,-BitVec.toNat_and,Zac u24,Zaa u24 Zbn,Zae Zf5,Zag Zgb,Zaf Zbn,Za Za3,Zab ld3,Zaw u4 .eql (Or.inl rfl),Za Zau,Za Zbu,Zab ld9,i1]
  exact k1.trans kC
end Go.Proofs.YtbldiceiindbdaaGreatDoor.base
