/- This text proves what package verify's Verify answers of a program whose head is right. Condition: nothing is known of the calls ahead ('S f = []') but code.Name's names. -/
import Derived.Test.YtbldiceiindbdaaGreatDoorVeU
set_option linter.unusedVariables false
set_option linter.unusedSimpArgs false
set_option maxRecDepth 100000
namespace Go.Proofs.YtbldiceiindbdaaGreatDoor.base
open Go.Sh gen
variable {S:Zed}{m:Mem}{p:Pr}{q:Pp}
def Zm9 (p:Pr):List Fn→Nat→Nat × Nat × Int
 | [],_=>(0,0,0)
 | f::r,i=>if (Ze6 p f).1=0 then Zm9 p r (i+1) else (i,(Ze6 p f).2.1,(Ze6 p f).1)
theorem Zz0 (p:Pr)(f:Fn)(r:List Fn)(i:Nat):Zm9 p (f::r) i=if (Ze6 p f).1=0 then Zm9 p r (i+1) else (i,(Ze6 p f).2.1,(Ze6 p f).1):=rfl
theorem Znb.v {m1:Mem}{r:Int × Nat × Option Kn}{v:Value}(h:Znb m1 p r v):∃ u,v=.tuple #[u,.int .i64 r.2.1,.int .i64 r.1]:=by
 unfold Znb at h
 split at h
 ·exact⟨_,h⟩
 ·obtain⟨h1,h2,mp,A,h3,_⟩:=h
  exact⟨_,by rw [h1,h2];exact h3⟩
set_option maxHeartbeats 2000000 in
theorem Zhj (hN:Nd S)(hV:Nv S)(hP:Zjv p)(h:Zmg m p q):∃ v m1,Zbi Tryz.prog TT S 12 [.agg (p.row q).toArray] m=some (v,m1)∧v=.tuple #[.agg #[.int .i64 (Zm9 p p.F 0).1,.int .i64 (Zm9 p p.F 0).2.1],.int .i64 (Zm9 p p.F 0).2.2]∧Zao m m1 []:=by
 obtain⟨pb,m1,hpb,hm1,o1,k1,n1⟩:=Zke m p q
 obtain⟨o2,k2,n2⟩:=Za7 (m:=m1) (cs:=[.int .i64 0,.int .i64 0]) (e:=52) rfl
 obtain⟨rb,hrb⟩:∃ z,m1.next=z:=⟨_,rfl⟩
 rw [hrb] at o2 n2
 obtain⟨m2,hm2⟩:∃ z,m1.new [.int .i64 0,.int .i64 0] 52=z:=⟨_,rfl⟩
 rw [hm2] at o2 k2 n2
 have K2:=k1.trans k2
 have o12:=o1.keep k2 (by simp)
 have ld:=fun m' (k:Zao m2 m' [])=>(o12.keep k (by simp)).load (off:=0) 5 (by simp [Pr.row])
 have ld1:=fun m' (k:Zao m2 m' [])=>(o12.keep k (by simp)).load1 (off:=1) (v:=.slice q.fa p.F.length p.F.length) rfl
 simp only [Pr.row] at hm1 ld
 simp [Zb] at ld
 obtain⟨m3,h3,k3⟩:=Zyz (m:=m2) hN hP (h.keep K2)
 simp only [Pr.row] at h3
 have a2:=ld _ (Zaj _)
 have b3:=ld1 _ k3
 have hF60:=hP.fl
 refine Zey 37 [37,47] k12 hN.ver rfl ?_
 simp [-Int.natCast_add,-BitVec.toNat_or,-BitVec.toNat_ofInt,-BitVec.toNat_and,Zbj Zhb,Zah b45,Zag Zgl,Zae Zbx,Zai Zhp,Zaf Zgo,Za Zan,Zab Zbw,Zac u41,Zaa u41 Za5,Zae Zby,Zag Zb4,Zaf Za5,Pr.row,hpb,hm1,hrb,hm2,a2,h3,b3]
 refine Zbg 37 [37,47] (fun d E mC=>∃ i:Nat,p.F.length - i=d∧i≤p.F.length∧Zao m2 mC []∧E=[(1,.pointer (some ⟨pb,0,none⟩)),(2,.pointer (some ⟨rb,0,none⟩)),(15,.slice q.fa p.F.length p.F.length),(16,.int .i64 p.F.length),(17,.int .i64 i)]) _ ⟨_,⟨0,rfl,by omega,k3,rfl⟩,⟨by rfl,by rfl,by rfl,by rfl,by rfl,trivial⟩⟩ ?_
 rintro d E mC ih ⟨i,hd,hi,kC,rfl⟩
 by_cases hlt:i < p.F.length
 ·have i1:(i:Int) < p.F.length:=by omega
  have em:(i:Int)≤9223372036854775807:=by omega
  have wi:IntKind.i64.wrap ((i:Int)+1)=((i+1:Nat):Int):=by rw [Zbh (by omega) (by omega)];omega
  obtain⟨fb,fq,hfb,hfn,hld⟩:=((h.keep K2).keep kC).fs.one hlt
  have lf:=(hld _ (Zaj _)).1
  have hgm:=List.getElem_mem hlt
  obtain⟨g,hg⟩:∃ g,p.F[i]=g:=⟨_,rfl⟩
  rw [hg] at lf hfn hgm
  simp only [Fn.row] at lf
  obtain⟨o4,k4,n4⟩:=Za7 (m:=mC) (cs:=[.string ⟨#[]⟩,.slice none 0 0,.int .i64 0,.slice none 0 0,.slice none 0 0]) (e:=37) rfl
  obtain⟨gb,hgb⟩:∃ z,mC.next=z:=⟨_,rfl⟩
  rw [hgb] at o4 n4
  obtain⟨m4,hm4⟩:∃ z,mC.new [.string ⟨#[]⟩,.slice none 0 0,.int .i64 0,.slice none 0 0,.slice none 0 0] 37=z:=⟨_,rfl⟩
  rw [hm4] at o4 k4 n4
  simp [-Int.natCast_add,-BitVec.toNat_or,-BitVec.toNat_ofInt,-BitVec.toNat_and,Zbj Zhb,Zah b45,Zag Zgl,Zae Zbx,Zai Zhp,Zaf Zgo,Za Zan,Zab Zbw,Zac u41,Zaa u41 Za5,Zae Zby,Zag Zb4,Zaf Za5,i1,em,hlt,hfb,lf,hgb,hm4]
  generalize hrc:Za8 _ _ _=rc
  obtain⟨m5,rfl,o5,k5⟩:=Za4 hrc o4 (by simp) (by simp [Zbk,Zco,Zbp])
  simp [Zdh] at o5
  have kC5:Zao mC m5 []:=k4.fresh k5 (by simp;omega)
  have a5:=ld _ (kC.trans kC5)
  have g5:=o5.load (off:=0) 5 (by simp)
  simp [Zb] at g5
  obtain⟨m6,h6,k6⟩:=Z2b (m:=m5) (q:=q) hN hP hgm (hfn.keep kC5)
  simp only [Pr.row,Fn.row] at h6
  rw [hfb] at a5 h6
  simp [-Int.natCast_add,-BitVec.toNat_or,-BitVec.toNat_ofInt,-BitVec.toNat_and,Zbj Zhb,Zah b45,Zag Zgl,Zae Zbx,Zai Zhp,Zaf Zgo,Za Zan,Zab Zbw,Zac u41,Zaa u41 Za5,Zae Zby,Zag Zb4,Zaf Za5,a5,g5,h6,wi]
  exact ih _ _ _ _ ⟨i+1,rfl,by omega,kC.trans (kC5.trans k6),rfl⟩ (by omega) ⟨by rfl,by rfl,by rw [hfb];rfl,by rfl,by simp [Zcm],trivial⟩
 have i1:¬ (i:Int) < p.F.length:=by omega
 clear ih
 obtain⟨m4,h4,k4⟩:=Z1k (m:=mC) hN hP ((h.keep K2).keep kC)
 simp only [Pr.row] at h4
 have aC:=ld _ kC
 have b4:=ld1 _ (kC.trans k4)
 simp [-Int.natCast_add,-BitVec.toNat_or,-BitVec.toNat_ofInt,-BitVec.toNat_and,Zbj Zhb,Zah b45,Zag Zgl,Zae Zbx,Zai Zhp,Zaf Zgo,Za Zan,Zab Zbw,Zac u41,Zaa u41 Za5,Zae Zby,Zag Zb4,Zaf Za5,i1,aC,h4,b4]
 have hfin:∀ {mX:Mem},Zao m2 mX []→Zao m mX []:=fun k=>K2.trans k
 refine Zbg 37 [37,47] (fun d E mD=>∃ i:Nat,p.F.length - i=d∧i≤p.F.length∧Zm9 p p.F 0=Zm9 p (p.F.drop i) i∧Zao m2 mD []∧E=[(1,.pointer (some ⟨pb,0,none⟩)),(2,.pointer (some ⟨rb,0,none⟩)),(35,.int .i64 p.F.length),(36,.int .i64 i)]) _ ⟨_,⟨0,rfl,by omega,rfl,kC.trans k4,rfl⟩,⟨by rfl,by rfl,by rfl,by rfl,trivial⟩⟩ ?_
 rintro d E mD ih ⟨i,hd,hi,hver,kD,rfl⟩
 have oD:=o2.keep kD (by simp)
 by_cases hlt:i < p.F.length
 case neg =>
  have i1:¬ (i:Int) < p.F.length:=by omega
  rw [List.drop_eq_nil_of_le (by omega)] at hver
  have hver:Zm9 p p.F 0=(0,0,0):=hver
  rw [hver]
  simp [-Int.natCast_add,-BitVec.toNat_or,-BitVec.toNat_ofInt,-BitVec.toNat_and,Zbj Zhb,Zah b45,Zag Zgl,Zae Zbx,Zai Zhp,Zaf Zgo,Za Zan,Zab Zbw,Zac u41,Zaa u41 Za5,Zae Zby,Zag Zb4,Zaf Za5,i1]
  generalize hrd:Za8 _ _ _=rd
  obtain⟨m5,rfl,o5,k5⟩:=Za4 hrd oD (by simp) (by simp [Zbk])
  simp [Zdh] at o5
  have g5:=o5.load (off:=0) 2 (by simp)
  simp [Zb] at g5
  simp [-Int.natCast_add,-BitVec.toNat_or,-BitVec.toNat_ofInt,-BitVec.toNat_and,Zbj Zhb,Zah b45,Zag Zgl,Zae Zbx,Zai Zhp,Zaf Zgo,Za Zan,Zab Zbw,Zac u41,Zaa u41 Za5,Zae Zby,Zag Zb4,Zaf Za5,g5,Zbj]
  exact K2.trans kD |>.fresh k5 (by have:=k1.1;simp;omega)
 have i1:(i:Int) < p.F.length:=by omega
 have em:(i:Int)≤9223372036854775807:=by omega
 have wi:IntKind.i64.wrap ((i:Int)+1)=((i+1:Nat):Int):=by rw [Zbh (by omega) (by omega)];omega
 obtain⟨v,m5,h5,hwr,k5⟩:=Zzi (m:=mD) hV hP.ok ((h.keep K2).keep kD) hlt (fun g hg=>by have:=(hP.sig g hg).2.1;omega)
 obtain⟨u,rfl⟩:=hwr.v
 simp only [Pr.row] at h5
 have aD:=ld _ kD
 rw [List.drop_eq_getElem_cons hlt,Zz0] at hver
 obtain⟨r,hr⟩:∃ r,Ze6 p p.F[i]=r:=⟨_,rfl⟩
 rw [hr] at hver h5
 obtain⟨e,pc,Kr⟩:=r
 simp only at hver h5
 by_cases e0:e=0
 ·rw [if_pos e0] at hver
  subst e0
  simp [-Int.natCast_add,-BitVec.toNat_or,-BitVec.toNat_ofInt,-BitVec.toNat_and,Zbj Zhb,Zah b45,Zag Zgl,Zae Zbx,Zai Zhp,Zaf Zgo,Za Zan,Zab Zbw,Zac u41,Zaa u41 Za5,Zae Zby,Zag Zb4,Zaf Za5,i1,aD,h5,wi]
  exact ih _ _ _ _ ⟨i+1,rfl,by omega,hver,kD.trans k5,rfl⟩ (by omega) ⟨by rfl,by rfl,by rfl,by simp [Zcm],trivial⟩
 ·rw [if_neg e0] at hver
  rw [hver]
  have oD5:=oD.keep k5 (by simp)
  simp [-Int.natCast_add,-BitVec.toNat_or,-BitVec.toNat_ofInt,-BitVec.toNat_and,Zbj Zhb,Zah b45,Zag Zgl,Zae Zbx,Zai Zhp,Zaf Zgo,Za Zan,Zab Zbw,Zac u41,Zaa u41 Za5,Zae Zby,Zag Zb4,Zaf Za5,i1,aD,h5,e0]
  generalize hrd:Za8 _ _ _=rd
  obtain⟨m6,rfl,o6,k6⟩:=Za4 hrd oD5 (by simp) (by simp [Zbk])
  simp [Zdh] at o6
  have g6:=o6.load (off:=0) 2 (by simp)
  simp [Zb] at g6
  simp [-Int.natCast_add,-BitVec.toNat_or,-BitVec.toNat_ofInt,-BitVec.toNat_and,Zbj Zhb,Zah b45,Zag Zgl,Zae Zbx,Zai Zhp,Zaf Zgo,Za Zan,Zab Zbw,Zac u41,Zaa u41 Za5,Zae Zby,Zag Zb4,Zaf Za5,g6,Zbj]
  exact (K2.trans (kD.trans k5)).fresh k6 (by have:=k1.1;simp;omega)
end Go.Proofs.YtbldiceiindbdaaGreatDoor.base
