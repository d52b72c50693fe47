/- This text proves that the document's Right says yes of a table that is right. Condition: nothing is known of the calls ahead ('S f = []'). -/
import Derived.Test.YtbldiceiindbdaaGreatDoorVkH
set_option linter.unusedVariables false
set_option linter.unusedSimpArgs false
set_option maxRecDepth 100000
namespace Go.Proofs.YtbldiceiindbdaaGreatDoor.base
open Go.Sh gen
variable {S:Zed}{m:Mem}
theorem Z2k {l:List (List UInt8)}(h:l.Nodup){i j:Nat}(hi:i < l.length)(hj:j < i):¬ l[i]=l[j]:=fun e=>List.pairwise_iff_getElem.1 h j i (by omega) hi hj e.symm
theorem Z5h {x:Zb0.D}{i:Nat}(h:i < (tF x).length)(h2:i < (Zi6 x).length):(Zi6 x)[i]=(tF x)[i].1:=by
 simp only [Zi6];rw [List.getElem_append_left (by simpa using h)];simp
theorem Z5j {x:Zb0.D}{i:Nat}(h:i < (tM x).length)(h2:(tF x).length+i < (Zi6 x).length):(Zi6 x)[(tF x).length+i]=(tM x)[i].1:=by
 simp only [Zi6];rw [List.getElem_append_right (by simp)];simp
theorem nml (x:Zb0.D):(Zi6 x).length=(tF x).length+(tM x).length:=by simp [Zi6]
set_option maxHeartbeats 4000000 in
theorem Zye (hS:S 86=[])(hV:S 87=[]){to:Option Addr}{n:Nat}(hn5:5≤n){d:Zb0.D}{c:List Value}(hd:Zb0.wf d)(h:At m Zb0 d c)(hL:Z2q n d) :
  ∃ v m1,Zbi Tryz.prog TT S 86 [.slice to n n,.agg c.toArray] m=some (v,m1)∧v=.bool true∧Zao m m1 []:=by
 obtain⟨ao,bo,ca,cb,f,g,ty⟩:=Zc3 h
 have hc:=ty.c
 have hfr:=ty.fr
 rw [Z0g ty.fl ty.fe] at hfr
 have hMs:Ms m bo (tM d):=⟨⟨cb,g,ty.ml,ty.me,ty.mr⟩,hd.2.2.2.2.1.1,hd.2.2.2.2.1.2⟩
 have rv:=fun m' t=>Znu (m:=m') hV (to:=to) hn5 t
 rw [hc]
 refine Zey 14 [14,29,30,53,68,73,84,87,102,106,111,154,159,169,172,183,188,199] k86 hS rfl ?_
 obtain⟨o1,k1,n1⟩:=Za7 (m:=m) (cs:=[.int .i64 d.1,.string ⟨d.2.1.toArray⟩,.int .i64 d.2.2.1,.slice ao (tF d).length (tF d).length,.slice bo (tM d).length (tM d).length]) (e:=33) rfl
 obtain⟨xb,hxb⟩:∃ xb,m.next=xb:=⟨_,rfl⟩
 rw [hxb] at o1 n1
 obtain⟨m1,hm1⟩:∃ m1,m.new [.int .i64 d.1,.string ⟨d.2.1.toArray⟩,.int .i64 d.2.2.1,.slice ao (tF d).length (tF d).length,.slice bo (tM d).length (tM d).length] 33=m1:=⟨_,rfl⟩
 simp [-Int.natCast_add,-w86_1,-BitVec.toNat_or,-BitVec.toNat_ofInt,-BitVec.toNat_and,Zah b33,Za Za3,Zab ld3,Za Zbu,Zab ld9,Za Zau,Za Zay,Zab Zce,Zac u28,Za Zaq,Zab Zb1,Zac u31,Zaa u28 Zcc,Za Za9,Za Zdo,Zaa u31 Zbd,Zae Zc6,Zag Zcw,Zaf Zbd,Za Zar,Zab Zbe,Zac u23,Za Zap,Za Zbq,Zaa u23 sz3,Za Zbr]
 simp only [tF,tM] at hm1
 rw [hm1] at o1 k1 n1 ⊢
 simp only [hxb]
 have l0:=o1.load1 (off:=0) rfl
 have l1:=o1.load1 (off:=1) rfl
 have l2:=o1.load1 (off:=2) rfl
 have l3:=o1.load1 (off:=3) rfl
 have l4:=o1.load1 (off:=4) rfl
 by_cases e6:d.1=6
 ·rcases hL with⟨e5,_⟩ | ⟨e7,_⟩ | ⟨_,hn,hv,hF,hM⟩
  ·rw [e6] at e5;exact absurd e5 (by decide)
  ·rw [e6] at e7;exact absurd e7 (by decide)
  rw [hF] at l3
  rw [hM] at l4
  have rv1:=fun m'=>(rv m' d.2.2.1).trans (by rw [decide_eq_true hv])
  rw [e6] at l0
  rw [hn] at l1
  simp [-Int.natCast_add,-BitVec.toNat_or,-BitVec.toNat_ofInt,-BitVec.toNat_and,Zah b33,Za Za3,Zab ld3,Za Zbu,Zab ld9,Za Zau,Za Zay,Zab Zce,Zac u28,Za Zaq,Zab Zb1,Zac u31,Zaa u28 Zcc,Za Za9,Za Zdo,Zaa u31 Zbd,Zae Zc6,Zag Zcw,Zaf Zbd,Za Zar,Zab Zbe,Zac u23,Za Zap,Za Zbq,Zaa u23 sz3,Za Zbr,l0,l1,l2,l3,l4,rv1]
  exact k1
 obtain⟨hP,hk⟩:Zso n d∧((d.1=5∧∀ y∈tM d,0≤y.2.2.2.1)∨(d.1=7∧tF d=[]∧∀ y∈tM d,y.2.2.2.1=-1)):=by
  rcases hL with⟨e5,hP,hk⟩ | ⟨e7,hP,hF,hk⟩ | ⟨h6,_⟩
  ·exact⟨hP,Or.inl ⟨e5,hk⟩⟩
  ·exact⟨hP,Or.inr ⟨e7,hF,hk⟩⟩
  ·exact absurd h6 e6
 obtain⟨hnm,hel,hf12,hm12,hfv,hmv,hnd⟩:=hP
 have hie:List.isEmpty d.2.1=false:=by
  obtain⟨q,hq⟩:∃ q:List UInt8,d.2.1=q:=⟨_,rfl⟩
  rw [hq] at hnm ⊢
  cases q with
  | nil=>exact absurd rfl hnm
  | cons a b=>rfl
 have c12:¬ 12 < (tF d).length:=by omega
 have c12':¬ (12:Int) < (tF d).length:=by omega
 have d12:¬ 12 < (tM d).length:=by omega
 have d12':¬ (12:Int) < (tM d).length:=by omega
 rw [hel] at l2
 apply Z2
 case main =>
  rcases hk with⟨e5,_⟩ | ⟨e7,hF,_⟩
  ·rw [e5] at l0
   intro meth
   simp [-Int.natCast_add,-BitVec.toNat_or,-BitVec.toNat_ofInt,-BitVec.toNat_and,Zah b33,Za Za3,Zab ld3,Za Zbu,Zab ld9,Za Zau,Za Zay,Zab Zce,Zac u28,Za Zaq,Zab Zb1,Zac u31,Zaa u28 Zcc,Za Za9,Za Zdo,Zaa u31 Zbd,Zae Zc6,Zag Zcw,Zaf Zbd,Za Zar,Zab Zbe,Zac u23,Za Zap,Za Zbq,Zaa u23 sz3,Za Zbr,l0,l1,l2,l3,hie,c12,c12']
   exact Zei (E:=[(0,.slice to n n),(3,.pointer (some ⟨xb,0,none⟩)),(5,.int .i64 0)]) meth ⟨by rfl,by rfl,by rfl,trivial⟩
  ·have l3':=l3
   rw [hF] at l3'
   rw [e7] at l0
   intro meth
   simp [-Int.natCast_add,-BitVec.toNat_or,-BitVec.toNat_ofInt,-BitVec.toNat_and,Zah b33,Za Za3,Zab ld3,Za Zbu,Zab ld9,Za Zau,Za Zay,Zab Zce,Zac u28,Za Zaq,Zab Zb1,Zac u31,Zaa u28 Zcc,Za Za9,Za Zdo,Zaa u31 Zbd,Zae Zc6,Zag Zcw,Zaf Zbd,Za Zar,Zab Zbe,Zac u23,Za Zap,Za Zbq,Zaa u23 sz3,Za Zbr,l0,l1,l2,l3',hie]
   exact Zei (E:=[(0,.slice to n n),(3,.pointer (some ⟨xb,0,none⟩)),(5,.int .i64 0)]) meth ⟨by rfl,by rfl,by rfl,trivial⟩
 obtain⟨FS,hFS⟩:∃ q,tF d=q:=⟨_,rfl⟩
 have hfn:∀ i (h:i < FS.length) j (hj:j < i),¬ FS[i].1=FS[j].1:=by
  subst hFS
  intro i h j hj e
  have:=Z2k hnd (i:=i) (j:=j) (by rw [nml];omega) hj
  rw [Z5h h,Z5h (by omega)] at this
  exact this e
 have hmn:∀ i (h:i < (tM d).length) j (hj:j < i),¬ (tM d)[i].1=(tM d)[j].1:=by
  intro i h j hj e
  have:=Z2k hnd (i:=(tF d).length+i) (j:=(tF d).length+j) (by rw [nml];omega) (by omega)
  rw [Z5j h,Z5j (by omega)] at this
  exact this e
 have hmf:∀ i (h:i < (tM d).length) j (hj:j < FS.length),¬ (tM d)[i].1=FS[j].1:=by
  subst hFS
  intro i h j hj e
  have:=Z2k hnd (i:=(tF d).length+i) (j:=j) (by rw [nml];omega) (by omega)
  rw [Z5j h,Z5h hj] at this
  exact this e
 have hFS2:d.2.2.2.1=FS:=hFS
 simp only [hFS,hFS2] at l3 hfr hfv hf12 o1
 refine Zbg 14 [14,29,30,53,68,73,84,87,102,106,111,154,159,169,172,183,188,199] (fun dd E mC=>∃ (i:Nat),FS.length - i=dd∧i≤FS.length∧mC=m1∧E=[(0,.slice to n n),(3,.pointer (some ⟨xb,0,none⟩)),(5,.int .i64 i)]) _ ⟨_,⟨0,rfl,by omega,rfl,rfl⟩,⟨by rfl,by rfl,by rfl,trivial⟩⟩ ?_
 rintro dd E mP ih ⟨i,hdi,hi,rfl,rfl⟩
 by_cases hlt:i < FS.length
 ·have i1:(i:Int) < FS.length:=by omega
  have em:(i:Int)≤9223372036854775807:=by omega
  have wi:IntKind.i64.wrap ((i:Int)+1)=((i+1:Nat):Int):=by rw [Zbh (by omega) (by omega)];omega
  obtain⟨fb,rfl,hld⟩:=Zik hfr hlt
  have lf1:=(hld _ k1).2
  have rv1:=fun m'=>(rv m' FS[i].2.1).trans (by rw [decide_eq_true (hfv _ (List.getElem_mem hlt))])
  have lf0:=(hld _ k1).1
  have hfi:=hfn i hlt
  obtain⟨z,hz⟩:∃ x,FS[i]=x:=⟨_,rfl⟩
  simp only [hz] at lf1 rv1 lf0 hfi
  simp [-Int.natCast_add,-BitVec.toNat_or,-BitVec.toNat_ofInt,-BitVec.toNat_and,Zah b33,Za Za3,Zab ld3,Za Zbu,Zab ld9,Za Zau,Za Zay,Zab Zce,Zac u28,Za Zaq,Zab Zb1,Zac u31,Zaa u28 Zcc,Za Za9,Za Zdo,Zaa u31 Zbd,Zae Zc6,Zag Zcw,Zaf Zbd,Za Zar,Zab Zbe,Zac u23,Za Zap,Za Zbq,Zaa u23 sz3,Za Zbr,l3,i1,em,hlt,lf1,rv1]
  refine Zbg 14 [14,29,30,53,68,73,84,87,102,106,111,154,159,169,172,183,188,199] (fun dd E mD=>∃ (j:Nat),i - j=dd∧j≤i∧mD=mP∧E=[(0,.slice to n n),(3,.pointer (some ⟨xb,0,none⟩)),(5,.int .i64 i),(6,.int .i64 j)]) _ ⟨_,⟨0,rfl,by omega,rfl,rfl⟩,⟨by rfl,by rfl,by rfl,by rfl,trivial⟩⟩ ?_
  rintro de E mD ihD ⟨j,hdj,hj,rfl,rfl⟩
  by_cases hlj:j < i
  ·have j1:(j:Int) < i:=by omega
   have emj:(j:Int)≤9223372036854775807:=by omega
   have wj:IntKind.i64.wrap ((j:Int)+1)=((j+1:Nat):Int):=by rw [Zbh (by omega) (by omega)];omega
   have hjF:j < FS.length:=by omega
   obtain⟨fb2,hee,hld2⟩:=Zik hfr hjF
   cases hee
   have g0:=(hld2 _ k1).1
   have hne:=hfi j hlj
   obtain⟨y,hy⟩:∃ x,FS[j].1=x:=⟨_,rfl⟩
   rw [hy] at g0 hne
   simp [-Int.natCast_add,-BitVec.toNat_or,-BitVec.toNat_ofInt,-BitVec.toNat_and,Zah b33,Za Za3,Zab ld3,Za Zbu,Zab ld9,Za Zau,Za Zay,Zab Zce,Zac u28,Za Zaq,Zab Zb1,Zac u31,Zaa u28 Zcc,Za Za9,Za Zdo,Zaa u31 Zbd,Zae Zc6,Zag Zcw,Zaf Zbd,Za Zar,Zab Zbe,Zac u23,Za Zap,Za Zbq,Zaa u23 sz3,Za Zbr,l3,j1,em,emj,hlj,hlt,hjF,lf0,g0,hne,wj]
   exact ihD _ _ _ _ ⟨j+1,rfl,by omega,rfl,rfl⟩ (by omega) ⟨by rfl,by rfl,by rfl,by simp [Zcm],trivial⟩
  ·have j1:¬ (j:Int) < i:=by omega
   simp [-Int.natCast_add,-BitVec.toNat_or,-BitVec.toNat_ofInt,-BitVec.toNat_and,Zah b33,Za Za3,Zab ld3,Za Zbu,Zab ld9,Za Zau,Za Zay,Zab Zce,Zac u28,Za Zaq,Zab Zb1,Zac u31,Zaa u28 Zcc,Za Za9,Za Zdo,Zaa u31 Zbd,Zae Zc6,Zag Zcw,Zaf Zbd,Za Zar,Zab Zbe,Zac u23,Za Zap,Za Zbq,Zaa u23 sz3,Za Zbr,j1,wi]
   exact ih _ _ _ _ ⟨i+1,rfl,by omega,rfl,rfl⟩ (by omega) ⟨by rfl,by rfl,by simp [Zcm],trivial⟩
 ·have i1:¬ (i:Int) < FS.length:=by omega
  simp [-Int.natCast_add,-BitVec.toNat_or,-BitVec.toNat_ofInt,-BitVec.toNat_and,Zah b33,Za Za3,Zab ld3,Za Zbu,Zab ld9,Za Zau,Za Zay,Zab Zce,Zac u28,Za Zaq,Zab Zb1,Zac u31,Zaa u28 Zcc,Za Za9,Za Zdo,Zaa u31 Zbd,Zae Zc6,Zag Zcw,Zaf Zbd,Za Zar,Zab Zbe,Zac u23,Za Zap,Za Zbq,Zaa u23 sz3,Za Zbr,l3,l4,i1,d12,d12']
  clear ih
  have o1':=o1
  refine Zbg 14 [14,29,30,53,68,73,84,87,102,106,111,154,159,169,172,183,188,199] (fun dd E mC=>∃ (i:Nat),(tM d).length - i=dd∧i≤(tM d).length∧Zao m mC []∧Zao mP mC []∧E=[(0,.slice to n n),(3,.pointer (some ⟨xb,0,none⟩)),(7,.int .i64 i)]) _ ⟨_,⟨0,rfl,by omega,k1,Zaj _,rfl⟩,⟨by rfl,by rfl,by rfl,trivial⟩⟩ ?_
  rintro dd E mC ih ⟨i,hdi,hi,KC,kC,rfl⟩
  have l0:=(o1.keep kC (by simp)).load1 (off:=0) rfl
  have l3:=(o1.keep kC (by simp)).load1 (off:=3) rfl
  have l4:=(o1.keep kC (by simp)).load1 (off:=4) rfl
  by_cases hlt:i < (tM d).length
  ·have i1:(i:Int) < (tM d).length:=by omega
   have em:(i:Int)≤9223372036854775807:=by omega
   have wi:IntKind.i64.wrap ((i:Int)+1)=((i+1:Nat):Int):=by rw [Zbh (by omega) (by omega)];omega
   obtain⟨mb,po,pf,rfl,hp,hld1⟩:=(hMs.keep KC).one hlt
   have q4:=(hld1 _ (Zaj _)).1
   have hmL:=hmv _ (List.getElem_mem hlt)
   have hmi:=hmn i hlt
   have hmg:=hmf i hlt
   have hkj:(d.1=5∧0≤(tM d)[i].2.2.2.1)∨(d.1=7∧(tM d)[i].2.2.2.1=-1):=by
    rcases hk with⟨e,h⟩ | ⟨e,_,h⟩
    ·exact Or.inl ⟨e,h _ (List.getElem_mem hlt)⟩
    ·exact Or.inr ⟨e,h _ (List.getElem_mem hlt)⟩
   obtain⟨z,hz⟩:∃ x,(tM d)[i]=x:=⟨_,rfl⟩
   simp only [hz] at q4 hp hmL hmi hmg hkj
   obtain⟨zn,zp,zr,zf,zu⟩:=z
   obtain⟨p8,hr,hpv⟩:=hmL
   simp only at q4 hp p8 hr hpv hmi hmg hkj
   obtain⟨p1,j1,nn1⟩:=Za7 (m:=mC) (cs:=[.string ⟨#[]⟩,.slice none 0 0,.int .i64 0,.int .i64 0]) (e:=30) rfl
   obtain⟨zb,hzb⟩:∃ xb,mC.next=xb:=⟨_,rfl⟩
   rw [hzb] at p1 nn1
   obtain⟨mD,hmD⟩:∃ mD,mC.new [.string ⟨#[]⟩,.slice none 0 0,.int .i64 0,.int .i64 0] 30=mD:=⟨_,rfl⟩
   rw [hmD] at p1 j1 nn1
   simp [-Int.natCast_add,-BitVec.toNat_or,-BitVec.toNat_ofInt,-BitVec.toNat_and,Zah b33,Za Za3,Zab ld3,Za Zbu,Zab ld9,Za Zau,Za Zay,Zab Zce,Zac u28,Za Zaq,Zab Zb1,Zac u31,Zaa u28 Zcc,Za Za9,Za Zdo,Zaa u31 Zbd,Zae Zc6,Zag Zcw,Zaf Zbd,Za Zar,Zab Zbe,Zac u23,Za Zap,Za Zbq,Zaa u23 sz3,Za Zbr,l4,i1,em,hlt,q4,hzb,hmD]
   generalize hra:Za8 _ _ _=ra
   obtain⟨mE,rfl,p2,j2⟩:=Za4 hra p1 (by simp) (by simp [Zbk,Zco,Zbp])
   simp [Zdh] at p2
   have kE:Zao mC mE []:=j1.fresh j2 (by simp;omega)
   have KE:=KC.trans kE
   have kE1:=kC.trans kE
   have l0:=(o1.keep kE1 (by simp)).load1 (off:=0) rfl
   have l3:=(o1.keep kE1 (by simp)).load1 (off:=3) rfl
   have l4:=(o1.keep kE1 (by simp)).load1 (off:=4) rfl
   have y0:=p2.load1 (off:=0) rfl
   have y1:=p2.load1 (off:=1) rfl
   have y2:=p2.load1 (off:=2) rfl
   have y3:=p2.load1 (off:=3) rfl
   have p8n:¬ 8 < zp.length:=by omega
   have p8i:¬ (8:Int) < zp.length:=by omega
   apply Z2
   case main =>
    have hrr:zr=0∨(¬ zr=0∧∀ m',Zbi Tryz.prog TT S 87 [.slice to n n,.int .i64 zr] m'=some (.bool true,m')):=by
     rcases hr with h | h
     ·exact Or.inl h
     ·exact Or.inr ⟨fun e=>by rw [e] at h;exact absurd h.1 (by decide),fun m'=>(rv m' zr).trans (by rw [decide_eq_true h])⟩
    rcases hkj with⟨e5,hz0⟩ | ⟨e7,hz0⟩
    ·have hz9:¬ @LT.lt Int _ zf 0:=Int.not_lt.2 hz0
     rw [e5] at l0
     rcases hrr with h0 | ⟨h0,hv⟩
     ·rw [h0] at y2
      intro meth
      simp [-Int.natCast_add,-BitVec.toNat_or,-BitVec.toNat_ofInt,-BitVec.toNat_and,Zah b33,Za Za3,Zab ld3,Za Zbu,Zab ld9,Za Zau,Za Zay,Zab Zce,Zac u28,Za Zaq,Zab Zb1,Zac u31,Zaa u28 Zcc,Za Za9,Za Zdo,Zaa u31 Zbd,Zae Zc6,Zag Zcw,Zaf Zbd,Za Zar,Zab Zbe,Zac u23,Za Zap,Za Zbq,Zaa u23 sz3,Za Zbr,l0,y1,y2,y3,p8n,p8i,hz9]
      exact Zei (E:=[(0,.slice to n n),(3,.pointer (some ⟨xb,0,none⟩)),(7,.int .i64 i),(8,.pointer (some ⟨zb,0,none⟩)),(9,.int .i64 0)]) meth ⟨by rfl,by rfl,by rfl,by rfl,by rfl,trivial⟩
     ·intro meth
      simp [-Int.natCast_add,-BitVec.toNat_or,-BitVec.toNat_ofInt,-BitVec.toNat_and,Zah b33,Za Za3,Zab ld3,Za Zbu,Zab ld9,Za Zau,Za Zay,Zab Zce,Zac u28,Za Zaq,Zab Zb1,Zac u31,Zaa u28 Zcc,Za Za9,Za Zdo,Zaa u31 Zbd,Zae Zc6,Zag Zcw,Zaf Zbd,Za Zar,Zab Zbe,Zac u23,Za Zap,Za Zbq,Zaa u23 sz3,Za Zbr,l0,y1,y2,y3,p8n,p8i,hz9,h0,hv]
      exact Zei (E:=[(0,.slice to n n),(3,.pointer (some ⟨xb,0,none⟩)),(7,.int .i64 i),(8,.pointer (some ⟨zb,0,none⟩)),(9,.int .i64 0)]) meth ⟨by rfl,by rfl,by rfl,by rfl,by rfl,trivial⟩
    ·rw [e7] at l0
     rw [hz0] at y3
     rcases hrr with h0 | ⟨h0,hv⟩
     ·rw [h0] at y2
      intro meth
      simp [-Int.natCast_add,-BitVec.toNat_or,-BitVec.toNat_ofInt,-BitVec.toNat_and,Zah b33,Za Za3,Zab ld3,Za Zbu,Zab ld9,Za Zau,Za Zay,Zab Zce,Zac u28,Za Zaq,Zab Zb1,Zac u31,Zaa u28 Zcc,Za Za9,Za Zdo,Zaa u31 Zbd,Zae Zc6,Zag Zcw,Zaf Zbd,Za Zar,Zab Zbe,Zac u23,Za Zap,Za Zbq,Zaa u23 sz3,Za Zbr,l0,y1,y2,y3,p8n,p8i]
      exact Zei (E:=[(0,.slice to n n),(3,.pointer (some ⟨xb,0,none⟩)),(7,.int .i64 i),(8,.pointer (some ⟨zb,0,none⟩)),(9,.int .i64 0)]) meth ⟨by rfl,by rfl,by rfl,by rfl,by rfl,trivial⟩
     ·intro meth
      simp [-Int.natCast_add,-BitVec.toNat_or,-BitVec.toNat_ofInt,-BitVec.toNat_and,Zah b33,Za Za3,Zab ld3,Za Zbu,Zab ld9,Za Zau,Za Zay,Zab Zce,Zac u28,Za Zaq,Zab Zb1,Zac u31,Zaa u28 Zcc,Za Za9,Za Zdo,Zaa u31 Zbd,Zae Zc6,Zag Zcw,Zaf Zbd,Za Zar,Zab Zbe,Zac u23,Za Zap,Za Zbq,Zaa u23 sz3,Za Zbr,l0,y1,y2,y3,p8n,p8i,h0,hv]
      exact Zei (E:=[(0,.slice to n n),(3,.pointer (some ⟨xb,0,none⟩)),(7,.int .i64 i),(8,.pointer (some ⟨zb,0,none⟩)),(9,.int .i64 0)]) meth ⟨by rfl,by rfl,by rfl,by rfl,by rfl,trivial⟩
   have hpE:=hp.keep kE (by simp)
   refine Zbg 14 [14,29,30,53,68,73,84,87,102,106,111,154,159,169,172,183,188,199] (fun dd E mX=>∃ (j:Nat),zp.length - j=dd∧j≤zp.length∧mX=mE∧E=[(0,.slice to n n),(3,.pointer (some ⟨xb,0,none⟩)),(7,.int .i64 i),(8,.pointer (some ⟨zb,0,none⟩)),(9,.int .i64 j)]) _ ⟨_,⟨0,rfl,by omega,rfl,rfl⟩,⟨by rfl,by rfl,by rfl,by rfl,by rfl,trivial⟩⟩ ?_
   rintro de E mX ihD ⟨j,hdj,hj,rfl,rfl⟩
   by_cases hlj:j < zp.length
   ·have j1:(j:Int) < zp.length:=by omega
    have emj:(j:Int)≤9223372036854775807:=by omega
    have wj:IntKind.i64.wrap ((j:Int)+1)=((j+1:Nat):Int):=by rw [Zbh (by omega) (by omega)];omega
    obtain⟨ab,rfl,hrb⟩:=hpE.rdo (by omega)
    have la:loadRow mX ⟨ab,j,none⟩ 1=some [.int .i64 zp[j]]:=by
     rw [hrb.load (off:=j) 1 (by simp;omega)]
     simp only [Zb,← List.map_drop,← List.map_take]
     rw [List.drop_eq_getElem_cons hlj]
     rfl
    have hv:=hpv _ (List.getElem_mem hlj)
    obtain⟨y,hy⟩:∃ x,zp[j]=x:=⟨_,rfl⟩
    rw [hy] at la hv
    have rv1:=fun m'=>(rv m' y).trans (by rw [decide_eq_true hv])
    simp [-Int.natCast_add,-BitVec.toNat_or,-BitVec.toNat_ofInt,-BitVec.toNat_and,Zah b33,Za Za3,Zab ld3,Za Zbu,Zab ld9,Za Zau,Za Zay,Zab Zce,Zac u28,Za Zaq,Zab Zb1,Zac u31,Zaa u28 Zcc,Za Za9,Za Zdo,Zaa u31 Zbd,Zae Zc6,Zag Zcw,Zaf Zbd,Za Zar,Zab Zbe,Zac u23,Za Zap,Za Zbq,Zaa u23 sz3,Za Zbr,y1,j1,emj,hlj,la,rv1,wj]
    exact ihD _ _ _ _ ⟨j+1,rfl,by omega,rfl,rfl⟩ (by omega) ⟨by rfl,by rfl,by rfl,by rfl,by simp [Zcm],trivial⟩
   have j1:¬ (j:Int) < zp.length:=by omega
   clear ihD
   simp [-Int.natCast_add,-BitVec.toNat_or,-BitVec.toNat_ofInt,-BitVec.toNat_and,Zah b33,Za Za3,Zab ld3,Za Zbu,Zab ld9,Za Zau,Za Zay,Zab Zce,Zac u28,Za Zaq,Zab Zb1,Zac u31,Zaa u28 Zcc,Za Za9,Za Zdo,Zaa u31 Zbd,Zae Zc6,Zag Zcw,Zaf Zbd,Za Zar,Zab Zbe,Zac u23,Za Zap,Za Zbq,Zaa u23 sz3,Za Zbr,y1,j1]
   refine Zbg 14 [14,29,30,53,68,73,84,87,102,106,111,154,159,169,172,183,188,199] (fun dd E mY=>∃ (j:Nat),i - j=dd∧j≤i∧mY=mX∧E=[(0,.slice to n n),(3,.pointer (some ⟨xb,0,none⟩)),(7,.int .i64 i),(8,.pointer (some ⟨zb,0,none⟩)),(10,.int .i64 j)]) _ ⟨_,⟨0,rfl,by omega,rfl,rfl⟩,⟨by rfl,by rfl,by rfl,by rfl,by rfl,trivial⟩⟩ ?_
   rintro de E mY ihD ⟨j,hdj,hj,rfl,rfl⟩
   by_cases hlj:j < i
   ·have j1:(j:Int) < i:=by omega
    have emj:(j:Int)≤9223372036854775807:=by omega
    have wj:IntKind.i64.wrap ((j:Int)+1)=((j+1:Nat):Int):=by rw [Zbh (by omega) (by omega)];omega
    have hjM:j < (tM d).length:=by omega
    obtain⟨mb2,po2,pf2,hee,hp2,hld2⟩:=(hMs.keep KE).one hjM
    cases hee
    have g0:=(hld2 _ (Zaj _)).2.1
    have hne:=hmi j hlj
    obtain⟨y,hy⟩:∃ x,(tM d)[j].1=x:=⟨_,rfl⟩
    rw [hy] at g0 hne
    simp [-Int.natCast_add,-BitVec.toNat_or,-BitVec.toNat_ofInt,-BitVec.toNat_and,Zah b33,Za Za3,Zab ld3,Za Zbu,Zab ld9,Za Zau,Za Zay,Zab Zce,Zac u28,Za Zaq,Zab Zb1,Zac u31,Zaa u28 Zcc,Za Za9,Za Zdo,Zaa u31 Zbd,Zae Zc6,Zag Zcw,Zaf Zbd,Za Zar,Zab Zbe,Zac u23,Za Zap,Za Zbq,Zaa u23 sz3,Za Zbr,l4,y0,j1,emj,hlj,hjM,g0,hne,wj]
    exact ihD _ _ _ _ ⟨j+1,rfl,by omega,rfl,rfl⟩ (by omega) ⟨by rfl,by rfl,by rfl,by rfl,by simp [Zcm],trivial⟩
   have j1:¬ (j:Int) < i:=by omega
   clear ihD
   simp [-Int.natCast_add,-BitVec.toNat_or,-BitVec.toNat_ofInt,-BitVec.toNat_and,Zah b33,Za Za3,Zab ld3,Za Zbu,Zab ld9,Za Zau,Za Zay,Zab Zce,Zac u28,Za Zaq,Zab Zb1,Zac u31,Zaa u28 Zcc,Za Za9,Za Zdo,Zaa u31 Zbd,Zae Zc6,Zag Zcw,Zaf Zbd,Za Zar,Zab Zbe,Zac u23,Za Zap,Za Zbq,Zaa u23 sz3,Za Zbr,j1]
   refine Zbg 14 [14,29,30,53,68,73,84,87,102,106,111,154,159,169,172,183,188,199] (fun dd E mZ=>∃ (j:Nat),FS.length - j=dd∧j≤FS.length∧mZ=mY∧E=[(0,.slice to n n),(3,.pointer (some ⟨xb,0,none⟩)),(7,.int .i64 i),(8,.pointer (some ⟨zb,0,none⟩)),(11,.int .i64 j)]) _ ⟨_,⟨0,rfl,by omega,rfl,rfl⟩,⟨by rfl,by rfl,by rfl,by rfl,by rfl,trivial⟩⟩ ?_
   rintro de E mZ ihD ⟨j,hdj,hj,rfl,rfl⟩
   by_cases hlj:j < FS.length
   ·have j1:(j:Int) < FS.length:=by omega
    have emj:(j:Int)≤9223372036854775807:=by omega
    have wj:IntKind.i64.wrap ((j:Int)+1)=((j+1:Nat):Int):=by rw [Zbh (by omega) (by omega)];omega
    obtain⟨fb2,rfl,hld2⟩:=Zik hfr hlj
    have g0:=(hld2 _ KE).1
    have hne:=hmg j hlj
    obtain⟨y,hy⟩:∃ x,FS[j].1=x:=⟨_,rfl⟩
    rw [hy] at g0 hne
    simp [-Int.natCast_add,-BitVec.toNat_or,-BitVec.toNat_ofInt,-BitVec.toNat_and,Zah b33,Za Za3,Zab ld3,Za Zbu,Zab ld9,Za Zau,Za Zay,Zab Zce,Zac u28,Za Zaq,Zab Zb1,Zac u31,Zaa u28 Zcc,Za Za9,Za Zdo,Zaa u31 Zbd,Zae Zc6,Zag Zcw,Zaf Zbd,Za Zar,Zab Zbe,Zac u23,Za Zap,Za Zbq,Zaa u23 sz3,Za Zbr,l3,y0,j1,emj,hlj,g0,hne,wj]
    exact ihD _ _ _ _ ⟨j+1,rfl,by omega,rfl,rfl⟩ (by omega) ⟨by rfl,by rfl,by rfl,by rfl,by simp [Zcm],trivial⟩
   have j1:¬ (j:Int) < FS.length:=by omega
   simp [-Int.natCast_add,-BitVec.toNat_or,-BitVec.toNat_ofInt,-BitVec.toNat_and,Zah b33,Za Za3,Zab ld3,Za Zbu,Zab ld9,Za Zau,Za Zay,Zab Zce,Zac u28,Za Zaq,Zab Zb1,Zac u31,Zaa u28 Zcc,Za Za9,Za Zdo,Zaa u31 Zbd,Zae Zc6,Zag Zcw,Zaf Zbd,Za Zar,Zab Zbe,Zac u23,Za Zap,Za Zbq,Zaa u23 sz3,Za Zbr,l3,j1,wi]
   exact ih _ _ _ _ ⟨i+1,rfl,by omega,KE,kE1,rfl⟩ (by omega) ⟨by rfl,by rfl,by simp [Zcm],trivial⟩
  ·have i1:¬ (i:Int) < (tM d).length:=by omega
   simp [-Int.natCast_add,-BitVec.toNat_or,-BitVec.toNat_ofInt,-BitVec.toNat_and,Zah b33,Za Za3,Zab ld3,Za Zbu,Zab ld9,Za Zau,Za Zay,Zab Zce,Zac u28,Za Zaq,Zab Zb1,Zac u31,Zaa u28 Zcc,Za Za9,Za Zdo,Zaa u31 Zbd,Zae Zc6,Zag Zcw,Zaf Zbd,Za Zar,Zab Zbe,Zac u23,Za Zap,Za Zbq,Zaa u23 sz3,Za Zbr,l4,i1]
   exact KC
end Go.Proofs.YtbldiceiindbdaaGreatDoor.base
