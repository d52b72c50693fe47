/- This text proves what the document's Verify answers of a program whose head is right. Condition: nothing is known of the calls ahead ('S f = []'). -/
import Derived.Test.YtbldiceiindbdaaGreatDoorVrE
set_option linter.unusedVariables false
set_option linter.unusedSimpArgs false
set_option maxRecDepth 100000
namespace Go.Proofs.YtbldiceiindbdaaGreatDoor.base
open Go.Sh gen
variable {S:Zed}{m:Mem}{p:Pr}{q:Pp}
theorem Zt4 {nl nc pc:Nat}{x:Ix}(h:Zgr p nl x≠0):Zfe p nl nc x pc=Zgr p nl x:=by
 unfold Zgr at h ⊢
 unfold Zfe
 by_cases h1:¬ (1≤x.1∧x.1≤41)∨Zda p x=false
 ·simp only [if_pos h1]
 ·simp only [if_neg h1] at h ⊢
  by_cases h2:(x.1=5∨x.1=6)∧inB x.2.1 nl=false
  ·simp only [if_pos h2]
  ·simp only [if_neg h2] at h
   exact absurd rfl h
theorem Zw {nl nc pc:Nat}{x:Ix}(h:Zgr p nl x=0):Zfe p nl nc x pc=if (x.1=26∨x.1=27)∧inB x.2.1 nc=false then 31 else if pc+1=nc∧x.1≠26∧x.1≠41 then 34 else 0:=by
 unfold Zgr at h
 unfold Zfe
 by_cases h1:¬ (1≤x.1∧x.1≤41)∨Zda p x=false
 ·simp only [if_pos h1] at h
  exact absurd h (by decide)
 ·simp only [if_neg h1] at h ⊢
  by_cases h2:(x.1=5∨x.1=6)∧inB x.2.1 nl=false
  ·simp only [if_pos h2] at h
   exact absurd h (by decide)
  ·simp only [if_neg h2]
set_option maxHeartbeats 4000000 in
theorem Zzg (hN:Nf S)(hNs:Ns S)(hP:Zjv p)(h:Zmg m p q):∃ v m1,Zbi Tryz.prog TT S 19 [.agg (p.row q).toArray] m=some (v,m1)∧v=.tuple #[.agg #[.int .i64 (Zm9 p p.F 0).1,.int .i64 (Zm9 p p.F 0).2.1],.int .i64 (Zm9 p p.F 0).2.2]∧Zao m m1 []:=by
 obtain⟨pb,m1,hpb,hm1,o1,k1,n1⟩:=Zke m p q
 obtain⟨o2,k2,n2⟩:=Za7 (m:=m1) (cs:=[.int .i64 0,.int .i64 0]) (e:=52) rfl
 obtain⟨rb,hrb⟩:∃ z,m1.next=z:=⟨_,rfl⟩
 rw [hrb] at o2 n2
 obtain⟨m2,hm2⟩:∃ z,m1.new [.int .i64 0,.int .i64 0] 52=z:=⟨_,rfl⟩
 rw [hm2] at o2 k2 n2
 have K2:=k1.trans k2
 have o12:=o1.keep k2 (by simp)
 have ld:=fun m' (k:Zao m2 m' [])=>(o12.keep k (by simp)).load (off:=0) 5 (by simp [Pr.row])
 have ld1:=fun m' (k:Zao m2 m' [])=>(o12.keep k (by simp)).load1 (off:=1) (v:=.slice q.fa p.F.length p.F.length) rfl
 simp only [Pr.row] at hm1 ld
 simp [Zb] at ld
 obtain⟨m3,h3,k3⟩:=Zwo (m:=m2) hN hNs hP (h.keep K2)
 simp only [Pr.row] at h3
 have a2:=ld _ (Zaj _)
 have hF60:=hP.fl
 refine Zey 14 [20,30,47,56,68,100,121,135] k19 hN.ver rfl ?_
 simp [-Int.natCast_add,-BitVec.toNat_or,-BitVec.toNat_ofInt,-BitVec.toNat_and,Zbj Zhb,Zah b45,Zag Zgl,Zae Zbx,Zaf Zgo,Za Zan,Zab Zbw,Zac u41,Zaa u41 Za5,Zae Zby,Zag Zb4,Zaf Za5,Za Zbl,Zab Zde,Zac u22,Zaa u22 Zb8,Zae Zcb,Zag Zem,Zaf Zb8,Za Zak,Zab ld3,Za Zal,Zai Zhp,Pr.row,hpb,hm1,hrb,hm2,a2,h3]
 refine Zbg 14 [20,30,47,56,68,100,121,135] (fun d E mD=>∃ i:Nat,p.F.length - i=d∧i≤p.F.length∧Zm9 p p.F 0=Zm9 p (p.F.drop i) i∧Zao m2 mD []∧E=[(1,.pointer (some ⟨pb,0,none⟩)),(2,.pointer (some ⟨rb,0,none⟩)),(6,.int .i64 i)]) _ ⟨_,⟨0,rfl,by omega,rfl,k3,rfl⟩,⟨by rfl,by rfl,by rfl,trivial⟩⟩ ?_
 rintro d E mD ih ⟨i,hd,hi,hver,kD,rfl⟩
 have oD:=o2.keep kD (by simp)
 have b1:=ld1 _ kD
 by_cases hlt:i < p.F.length
 case neg =>
  have i1:¬ (i:Int) < p.F.length:=by omega
  rw [List.drop_eq_nil_of_le (by omega)] at hver
  have hver:Zm9 p p.F 0=(0,0,0):=hver
  rw [hver]
  simp [-Int.natCast_add,-BitVec.toNat_or,-BitVec.toNat_ofInt,-BitVec.toNat_and,Zbj Zhb,Zah b45,Zag Zgl,Zae Zbx,Zaf Zgo,Za Zan,Zab Zbw,Zac u41,Zaa u41 Za5,Zae Zby,Zag Zb4,Zaf Za5,Za Zbl,Zab Zde,Zac u22,Zaa u22 Zb8,Zae Zcb,Zag Zem,Zaf Zb8,Za Zak,Zab ld3,Za Zal,Zai Zhp,b1,hlt,i1]
  generalize hrd:Za8 _ _ _=rd
  obtain⟨m5,rfl,o5,k5⟩:=Za4 hrd oD (by simp) (by simp [Zbk])
  simp [Zdh] at o5
  have g5:=o5.load (off:=0) 2 (by simp)
  simp [Zb] at g5
  simp [-Int.natCast_add,-BitVec.toNat_or,-BitVec.toNat_ofInt,-BitVec.toNat_and,Zbj Zhb,Zah b45,Zag Zgl,Zae Zbx,Zaf Zgo,Za Zan,Zab Zbw,Zac u41,Zaa u41 Za5,Zae Zby,Zag Zb4,Zaf Za5,Za Zbl,Zab Zde,Zac u22,Zaa u22 Zb8,Zae Zcb,Zag Zem,Zaf Zb8,Za Zak,Zab ld3,Za Zal,Zai Zhp,g5,Zbj]
  exact (K2.trans kD).fresh k5 (by have:=k1.1;simp;omega)
 have i1:(i:Int) < p.F.length:=by omega
 have em:(i:Int)≤9223372036854775807:=by omega
 have wi:IntKind.i64.wrap ((i:Int)+1)=((i+1:Nat):Int):=by rw [Zbh (by omega) (by omega)];omega
 have hpD:=(h.keep K2).keep kD
 obtain⟨fb,fq,hfb,hfn,hld⟩:=hpD.fs.one hlt
 have lf:=(hld _ (Zaj _)).1
 have hgm:=List.getElem_mem hlt
 rw [List.drop_eq_getElem_cons hlt,Zz0] at hver
 generalize p.F[i]=g at lf hfn hgm hver
 simp only [Fn.row] at lf
 obtain⟨s8,s40,sle,spre⟩:=hP.sig _ hgm
 obtain⟨o4,k4,n4⟩:=Za7 (m:=mD) (cs:=[.string ⟨#[]⟩,.slice none 0 0,.int .i64 0,.slice none 0 0,.slice none 0 0]) (e:=37) rfl
 obtain⟨gb,hgb⟩:∃ z,mD.next=z:=⟨_,rfl⟩
 rw [hgb] at o4 n4
 obtain⟨m4,hm4⟩:∃ z,mD.new [.string ⟨#[]⟩,.slice none 0 0,.int .i64 0,.slice none 0 0,.slice none 0 0] 37=z:=⟨_,rfl⟩
 rw [hm4] at o4 k4 n4
 have b1':=b1
 rw [hfb] at b1'
 simp [-Int.natCast_add,-BitVec.toNat_or,-BitVec.toNat_ofInt,-BitVec.toNat_and,Zbj Zhb,Zah b45,Zag Zgl,Zae Zbx,Zaf Zgo,Za Zan,Zab Zbw,Zac u41,Zaa u41 Za5,Zae Zby,Zag Zb4,Zaf Za5,Za Zbl,Zab Zde,Zac u22,Zaa u22 Zb8,Zae Zcb,Zag Zem,Zaf Zb8,Za Zak,Zab ld3,Za Zal,Zai Zhp,i1,em,hlt,b1',lf,hgb,hm4]
 generalize hrc:Za8 _ _ _=rc
 obtain⟨m5,rfl,o5,k5⟩:=Za4 hrc o4 (by simp) (by simp [Zbk,Zco,Zbp])
 simp [Zdh] at o5
 have kD5:Zao mD m5 []:=k4.fresh k5 (by simp;omega)
 have k25:=kD.trans kD5
 have hfn5:=hfn.keep kD5
 have gl:=fun m' (k:Zao m5 m' [])=>(o5.keep k (by simp)).load (off:=0) 5 (by simp)
 simp [Zb] at gl
 have c4:=fun m' (k:Zao m5 m' [])=>(o5.keep k (by simp)).load1 (off:=4) (v:=.slice fq.ca g.code.length g.code.length) rfl
 have c45:=c4 _ (Zaj _)
 by_cases hc0:g.code.length=0
 ·have hc0':(g.code.length:Int)=0:=by omega
  have hvw:Ze6 p g=(1,0,none):=by unfold Ze6;rw [if_pos (Or.inl hc0)]
  rw [hvw] at hver
  simp only at hver
  rw [if_neg (by decide)] at hver
  rw [hver]
  obtain⟨mW,hw,kW⟩:=Zf4 (m:=m5) hN (i:Int) 0 1
  simp [-Int.natCast_add,-BitVec.toNat_or,-BitVec.toNat_ofInt,-BitVec.toNat_and,Zbj Zhb,Zah b45,Zag Zgl,Zae Zbx,Zaf Zgo,Za Zan,Zab Zbw,Zac u41,Zaa u41 Za5,Zae Zby,Zag Zb4,Zaf Za5,Za Zbl,Zab Zde,Zac u22,Zaa u22 Zb8,Zae Zcb,Zag Zem,Zaf Zb8,Za Zak,Zab ld3,Za Zal,Zai Zhp,c45,hc0,hc0',List.length_eq_zero_iff.1 hc0,hw]
  generalize hrd:Za8 _ _ _=rd
  obtain⟨mR,rfl,oR,kR⟩:=Za4 hrd ((o2.keep (k25) (by simp)).keep kW (by simp)) (by simp) (by simp [Zbk])
  simp [Zdh] at oR
  have gR:=oR.load (off:=0) 2 (by simp)
  simp [Zb] at gR
  simp [-Int.natCast_add,-BitVec.toNat_or,-BitVec.toNat_ofInt,-BitVec.toNat_and,Zbj Zhb,Zah b45,Zag Zgl,Zae Zbx,Zaf Zgo,Za Zan,Zab Zbw,Zac u41,Zaa u41 Za5,Zae Zby,Zag Zb4,Zaf Za5,Za Zbl,Zab Zde,Zac u22,Zaa u22 Zb8,Zae Zcb,Zag Zem,Zaf Zb8,Za Zak,Zab ld3,Za Zal,Zai Zhp,gR,Zbj]
  exact (K2.trans ((k25).trans kW)).fresh kR (by have:=k1.1;simp;omega)
 by_cases hc4:4000 < g.code.length
 ·have hc4':(4000:Int) < (g.code.length:Int):=by omega
  have hc0':¬ (g.code.length:Int)=0:=by omega
  have hvw:Ze6 p g=(1,0,none):=by unfold Ze6;rw [if_pos (Or.inr hc4)]
  rw [hvw] at hver
  simp only at hver
  rw [if_neg (by decide)] at hver
  rw [hver]
  obtain⟨mW,hw,kW⟩:=Zf4 (m:=m5) hN (i:Int) 0 1
  simp [-Int.natCast_add,-BitVec.toNat_or,-BitVec.toNat_ofInt,-BitVec.toNat_and,Zbj Zhb,Zah b45,Zag Zgl,Zae Zbx,Zaf Zgo,Za Zan,Zab Zbw,Zac u41,Zaa u41 Za5,Zae Zby,Zag Zb4,Zaf Za5,Za Zbl,Zab Zde,Zac u22,Zaa u22 Zb8,Zae Zcb,Zag Zem,Zaf Zb8,Za Zak,Zab ld3,Za Zal,Zai Zhp,c45,hc0,hc0',hc4,hc4',hw]
  generalize hrd:Za8 _ _ _=rd
  obtain⟨mR,rfl,oR,kR⟩:=Za4 hrd ((o2.keep (k25) (by simp)).keep kW (by simp)) (by simp) (by simp [Zbk])
  simp [Zdh] at oR
  have gR:=oR.load (off:=0) 2 (by simp)
  simp [Zb] at gR
  simp [-Int.natCast_add,-BitVec.toNat_or,-BitVec.toNat_ofInt,-BitVec.toNat_and,Zbj Zhb,Zah b45,Zag Zgl,Zae Zbx,Zaf Zgo,Za Zan,Zab Zbw,Zac u41,Zaa u41 Za5,Zae Zby,Zag Zb4,Zaf Za5,Za Zbl,Zab Zde,Zac u22,Zaa u22 Zb8,Zae Zcb,Zag Zem,Zaf Zb8,Za Zak,Zab ld3,Za Zal,Zai Zhp,gR,Zbj]
  exact (K2.trans ((k25).trans kW)).fresh kR (by have:=k1.1;simp;omega)
 have hc4':¬ (4000:Int) < (g.code.length:Int):=by omega
 have hc0':¬ (g.code.length:Int)=0:=by omega
 have hvw:Ze6 p g=match Zqx p g.ls.length g.code.length g.code 0 with
   | some (pc,e)=>(e,pc,none)
   | none=>Zlg p g (g.code.length+1) K0 (fun _=>false):=by
  unfold Ze6
  rw [if_neg (by omega)]
  rfl
 simp [-Int.natCast_add,-BitVec.toNat_or,-BitVec.toNat_ofInt,-BitVec.toNat_and,Zbj Zhb,Zah b45,Zag Zgl,Zae Zbx,Zaf Zgo,Za Zan,Zab Zbw,Zac u41,Zaa u41 Za5,Zae Zby,Zag Zb4,Zaf Za5,Za Zbl,Zab Zde,Zac u22,Zaa u22 Zb8,Zae Zcb,Zag Zem,Zaf Zb8,Za Zak,Zab ld3,Za Zal,Zai Zhp,c45,hc0,hc0',hc4,hc4']
 refine Zbg 14 [20,30,47,56,68,100,121,135] (fun d E mE=>∃ pc:Nat,g.code.length - pc=d∧pc≤g.code.length∧Zqx p g.ls.length g.code.length g.code 0=Zqx p g.ls.length g.code.length (g.code.drop pc) pc∧(∀ j (hj:j < g.code.length),j < pc→Zfe p g.ls.length g.code.length g.code[j] j=0)∧Zao m5 mE []∧E=[(1,.pointer (some ⟨pb,0,none⟩)),(2,.pointer (some ⟨rb,0,none⟩)),(6,.int .i64 i),(7,.pointer (some ⟨gb,0,none⟩)),(8,.int .i64 pc)]) _ ⟨_,⟨0,rfl,by omega,rfl,fun _ _ h=>by omega,Zaj _,rfl⟩,⟨by rfl,by rfl,by rfl,by rfl,by rfl,trivial⟩⟩ ?_
 rintro d E mE ihE ⟨pc,hdp,hpc,hsb,hst,kE,rfl⟩
 have kX:=k25.trans kE
 have aE:=ld _ kX
 have gE:=gl _ kE
 have cE:=c4 _ kE
 by_cases hlp:pc < g.code.length
 case neg =>
  have j1:¬ (pc:Int) < (g.code.length:Int):=by omega
  rw [List.drop_eq_nil_of_le (by omega)] at hsb
  have hsb:Zqx p g.ls.length g.code.length g.code 0=none:=hsb
  rw [hsb] at hvw
  simp only at hvw
  obtain⟨vv,m6,h6,hwq,k6⟩:=Zvs (m:=mE) hN hP.ok (((h.keep K2).keep k25).keep kE) hgm (hfn5.keep kE) (by omega) (by omega) (by omega) (fun j hj=>hst j hj (by omega))
  simp only [Pr.row,Fn.row] at h6
  obtain⟨u,rfl,_⟩:=hwq
  rw [hvw] at hver
  obtain⟨r,hr⟩:∃ r,Zlg p g (g.code.length+1) K0 (fun _=>false)=r:=⟨_,rfl⟩
  rw [hr] at hver h6
  obtain⟨e,wpc,Kr⟩:=r
  simp only at hver h6
  by_cases e0:e=0
  ·rw [if_pos e0] at hver
   subst e0
   simp [-Int.natCast_add,-BitVec.toNat_or,-BitVec.toNat_ofInt,-BitVec.toNat_and,Zbj Zhb,Zah b45,Zag Zgl,Zae Zbx,Zaf Zgo,Za Zan,Zab Zbw,Zac u41,Zaa u41 Za5,Zae Zby,Zag Zb4,Zaf Za5,Za Zbl,Zab Zde,Zac u22,Zaa u22 Zb8,Zae Zcb,Zag Zem,Zaf Zb8,Za Zak,Zab ld3,Za Zal,Zai Zhp,cE,hlp,j1,aE,gE,h6,wi]
   exact ih _ _ _ _ ⟨i+1,rfl,by omega,hver,kX.trans k6,rfl⟩ (by omega) ⟨by rfl,by rfl,by simp [Zcm],trivial⟩
  ·rw [if_neg e0] at hver
   rw [hver]
   obtain⟨mW,hw,kW⟩:=Zf4 (m:=m6) hN (i:Int) wpc e
   simp [-Int.natCast_add,-BitVec.toNat_or,-BitVec.toNat_ofInt,-BitVec.toNat_and,Zbj Zhb,Zah b45,Zag Zgl,Zae Zbx,Zaf Zgo,Za Zan,Zab Zbw,Zac u41,Zaa u41 Za5,Zae Zby,Zag Zb4,Zaf Za5,Za Zbl,Zab Zde,Zac u22,Zaa u22 Zb8,Zae Zcb,Zag Zem,Zaf Zb8,Za Zak,Zab ld3,Za Zal,Zai Zhp,cE,hlp,j1,aE,gE,h6,e0,hw]
   generalize hrd:Za8 _ _ _=rd
   obtain⟨mR,rfl,oR,kR⟩:=Za4 hrd ((o2.keep (kX.trans k6) (by simp)).keep kW (by simp)) (by simp) (by simp [Zbk])
   simp [Zdh] at oR
   have gR:=oR.load (off:=0) 2 (by simp)
   simp [Zb] at gR
   simp [-Int.natCast_add,-BitVec.toNat_or,-BitVec.toNat_ofInt,-BitVec.toNat_and,Zbj Zhb,Zah b45,Zag Zgl,Zae Zbx,Zaf Zgo,Za Zan,Zab Zbw,Zac u41,Zaa u41 Za5,Zae Zby,Zag Zb4,Zaf Za5,Za Zbl,Zab Zde,Zac u22,Zaa u22 Zb8,Zae Zcb,Zag Zem,Zaf Zb8,Za Zak,Zab ld3,Za Zal,Zai Zhp,gR,Zbj]
   exact (K2.trans ((kX.trans k6).trans kW)).fresh kR (by have:=k1.1;simp;omega)
 have j1:(pc:Int) < (g.code.length:Int):=by omega
 have emp:(pc:Int)≤9223372036854775807:=by omega
 have wp:IntKind.i64.wrap ((pc:Int)+1)=((pc+1:Nat):Int):=by rw [Zbh (by omega) (by omega)];omega
 have wl:IntKind.i64.wrap ((g.code.length:Int) - 1)=(g.code.length:Int) - 1:=Zbh (by omega) (by omega)
 obtain⟨cb,hcb,hcl⟩:=Zih (hfn5.keep kE).code hlp
 have lcE:=hcl _ (Zaj _)
 obtain⟨vr,m6,h6,rfl,k6⟩:=Ztx (m:=mE) (fp:=fq) (f:=g) hN (((h.keep K2).keep k25).keep kE) g.code[pc]
 rw [List.drop_eq_getElem_cons hlp,Zz9] at hsb
 have hst1:∀ (j:Nat) (hj:j < g.code.length),j < pc+1→Zfe p g.ls.length g.code.length g.code[pc] pc=0→Zfe p g.ls.length g.code.length g.code[j] j=0:=by
  intro j hj hjp h0
  by_cases e:j=pc
  ·subst e;exact h0
  ·exact hst j hj (by omega)
 have lc6:=hcl _ k6
 have a6:=ld _ (kX.trans k6)
 have g6:=gl _ (kE.trans k6)
 have c6:=c4 _ (kE.trans k6)
 obtain⟨x,hx⟩:∃ x,g.code[pc]=x:=⟨_,rfl⟩
 rw [hx] at lcE h6 hsb hst1 lc6
 simp only [Pr.row,Fn.row] at h6
 rw [hcb] at gE cE h6 g6 c6
 have rs:=fun hr=>Zt4 (p:=p) (nl:=g.ls.length) (nc:=g.code.length) (pc:=pc) (x:=x) hr
 have rt:=fun hr=>Zw (p:=p) (nl:=g.ls.length) (nc:=g.code.length) (pc:=pc) (x:=x) hr
 obtain⟨e,he⟩:∃ z,Zgr p g.ls.length x=z:=⟨_,rfl⟩
 rw [he] at h6 rs rt
 by_cases e0:e=0
 case neg =>
  rw [rs e0,if_neg e0] at hsb
  rw [hsb] at hvw
  rw [hvw] at hver
  simp only at hver
  rw [if_neg e0] at hver
  rw [hver]
  obtain⟨mW,hw,kW⟩:=Zf4 (m:=m6) hN (i:Int) pc e
  simp [-Int.natCast_add,-BitVec.toNat_or,-BitVec.toNat_ofInt,-BitVec.toNat_and,Zbj Zhb,Zah b45,Zag Zgl,Zae Zbx,Zaf Zgo,Za Zan,Zab Zbw,Zac u41,Zaa u41 Za5,Zae Zby,Zag Zb4,Zaf Za5,Za Zbl,Zab Zde,Zac u22,Zaa u22 Zb8,Zae Zcb,Zag Zem,Zaf Zb8,Za Zak,Zab ld3,Za Zal,Zai Zhp,hcb,cE,hlp,j1,emp,aE,gE,lcE,h6,a6,g6,c6,lc6,e0,Zdf,Zc1,Zic,hw]
  generalize hrd:Za8 _ _ _=rd
  obtain⟨mR,rfl,oR,kR⟩:=Za4 hrd ((o2.keep (kX.trans k6) (by simp)).keep kW (by simp)) (by simp) (by simp [Zbk])
  simp [Zdh] at oR
  have gR:=oR.load (off:=0) 2 (by simp)
  simp [Zb] at gR
  simp [-Int.natCast_add,-BitVec.toNat_or,-BitVec.toNat_ofInt,-BitVec.toNat_and,Zbj Zhb,Zah b45,Zag Zgl,Zae Zbx,Zaf Zgo,Za Zan,Zab Zbw,Zac u41,Zaa u41 Za5,Zae Zby,Zag Zb4,Zaf Za5,Za Zbl,Zab Zde,Zac u22,Zaa u22 Zb8,Zae Zcb,Zag Zem,Zaf Zb8,Za Zak,Zab ld3,Za Zal,Zai Zhp,gR,Zbj]
  exact (K2.trans ((kX.trans k6).trans kW)).fresh kR (by have:=k1.1;simp;omega)
 rw [e0] at h6
 rw [rt e0] at hsb hst1
 obtain⟨op,a,b⟩:=x
 simp only at lcE h6 hsb hst1 lc6
 obtain⟨o7,k7,n7⟩:=Za7 (m:=m6) (cs:=[.int .i64 0,.int .i64 0,.int .i64 0]) (e:=40) rfl
 obtain⟨xb,hxb⟩:∃ z,m6.next=z:=⟨_,rfl⟩
 rw [hxb] at o7 n7
 obtain⟨m7,hm7⟩:∃ z,m6.new [.int .i64 0,.int .i64 0,.int .i64 0] 40=z:=⟨_,rfl⟩
 rw [hm7] at o7 k7 n7
 simp [-Int.natCast_add,-BitVec.toNat_or,-BitVec.toNat_ofInt,-BitVec.toNat_and,Zbj Zhb,Zah b45,Zag Zgl,Zae Zbx,Zaf Zgo,Za Zan,Zab Zbw,Zac u41,Zaa u41 Za5,Zae Zby,Zag Zb4,Zaf Za5,Za Zbl,Zab Zde,Zac u22,Zaa u22 Zb8,Zae Zcb,Zag Zem,Zaf Zb8,Za Zak,Zab ld3,Za Zal,Zai Zhp,hcb,cE,hlp,j1,emp,aE,gE,lcE,h6,a6,g6,c6,lc6,Zdf,Zc1,Zic,hxb,hm7]
 generalize hre:Za8 _ _ _=re
 obtain⟨m8,rfl,o8,k8⟩:=Za4 hre o7 (by simp) (by simp [Zbk])
 simp [Zdh] at o8
 have k68:Zao m6 m8 []:=k7.fresh k8 (by simp;omega)
 have z0:=o8.load1 (off:=0) rfl
 have z1:=o8.load1 (off:=1) rfl
 have kY:=(kX.trans k6).trans k68
 have c8:=c4 _ ((kE.trans k6).trans k68)
 rw [hcb] at c8
 have fin31:(op=26∨op=27)→inB a g.code.length=false→Zm9 p p.F 0=(i,pc,31):=by
  intro h1 h2
  rw [if_pos (show (op=26∨op=27)∧inB a g.code.length=false from⟨h1,h2⟩),if_neg (by decide)] at hsb
  rw [hsb] at hvw
  rw [hvw] at hver
  simp only at hver
  rw [if_neg (by decide)] at hver
  exact hver
 have fin34:¬ ((op=26∨op=27)∧inB a g.code.length=false)→pc+1=g.code.length→op≠26→op≠41→Zm9 p p.F 0=(i,pc,34):=by
  intro h0 h1 h2 h3
  rw [if_neg h0,if_pos (show pc+1=g.code.length∧op≠26∧op≠41 from⟨h1,h2,h3⟩),if_neg (by decide)] at hsb
  rw [hsb] at hvw
  rw [hvw] at hver
  simp only at hver
  rw [if_neg (by decide)] at hver
  exact hver
 have go0:¬ ((op=26∨op=27)∧inB a g.code.length=false)→¬ (pc+1=g.code.length∧op≠26∧op≠41)→Zqx p g.ls.length g.code.length g.code 0=Zqx p g.ls.length g.code.length (g.code.drop (pc+1)) (pc+1)∧∀ (j:Nat) (hj:j < g.code.length),j < pc+1→Zfe p g.ls.length g.code.length g.code[j] j=0:=by
  intro h0 h1
  rw [if_neg h0,if_neg h1] at hsb hst1
  rw [if_pos rfl] at hsb
  exact⟨hsb,fun j hj hjp=>hst1 j hj hjp rfl⟩
 have hY:=fun (mX:Mem) (k:Zao m8 mX [])=>kY.trans k
 have iab:inB a g.code.length=false↔(a < 0∨(g.code.length:Int)≤a):=by
  unfold inB
  rw [decide_eq_false_iff_not]
  omega
 have wpl:(pc:Int)=(g.code.length:Int) - 1↔pc+1=g.code.length:=by omega
 by_cases hJ:(op=26∨op=27)∧inB a g.code.length=false
 ·rw [fin31 hJ.1 hJ.2]
  have hab:=iab.1 hJ.2
  have z0':=z0
  rcases hJ.1 with e26 | e26
  all_goals
   rw [e26] at z0'
   by_cases hneg:a < 0
   ·obtain⟨mW,hw,kW⟩:=Zf4 (m:=m8) hN (i:Int) pc 31
    simp [-Int.natCast_add,-BitVec.toNat_or,-BitVec.toNat_ofInt,-BitVec.toNat_and,Zbj Zhb,Zah b45,Zag Zgl,Zae Zbx,Zaf Zgo,Za Zan,Zab Zbw,Zac u41,Zaa u41 Za5,Zae Zby,Zag Zb4,Zaf Za5,Za Zbl,Zab Zde,Zac u22,Zaa u22 Zb8,Zae Zcb,Zag Zem,Zaf Zb8,Za Zak,Zab ld3,Za Zal,Zai Zhp,z0',z1,hneg,hw]
    generalize hrd:Za8 _ _ _=rd
    obtain⟨mR,rfl,oR,kR⟩:=Za4 hrd ((o2.keep (kY) (by simp)).keep kW (by simp)) (by simp) (by simp [Zbk])
    simp [Zdh] at oR
    have gR:=oR.load (off:=0) 2 (by simp)
    simp [Zb] at gR
    simp [-Int.natCast_add,-BitVec.toNat_or,-BitVec.toNat_ofInt,-BitVec.toNat_and,Zbj Zhb,Zah b45,Zag Zgl,Zae Zbx,Zaf Zgo,Za Zan,Zab Zbw,Zac u41,Zaa u41 Za5,Zae Zby,Zag Zb4,Zaf Za5,Za Zbl,Zab Zde,Zac u22,Zaa u22 Zb8,Zae Zcb,Zag Zem,Zaf Zb8,Za Zak,Zab ld3,Za Zal,Zai Zhp,gR,Zbj]
    exact (K2.trans ((kY).trans kW)).fresh kR (by have:=k1.1;simp;omega)
   ·have hge:(g.code.length:Int)≤a:=by omega
    obtain⟨mW,hw,kW⟩:=Zf4 (m:=m8) hN (i:Int) pc 31
    simp [-Int.natCast_add,-BitVec.toNat_or,-BitVec.toNat_ofInt,-BitVec.toNat_and,Zbj Zhb,Zah b45,Zag Zgl,Zae Zbx,Zaf Zgo,Za Zan,Zab Zbw,Zac u41,Zaa u41 Za5,Zae Zby,Zag Zb4,Zaf Za5,Za Zbl,Zab Zde,Zac u22,Zaa u22 Zb8,Zae Zcb,Zag Zem,Zaf Zb8,Za Zak,Zab ld3,Za Zal,Zai Zhp,z0',z1,hneg,c8,hge,hw]
    generalize hrd:Za8 _ _ _=rd
    obtain⟨mR,rfl,oR,kR⟩:=Za4 hrd ((o2.keep (kY) (by simp)).keep kW (by simp)) (by simp) (by simp [Zbk])
    simp [Zdh] at oR
    have gR:=oR.load (off:=0) 2 (by simp)
    simp [Zb] at gR
    simp [-Int.natCast_add,-BitVec.toNat_or,-BitVec.toNat_ofInt,-BitVec.toNat_and,Zbj Zhb,Zah b45,Zag Zgl,Zae Zbx,Zaf Zgo,Za Zan,Zab Zbw,Zac u41,Zaa u41 Za5,Zae Zby,Zag Zb4,Zaf Za5,Za Zbl,Zab Zde,Zac u22,Zaa u22 Zb8,Zae Zcb,Zag Zem,Zaf Zb8,Za Zak,Zab ld3,Za Zal,Zai Zhp,gR,Zbj]
    exact (K2.trans ((kY).trans kW)).fresh kR (by have:=k1.1;simp;omega)
 have hJ':¬ (op=26∨op=27)∨(0≤a∧a < g.code.length):=by
  by_cases hh:op=26∨op=27
  ·right
   have h9:¬ (a < 0∨(g.code.length:Int)≤a):=fun h=>hJ ⟨hh,iab.2 h⟩
   omega
  ·exact Or.inl hh
 have goX:¬ (pc+1=g.code.length∧op≠26∧op≠41)→∃ pc2:Nat,g.code.length - pc2=g.code.length - (pc+1)∧pc2≤g.code.length∧Zqx p g.ls.length g.code.length g.code 0=Zqx p g.ls.length g.code.length (g.code.drop pc2) pc2∧(∀ j (hj:j < g.code.length),j < pc2→Zfe p g.ls.length g.code.length g.code[j] j=0)∧Zao m5 m8 []∧[(1,.pointer (some ⟨pb,0,none⟩)),(2,.pointer (some ⟨rb,0,none⟩)),(6,.int .i64 i),(7,.pointer (some ⟨gb,0,none⟩)),(8,.int .i64 ((pc+1:Nat):Int))]=[(1,.pointer (some ⟨pb,0,none⟩)),(2,.pointer (some ⟨rb,0,none⟩)),(6,Value.int .i64 i),(7,.pointer (some ⟨gb,0,none⟩)),(8,.int .i64 pc2)]:=fun hn=>⟨pc+1,rfl,by omega,(go0 hJ hn).1,(go0 hJ hn).2,(kE.trans k6).trans k68,rfl⟩
 by_cases hl:pc+1=g.code.length
 case neg =>
  have hl2:¬ (pc:Int)=(g.code.length:Int) - 1:=by omega
  have go:=goX (fun h=>hl h.1)
  by_cases e26:op=26
  ·have hr:=hJ'.resolve_left (fun h=>h (Or.inl e26))
   have r0:¬ a < 0:=by omega
   have r1:¬ (g.code.length:Int)≤a:=by omega
   rw [e26] at z0
   simp [-Int.natCast_add,-BitVec.toNat_or,-BitVec.toNat_ofInt,-BitVec.toNat_and,Zbj Zhb,Zah b45,Zag Zgl,Zae Zbx,Zaf Zgo,Za Zan,Zab Zbw,Zac u41,Zaa u41 Za5,Zae Zby,Zag Zb4,Zaf Za5,Za Zbl,Zab Zde,Zac u22,Zaa u22 Zb8,Zae Zcb,Zag Zem,Zaf Zb8,Za Zak,Zab ld3,Za Zal,Zai Zhp,z0,z1,r0,c8,r1,wl,hl2,wp]
   exact ihE _ _ _ _ go (by omega) ⟨by rfl,by rfl,by rfl,by rfl,by simp [Zcm],trivial⟩
  by_cases e27:op=27
  ·have hr:=hJ'.resolve_left (fun h=>h (Or.inr e27))
   have r0:¬ a < 0:=by omega
   have r1:¬ (g.code.length:Int)≤a:=by omega
   rw [e27] at z0
   simp [-Int.natCast_add,-BitVec.toNat_or,-BitVec.toNat_ofInt,-BitVec.toNat_and,Zbj Zhb,Zah b45,Zag Zgl,Zae Zbx,Zaf Zgo,Za Zan,Zab Zbw,Zac u41,Zaa u41 Za5,Zae Zby,Zag Zb4,Zaf Za5,Za Zbl,Zab Zde,Zac u22,Zaa u22 Zb8,Zae Zcb,Zag Zem,Zaf Zb8,Za Zak,Zab ld3,Za Zal,Zai Zhp,z0,z1,r0,c8,r1,wl,hl2,wp]
   exact ihE _ _ _ _ go (by omega) ⟨by rfl,by rfl,by rfl,by rfl,by simp [Zcm],trivial⟩
  simp [-Int.natCast_add,-BitVec.toNat_or,-BitVec.toNat_ofInt,-BitVec.toNat_and,Zbj Zhb,Zah b45,Zag Zgl,Zae Zbx,Zaf Zgo,Za Zan,Zab Zbw,Zac u41,Zaa u41 Za5,Zae Zby,Zag Zb4,Zaf Za5,Za Zbl,Zab Zde,Zac u22,Zaa u22 Zb8,Zae Zcb,Zag Zem,Zaf Zb8,Za Zak,Zab ld3,Za Zal,Zai Zhp,z0,z1,e26,e27,c8,wl,hl2,wp]
  exact ihE _ _ _ _ go (by omega) ⟨by rfl,by rfl,by rfl,by rfl,by simp [Zcm],trivial⟩
 have wl2:IntKind.i64.wrap ((g.code.length:Int) - 1)=(pc:Int):=by rw [wl];omega
 by_cases e26:op=26
 ·have go:=goX (fun h=>h.2.1 e26)
  have hr:=hJ'.resolve_left (fun h=>h (Or.inl e26))
  have r0:¬ a < 0:=by omega
  have r1:¬ (g.code.length:Int)≤a:=by omega
  rw [e26] at z0
  simp [-Int.natCast_add,-BitVec.toNat_or,-BitVec.toNat_ofInt,-BitVec.toNat_and,Zbj Zhb,Zah b45,Zag Zgl,Zae Zbx,Zaf Zgo,Za Zan,Zab Zbw,Zac u41,Zaa u41 Za5,Zae Zby,Zag Zb4,Zaf Za5,Za Zbl,Zab Zde,Zac u22,Zaa u22 Zb8,Zae Zcb,Zag Zem,Zaf Zb8,Za Zak,Zab ld3,Za Zal,Zai Zhp,z0,z1,r0,c8,r1,wl2,wp]
  exact ihE _ _ _ _ go (by omega) ⟨by rfl,by rfl,by rfl,by rfl,by simp [Zcm],trivial⟩
 by_cases e41:op=41
 ·have go:=goX (fun h=>h.2.2 e41)
  rw [e41] at z0
  simp [-Int.natCast_add,-BitVec.toNat_or,-BitVec.toNat_ofInt,-BitVec.toNat_and,Zbj Zhb,Zah b45,Zag Zgl,Zae Zbx,Zaf Zgo,Za Zan,Zab Zbw,Zac u41,Zaa u41 Za5,Zae Zby,Zag Zb4,Zaf Za5,Za Zbl,Zab Zde,Zac u22,Zaa u22 Zb8,Zae Zcb,Zag Zem,Zaf Zb8,Za Zak,Zab ld3,Za Zal,Zai Zhp,z0,z1,c8,wl2,wp]
  exact ihE _ _ _ _ go (by omega) ⟨by rfl,by rfl,by rfl,by rfl,by simp [Zcm],trivial⟩
 rw [fin34 hJ hl e26 e41]
 by_cases e27:op=27
 ·have hr:=hJ'.resolve_left (fun h=>h (Or.inr e27))
  have r0:¬ a < 0:=by omega
  have r1:¬ (g.code.length:Int)≤a:=by omega
  rw [e27] at z0
  obtain⟨mW,hw,kW⟩:=Zf4 (m:=m8) hN (i:Int) pc 34
  simp [-Int.natCast_add,-BitVec.toNat_or,-BitVec.toNat_ofInt,-BitVec.toNat_and,Zbj Zhb,Zah b45,Zag Zgl,Zae Zbx,Zaf Zgo,Za Zan,Zab Zbw,Zac u41,Zaa u41 Za5,Zae Zby,Zag Zb4,Zaf Za5,Za Zbl,Zab Zde,Zac u22,Zaa u22 Zb8,Zae Zcb,Zag Zem,Zaf Zb8,Za Zak,Zab ld3,Za Zal,Zai Zhp,z0,z1,r0,c8,r1,wl2,hw]
  generalize hrd:Za8 _ _ _=rd
  obtain⟨mR,rfl,oR,kR⟩:=Za4 hrd ((o2.keep (kY) (by simp)).keep kW (by simp)) (by simp) (by simp [Zbk])
  simp [Zdh] at oR
  have gR:=oR.load (off:=0) 2 (by simp)
  simp [Zb] at gR
  simp [-Int.natCast_add,-BitVec.toNat_or,-BitVec.toNat_ofInt,-BitVec.toNat_and,Zbj Zhb,Zah b45,Zag Zgl,Zae Zbx,Zaf Zgo,Za Zan,Zab Zbw,Zac u41,Zaa u41 Za5,Zae Zby,Zag Zb4,Zaf Za5,Za Zbl,Zab Zde,Zac u22,Zaa u22 Zb8,Zae Zcb,Zag Zem,Zaf Zb8,Za Zak,Zab ld3,Za Zal,Zai Zhp,gR,Zbj]
  exact (K2.trans ((kY).trans kW)).fresh kR (by have:=k1.1;simp;omega)
 obtain⟨mW,hw,kW⟩:=Zf4 (m:=m8) hN (i:Int) pc 34
 simp [-Int.natCast_add,-BitVec.toNat_or,-BitVec.toNat_ofInt,-BitVec.toNat_and,Zbj Zhb,Zah b45,Zag Zgl,Zae Zbx,Zaf Zgo,Za Zan,Zab Zbw,Zac u41,Zaa u41 Za5,Zae Zby,Zag Zb4,Zaf Za5,Za Zbl,Zab Zde,Zac u22,Zaa u22 Zb8,Zae Zcb,Zag Zem,Zaf Zb8,Za Zak,Zab ld3,Za Zal,Zai Zhp,z0,z1,e26,e27,e41,c8,wl2,hw]
 generalize hrd:Za8 _ _ _=rd
 obtain⟨mR,rfl,oR,kR⟩:=Za4 hrd ((o2.keep (kY) (by simp)).keep kW (by simp)) (by simp) (by simp [Zbk])
 simp [Zdh] at oR
 have gR:=oR.load (off:=0) 2 (by simp)
 simp [Zb] at gR
 simp [-Int.natCast_add,-BitVec.toNat_or,-BitVec.toNat_ofInt,-BitVec.toNat_and,Zbj Zhb,Zah b45,Zag Zgl,Zae Zbx,Zaf Zgo,Za Zan,Zab Zbw,Zac u41,Zaa u41 Za5,Zae Zby,Zag Zb4,Zaf Za5,Za Zbl,Zab Zde,Zac u22,Zaa u22 Zb8,Zae Zcb,Zag Zem,Zaf Zb8,Za Zak,Zab ld3,Za Zal,Zai Zhp,gR,Zbj]
 exact (K2.trans ((kY).trans kW)).fresh kR (by have:=k1.1;simp;omega)
end Go.Proofs.YtbldiceiindbdaaGreatDoor.base
