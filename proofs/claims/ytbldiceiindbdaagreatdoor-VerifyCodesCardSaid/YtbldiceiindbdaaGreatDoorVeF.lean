/- This text proves what package verify's parts answers: of what looks into types. Condition: nothing is known of the calls ahead ('S f = []') but code.Name's names. -/
import Derived.Test.YtbldiceiindbdaaGreatDoorVeE
set_option linter.unusedVariables false
set_option linter.unusedSimpArgs false
set_option maxRecDepth 100000
namespace Go.Proofs.YtbldiceiindbdaaGreatDoor.base
open Go.Sh gen
variable {S:Zed}{m:Mem}{wb:Nat}{p:Pr}{q:Pp}{f:Fn}{fp:Fp}
def Zi7 (L:List Zb0.D)(t a:Int):Option Int:=match L[t.toNat]? with
 | some x=>if x.1=5 then (((tF x)[a.toNat]?).map fun y=>(show Int from y.2.1)) else none
 | none=>none
def Zn (L:List Zb0.D)(t:Int):Option Int:=match L[t.toNat]? with
 | some x=>if x.1=6 then some x.2.2.1 else none
 | none=>none
def Zdg (p:Pr)(f:Fn)(x:Ix)(l:List Int):Int × Bool:=
 if x.1=28∨x.1=29 then (match Zi7 p.L (l.getD 0 0) x.2.1 with
  | none=>(0,false)
  | some t=>if x.1=29 then (0,Zhd p.L (l.drop 1) [t]) else (t,true)) else
 if x.1=30∨x.1=31 then (match Zn p.L (l.getD 0 0) with
  | none=>(0,false)
  | some t=>if l.getD 1 0=1 then (if x.1=31 then (0,Zhd p.L (l.drop 2) [t]) else (t,true)) else (0,false)) else
 if x.1=38 then (x.2.1,Zpa p.L x.2.1 (l.getD 0 0)) else
 if x.1=36 then ((Zp p.F x.2.1).res,Zhd p.L l (Zp p.F x.2.1).ps) else
 if x.1=37 then (match Zh7 p.L (p.X.getD x.2.1.toNat []) (l.getD 0 0) with
  | none=>(0,false)
  | some y=>(y.2.2.1,Zhd p.L (l.drop 1) y.2.1)) else
 if x.1=41 then (if x.2.1=0 then (0,decide (f.res=0)) else (0,decide (f.res≠0) && Zhd p.L l [f.res])) else (0,false)
structure Zu0 (p:Pr):Prop where
 L:Zdp p.L
 ps:∀ g∈p.F,Val p.L g.ps
 ls:∀ g∈p.F,Val p.L g.ls
 res:∀ g∈p.F,g.res=0∨Zgc p.L.length g.res
 xl:p.X.length≤10000
theorem Zdp.fv {L:List Zb0.D}(hR:Zdp L){i:Nat}(hi:i < L.length)(h5:L[i].1=5){j:Nat}(hj:j < (tF L[i]).length):Zgc L.length (tF L[i])[j].2.1:=by
 by_cases h:i < 5
 ·have e:(5:Int)=(i:Int):=h5.symm.trans (hR.k5 hi h);omega
 ·rcases hR.one i hi (by omega) with h | h | h
  ·exact h.2.1.f _ (List.getElem_mem hj)
  ·exact absurd (h5.symm.trans h.1) (by decide)
  ·exact absurd (h5.symm.trans h.1) (by decide)
theorem Zdp.ev {L:List Zb0.D}(hR:Zdp L){i:Nat}(hi:i < L.length)(h6:L[i].1=6):Zgc L.length L[i].2.2.1:=by
 by_cases h:i < 5
 ·have e:(6:Int)=(i:Int):=h6.symm.trans (hR.k5 hi h);omega
 ·rcases hR.one i hi (by omega) with h | h | h
  ·exact absurd (h6.symm.trans h.1) (by decide)
  ·exact absurd (h6.symm.trans h.1) (by decide)
  ·exact h.2.2.1
theorem Zdp.mv {L:List Zb0.D}(hR:Zdp L){i:Nat}(hi:i < L.length)(h7:L[i].1=7){y:Zdz.D}(hy:y∈tM L[i]):Zzr L.length y:=by
 by_cases h:i < 5
 ·have e:(7:Int)=(i:Int):=h7.symm.trans (hR.k5 hi h);omega
 ·rcases hR.one i hi (by omega) with h | h | h
  ·exact absurd (h7.symm.trans h.1) (by decide)
  ·exact h.2.1.m _ hy
  ·exact absurd (h7.symm.trans h.1) (by decide)
theorem Zov {L:List Zb0.D}(hR:Zdp L){nm:List UInt8}{t:Int}{y:Zdz.D}(h:Zh7 L nm t=some y):Zzr L.length y:=by
 unfold Zh7 at h
 split at h
 ·rename_i x hx
  obtain⟨hi,rfl⟩:=List.getElem?_eq_some_iff.1 hx
  split at h
  ·rename_i h7
   obtain⟨hj,rfl⟩:=List.getElem?_eq_some_iff.1 h
   exact hR.mv hi h7.1 (List.getElem_mem hj)
  ·cases h
 ·cases h
theorem Z1l {L:List Zb0.D}{t:Int}(h:Zgc L.length t):Val L [t]:=by
 intro x hx
 rw [List.mem_singleton.1 hx];exact h
theorem Z3p (m:Mem)(t:Int):Iv (m.new [.int .i64 t] 3) (some ⟨m.next,0,none⟩) [t]:=Iv.one _ _ (Own.new _ _ _)
theorem gd {l:List Int}{i:Nat}(h:i < l.length):l.getD i 0=l[i]:=by simp [List.getD_eq_getElem?_getD,h]
theorem Zlt (hN:Nw S)(hR:Zdp p.L)(h:Wa m wb p q f fp){ao:Option Addr}{l:List Int}(hl:Iv m ao l)(hlv:Val p.L l){t:Int}(ht:Zgc p.L.length t)(hll:l.length≤1000){m2:Mem}(hm2:m.new [.int .i64 t] 3=m2){n:Nat}(hn:l.length=n) :
  ∃ m3,Zbi Tryz.prog TT S 116 [.pointer (some ⟨wb,0,none⟩),.slice ao n n,.slice (some ⟨m.next,0,none⟩) 1 1] m2=some (.bool (Zhd p.L l [t]),m3)∧Zao m m3 []:=by
 have iv2:=Z3p m t
 have k2:=Zb9 m [.int .i64 t] 3 []
 rw [hm2] at iv2 k2
 obtain⟨m3,h3,k3⟩:=Zry hN hR (h.keep k2) (hl.keep k2) iv2 hlv (Z1l ht) hll
 rw [hn] at h3
 exact⟨m3,h3,k2.trans k3⟩
theorem Iv.el {b of:Nat}{l:List Int}(h:Iv m (some ⟨b,of,none⟩) l)(hl:0 < l.length):Zi1 m b 3=true:=by
 obtain⟨b',of',e',el',_⟩:=h.load (by intro e;rw [e] at hl;simp at hl)
 cases e';exact el'
theorem Iv.at_ {b of:Nat}{l:List Int}(h:Iv m (some ⟨b,of,none⟩) l){i:Nat}(hi:i < l.length):∀ m',Zao m m' []→loadRow m' ⟨b,of+i,none⟩ 1=some [.int .i64 (l.getD i 0)]:=by
 obtain⟨b',of',e',_,hld⟩:=h.load (by intro e;rw [e] at hi;simp at hi)
 cases e'
 intro m' k
 rw [gd hi];exact hld i hi m' k
set_option maxHeartbeats 4000000 in
theorem Zws (hN:Nw S)(hP:Zu0 p)(h:Wa m wb p q f fp)(hf:f∈p.F)(hfl:f.ls.length≤1000)(x:Ix)(hx:Zlh p f.ls.length x){ao:Option Addr}{l:List Int}(hl:Iv m ao l)(hlv:Val p.L l)(hlt:(l.length:Int)=Zcp x)(hll:l.length≤1000)(hop:x.1=28∨x.1=29∨x.1=30∨x.1=31∨x.1=38∨x.1=36∨x.1=37∨x.1=41):∃ m1,Zbi Tryz.prog TT S 119 [.pointer (some ⟨wb,0,none⟩),.agg #[.int .i64 x.1,.int .i64 x.2.1,.int .i64 x.2.2],.slice ao l.length l.length] m=some (.tuple #[.int .i64 (Zdg p f x l).1,.bool (Zdg p f x l).2],m1)∧Zao m m1 []:=by
 suffices hg:∃ v m1,Zbi Tryz.prog TT S 119 [.pointer (some ⟨wb,0,none⟩),.agg #[.int .i64 x.1,.int .i64 x.2.1,.int .i64 x.2.2],.slice ao l.length l.length] m=some (v,m1)∧v=.tuple #[.int .i64 (Zdg p f x l).1,.bool (Zdg p f x l).2]∧Zao m m1 [] by
  obtain⟨_,m1,h1,rfl,h2⟩:=hg
  exact⟨m1,h1,h2⟩
 have hR:=hP.L
 obtain⟨op,a,b⟩:=x
 have hcall:=hx.call
 have hinv:=hx.inv
 have hfld:=hx.fld
 have hret:=hx.ret
 have hst:=hx.st
 simp only at hcall hinv hfld hret hst hop
 obtain⟨o1,k1,n1⟩:=Za7 (m:=m) (cs:=[.int .i64 op,.int .i64 a,.int .i64 b]) (e:=40) rfl
 obtain⟨xb,hxb⟩:∃ xb,m.next=xb:=⟨_,rfl⟩
 rw [hxb] at o1 n1
 obtain⟨m1,hm1⟩:∃ mF,m.new [.int .i64 op,.int .i64 a,.int .i64 b] 40=mF:=⟨_,rfl⟩
 rw [hm1] at o1 k1 n1
 have w:=h.keep k1
 have x0:=o1.load1 (off:=0) rfl
 have x1:=o1.load1 (off:=1) rfl
 have xa:=o1.load (off:=0) 3 (by simp)
 simp [Zb] at xa
 have l0:=w.l0
 have hl1:=hl.keep k1
 have hLl:=w.pr.tb.le
 have first:0 < l.length→∃ (lb of i k:Nat) (kk:Int) (_:i < p.L.length),ao=some ⟨lb,of,none⟩∧Zi1 m1 lb 3=true∧l.getD 0 0=(i:Int)∧p.L[i]?.map (·.1)=some kk∧loadRow m1 ⟨lb,of,none⟩ 1=some [.int .i64 i]∧Zbi Tryz.prog TT S 114 [.pointer (some ⟨wb,0,none⟩),.int .i64 i] m1=some (.int .i64 kk,m1):=by
  intro hp
  obtain⟨lb,of,rfl,el,hld⟩:=hl1.load (by intro e;rw [e] at hp;simp at hp)
  have t0:=hld 0 hp _ (Zaj _)
  obtain⟨i,hi,kk,ei,ek,_⟩:=hR.kv (hlv _ (List.getElem_mem hp))
  obtain⟨v,hv,hv1,_⟩:=Zju hN.wkind hN.below w (i:Int)
  rw [ei] at t0
  refine⟨lb,of,i,0,kk,hi,rfl,el,by rw [gd hp,ei],by rw [List.getElem?_eq_getElem hi];simp [ek],by simpa using t0,by rw [hv,hv1 i hi rfl,ek]⟩
 refine Zey 15 [15,15,40,59,67,67,81,95,103,118,136,158,162] Z8q hN.parts rfl ?_
 simp only []
 rcases hop with e | e | e | e | e | e | e | e
 ·
  subst e
  have hl1:l.length=1:=by have:(l.length:Int)=1:=hlt;omega
  obtain⟨lb,of,i,_,kk,hi,rfl,el,h0,hk,t0,hw⟩:=first (by omega)
  have ha:=hfld (Or.inl rfl)
  obtain⟨ai,rfl⟩:∃ j:Nat,a=j:=⟨a.toNat,by omega⟩
  have hlen:0 < l.length:=by omega
  have hki:p.L[i].1=kk:=by rw [List.getElem?_eq_getElem hi] at hk;simpa using hk
  have e1:Zi7 p.L (i:Int) (ai:Int)=if kk=5 then (((tF p.L[i])[ai]?).map fun y=>(show Int from y.2.1)) else none:=by
   unfold Zi7;rw [Int.toNat_natCast,List.getElem?_eq_getElem hi];simp only [hki];rfl
  simp only [Zdg,h0,e1]
  by_cases h5:kk=5
  case neg =>
   simp [-Int.natCast_add,-BitVec.toNat_or,-BitVec.toNat_ofInt,-BitVec.toNat_and,Zah b40,Za Zak,Zab ld3,Zaa u23 sz3,Za Zal,Za Zbt,Za Zas,Zab Zb2,Zaa u24 Zbn,Za Zay,Zab Zce,Zac u28,Zaa u28 Zcc,Za Za9,Zbz u23 sz3,Zad u23 bs3 rfl,Za Zau,Za Zan,Zab Zbw,Zaa u41 Za5,Zae Zby,Zag Zb4,Zaf Za5,Za Zaz,Za Zav,Zab Zbe,Zae Zcb,Zag Zcw,Zaf Zbd,Za Zap,Za Zar,Za Zbm,hxb,hm1,x0,x1,t0,hlen,hw,h5]
   exact k1
  subst h5
  obtain⟨tb,ao2,ff,bo,het,ty⟩:=w.pr.tb.ty hi
  rw [het] at l0
  have l3:=ty.l3 _ (Zaj _)
  have emi:(i:Int)≤9223372036854775807:=by omega
  by_cases hj:ai < (tF p.L[i]).length
  ·obtain⟨fb,rfl,hld⟩:=Zik ty.fs hj
   have lf:=(hld _ (Zaj _)).2
   have hj':¬ (tF p.L[i]).length≤ai:=by omega
   have hj2:¬ ((tF p.L[i]).length:Int)≤(ai:Int):=by omega
   have emj:(ai:Int)≤9223372036854775807:=by omega
   have e2:(((tF p.L[i])[ai]?).map fun y=>(show Int from y.2.1))=some (tF p.L[i])[ai].2.1:=by rw [List.getElem?_eq_getElem hj];rfl
   obtain⟨A,hA⟩:∃ z,tF p.L[i]=z:=⟨_,rfl⟩
   simp only [hA] at l3 lf hj hj' hj2 e2 ⊢
   simp only [e2]
   obtain⟨y,hy⟩:∃ z:Int,A[ai].2.1=z:=⟨_,rfl⟩
   rw [hy] at lf ⊢
   simp [-Int.natCast_add,-BitVec.toNat_or,-BitVec.toNat_ofInt,-BitVec.toNat_and,Zah b40,Za Zak,Zab ld3,Zaa u23 sz3,Za Zal,Za Zbt,Za Zas,Zab Zb2,Zaa u24 Zbn,Za Zay,Zab Zce,Zac u28,Zaa u28 Zcc,Za Za9,Zbz u23 sz3,Zad u23 bs3 rfl,Za Zau,Za Zan,Zab Zbw,Zaa u41 Za5,Zae Zby,Zag Zb4,Zaf Za5,Za Zaz,Za Zav,Zab Zbe,Zae Zcb,Zag Zcw,Zaf Zbd,Za Zap,Za Zar,Za Zbm,hxb,hm1,x0,x1,t0,hlen,hw,l0,l3,emi,hi,hj,hj',hj2,emj,lf]
   exact k1
  ·have hj':(tF p.L[i]).length≤ai:=by omega
   have hj2:((tF p.L[i]).length:Int)≤(ai:Int):=by omega
   have e2:(((tF p.L[i])[ai]?).map fun y=>(show Int from y.2.1))=none:=by rw [List.getElem?_eq_none (by omega)];rfl
   obtain⟨A,hA⟩:∃ z,tF p.L[i]=z:=⟨_,rfl⟩
   simp only [hA] at l3 hj hj' hj2 e2 ⊢
   simp only [e2]
   simp [-Int.natCast_add,-BitVec.toNat_or,-BitVec.toNat_ofInt,-BitVec.toNat_and,Zah b40,Za Zak,Zab ld3,Zaa u23 sz3,Za Zal,Za Zbt,Za Zas,Zab Zb2,Zaa u24 Zbn,Za Zay,Zab Zce,Zac u28,Zaa u28 Zcc,Za Za9,Zbz u23 sz3,Zad u23 bs3 rfl,Za Zau,Za Zan,Zab Zbw,Zaa u41 Za5,Zae Zby,Zag Zb4,Zaf Za5,Za Zaz,Za Zav,Zab Zbe,Zae Zcb,Zag Zcw,Zaf Zbd,Za Zap,Za Zar,Za Zbm,hxb,hm1,x0,x1,t0,hlen,hw,l0,l3,emi,hi,hj,hj',hj2]
   exact k1
 ·
  subst e
  have hl2:l.length=2:=by have:(l.length:Int)=2:=hlt;omega
  obtain⟨lb,of,i,_,kk,hi,rfl,el,h0,hk,t0,hw⟩:=first (by omega)
  have ha:=hfld (Or.inr rfl)
  obtain⟨ai,rfl⟩:∃ j:Nat,a=j:=⟨a.toNat,by omega⟩
  have hlen:0 < l.length:=by omega
  have hki:p.L[i].1=kk:=by rw [List.getElem?_eq_getElem hi] at hk;simpa using hk
  have e1:Zi7 p.L (i:Int) (ai:Int)=if kk=5 then (((tF p.L[i])[ai]?).map fun y=>(show Int from y.2.1)) else none:=by
   unfold Zi7;rw [Int.toNat_natCast,List.getElem?_eq_getElem hi];simp only [hki];rfl
  simp only [Zdg,h0,e1]
  by_cases h5:kk=5
  case neg =>
   simp [-Int.natCast_add,-BitVec.toNat_or,-BitVec.toNat_ofInt,-BitVec.toNat_and,Zah b40,Za Zak,Zab ld3,Zaa u23 sz3,Za Zal,Za Zbt,Za Zas,Zab Zb2,Zaa u24 Zbn,Za Zay,Zab Zce,Zac u28,Zaa u28 Zcc,Za Za9,Zbz u23 sz3,Zad u23 bs3 rfl,Za Zau,Za Zan,Zab Zbw,Zaa u41 Za5,Zae Zby,Zag Zb4,Zaf Za5,Za Zaz,Za Zav,Zab Zbe,Zae Zcb,Zag Zcw,Zaf Zbd,Za Zap,Za Zar,Za Zbm,hxb,hm1,x0,x1,t0,hlen,hw,h5]
   exact k1
  subst h5
  obtain⟨tb,ao2,ff,bo,het,ty⟩:=w.pr.tb.ty hi
  rw [het] at l0
  have l3:=ty.l3 _ (Zaj _)
  have emi:(i:Int)≤9223372036854775807:=by omega
  by_cases hj:ai < (tF p.L[i]).length
  ·have hvt:=hR.fv hi hki hj
   obtain⟨fb,rfl,hld⟩:=Zik ty.fs hj
   have lf:=(hld _ (Zaj _)).2
   have hj':¬ (tF p.L[i]).length≤ai:=by omega
   have hj2:¬ ((tF p.L[i]).length:Int)≤(ai:Int):=by omega
   have emj:(ai:Int)≤9223372036854775807:=by omega
   have e2:(((tF p.L[i])[ai]?).map fun y=>(show Int from y.2.1))=some (tF p.L[i])[ai].2.1:=by rw [List.getElem?_eq_getElem hj];rfl
   obtain⟨A,hA⟩:∃ z,tF p.L[i]=z:=⟨_,rfl⟩
   simp only [hA] at l3 lf hj hj' hj2 e2 hvt ⊢
   simp only [e2]
   obtain⟨y,hy⟩:∃ z:Int,A[ai].2.1=z:=⟨_,rfl⟩
   rw [hy] at lf hvt ⊢
   obtain⟨m2,hm2⟩:∃ mF,m1.new [.int .i64 y] 3=mF:=⟨_,rfl⟩
   have k2:=Zb9 m1 [.int .i64 y] 3 []
   rw [hm2] at k2
   have hd1:=hl1.drop 1 (by omega) (by intro e;rw [e] at hlen;simp at hlen)
   obtain⟨m3,h3,k3⟩:=Zlt hN hR w hd1 (hlv.drop 1) hvt (by simp;omega) hm2 (n:=1) (by simp;omega)
   have el2:=(hl1.keep k2).el hlen
   obtain⟨fb2,hfb⟩:∃ z,Zhd p.L (l.drop 1) [y]=z:=⟨_,rfl⟩
   rw [hfb] at h3
   simp [-Int.natCast_add,-BitVec.toNat_or,-BitVec.toNat_ofInt,-BitVec.toNat_and,Zah b40,Za Zak,Zab ld3,Zaa u23 sz3,Za Zal,Za Zbt,Za Zas,Zab Zb2,Zaa u24 Zbn,Za Zay,Zab Zce,Zac u28,Zaa u28 Zcc,Za Za9,Zbz u23 sz3,Zad u23 bs3 rfl,Za Zau,Za Zan,Zab Zbw,Zaa u41 Za5,Zae Zby,Zag Zb4,Zaf Za5,Za Zaz,Za Zav,Zab Zbe,Zae Zcb,Zag Zcw,Zaf Zbd,Za Zap,Za Zar,Za Zbm,hxb,hm1,x0,x1,t0,hlen,hw,l0,l3,emi,hi,hj,hj',hj2,emj,lf,hl2,el,el2,hm2,h3]
   exact⟨by rw [← hfb,List.drop_one],k1.trans k3⟩
  ·have hj':(tF p.L[i]).length≤ai:=by omega
   have hj2:((tF p.L[i]).length:Int)≤(ai:Int):=by omega
   have e2:(((tF p.L[i])[ai]?).map fun y=>(show Int from y.2.1))=none:=by rw [List.getElem?_eq_none (by omega)];rfl
   obtain⟨A,hA⟩:∃ z,tF p.L[i]=z:=⟨_,rfl⟩
   simp only [hA] at l3 hj hj' hj2 e2 ⊢
   simp only [e2]
   simp [-Int.natCast_add,-BitVec.toNat_or,-BitVec.toNat_ofInt,-BitVec.toNat_and,Zah b40,Za Zak,Zab ld3,Zaa u23 sz3,Za Zal,Za Zbt,Za Zas,Zab Zb2,Zaa u24 Zbn,Za Zay,Zab Zce,Zac u28,Zaa u28 Zcc,Za Za9,Zbz u23 sz3,Zad u23 bs3 rfl,Za Zau,Za Zan,Zab Zbw,Zaa u41 Za5,Zae Zby,Zag Zb4,Zaf Za5,Za Zaz,Za Zav,Zab Zbe,Zae Zcb,Zag Zcw,Zaf Zbd,Za Zap,Za Zar,Za Zbm,hxb,hm1,x0,x1,t0,hlen,hw,l0,l3,emi,hi,hj,hj',hj2]
   exact k1
 ·
  subst e
  have hl2:l.length=2:=by have:(l.length:Int)=2:=hlt;omega
  obtain⟨lb,of,i,_,kk,hi,rfl,el,h0,hk,t0,hw⟩:=first (by omega)
  have hlen:0 < l.length:=by omega
  have hlen1:1 < l.length:=by omega
  have t1:=hl1.at_ hlen1 _ (Zaj _)
  have hki:p.L[i].1=kk:=by rw [List.getElem?_eq_getElem hi] at hk;simpa using hk
  have e1:Zn p.L (i:Int)=if kk=6 then some p.L[i].2.2.1 else none:=by
   unfold Zn;rw [Int.toNat_natCast,List.getElem?_eq_getElem hi];simp only [hki]
  simp only [Zdg,h0,e1]
  obtain⟨t1v,ht1v⟩:∃ z,l.getD 1 0=z:=⟨_,rfl⟩
  rw [ht1v] at t1 ⊢
  by_cases h6:kk=6
  case neg =>
   simp [-Int.natCast_add,-BitVec.toNat_or,-BitVec.toNat_ofInt,-BitVec.toNat_and,Zah b40,Za Zak,Zab ld3,Zaa u23 sz3,Za Zal,Za Zbt,Za Zas,Zab Zb2,Zaa u24 Zbn,Za Zay,Zab Zce,Zac u28,Zaa u28 Zcc,Za Za9,Zbz u23 sz3,Zad u23 bs3 rfl,Za Zau,Za Zan,Zab Zbw,Zaa u41 Za5,Zae Zby,Zag Zb4,Zaf Za5,Za Zaz,Za Zav,Zab Zbe,Zae Zcb,Zag Zcw,Zaf Zbd,Za Zap,Za Zar,Za Zbm,hxb,hm1,x0,x1,t0,t1,hlen,hlen1,hw,h6]
   exact k1
  subst h6
  obtain⟨tb,ao2,ff,bo,het,ty⟩:=w.pr.tb.ty hi
  rw [het] at l0
  have l2:=ty.l2 _ (Zaj _)
  have emi:(i:Int)≤9223372036854775807:=by omega
  obtain⟨y,hy⟩:∃ z:Int,p.L[i].2.2.1=z:=⟨_,rfl⟩
  rw [hy] at l2 ⊢
  by_cases h1:t1v=1
  ·subst h1
   simp [-Int.natCast_add,-BitVec.toNat_or,-BitVec.toNat_ofInt,-BitVec.toNat_and,Zah b40,Za Zak,Zab ld3,Zaa u23 sz3,Za Zal,Za Zbt,Za Zas,Zab Zb2,Zaa u24 Zbn,Za Zay,Zab Zce,Zac u28,Zaa u28 Zcc,Za Za9,Zbz u23 sz3,Zad u23 bs3 rfl,Za Zau,Za Zan,Zab Zbw,Zaa u41 Za5,Zae Zby,Zag Zb4,Zaf Za5,Za Zaz,Za Zav,Zab Zbe,Zae Zcb,Zag Zcw,Zaf Zbd,Za Zap,Za Zar,Za Zbm,hxb,hm1,x0,x1,t0,t1,hlen,hlen1,hw,l0,l2,emi,hi]
   exact k1
  ·simp [-Int.natCast_add,-BitVec.toNat_or,-BitVec.toNat_ofInt,-BitVec.toNat_and,Zah b40,Za Zak,Zab ld3,Zaa u23 sz3,Za Zal,Za Zbt,Za Zas,Zab Zb2,Zaa u24 Zbn,Za Zay,Zab Zce,Zac u28,Zaa u28 Zcc,Za Za9,Zbz u23 sz3,Zad u23 bs3 rfl,Za Zau,Za Zan,Zab Zbw,Zaa u41 Za5,Zae Zby,Zag Zb4,Zaf Za5,Za Zaz,Za Zav,Zab Zbe,Zae Zcb,Zag Zcw,Zaf Zbd,Za Zap,Za Zar,Za Zbm,hxb,hm1,x0,x1,t0,t1,hlen,hlen1,hw,h1]
   exact k1
 ·
  subst e
  have hl2:l.length=3:=by have:(l.length:Int)=3:=hlt;omega
  obtain⟨lb,of,i,_,kk,hi,rfl,el,h0,hk,t0,hw⟩:=first (by omega)
  have hlen:0 < l.length:=by omega
  have hlen1:1 < l.length:=by omega
  have t1:=hl1.at_ hlen1 _ (Zaj _)
  have hki:p.L[i].1=kk:=by rw [List.getElem?_eq_getElem hi] at hk;simpa using hk
  have e1:Zn p.L (i:Int)=if kk=6 then some p.L[i].2.2.1 else none:=by
   unfold Zn;rw [Int.toNat_natCast,List.getElem?_eq_getElem hi];simp only [hki]
  simp only [Zdg,h0,e1]
  obtain⟨t1v,ht1v⟩:∃ z,l.getD 1 0=z:=⟨_,rfl⟩
  rw [ht1v] at t1 ⊢
  by_cases h6:kk=6
  case neg =>
   simp [-Int.natCast_add,-BitVec.toNat_or,-BitVec.toNat_ofInt,-BitVec.toNat_and,Zah b40,Za Zak,Zab ld3,Zaa u23 sz3,Za Zal,Za Zbt,Za Zas,Zab Zb2,Zaa u24 Zbn,Za Zay,Zab Zce,Zac u28,Zaa u28 Zcc,Za Za9,Zbz u23 sz3,Zad u23 bs3 rfl,Za Zau,Za Zan,Zab Zbw,Zaa u41 Za5,Zae Zby,Zag Zb4,Zaf Za5,Za Zaz,Za Zav,Zab Zbe,Zae Zcb,Zag Zcw,Zaf Zbd,Za Zap,Za Zar,Za Zbm,hxb,hm1,x0,x1,t0,t1,hlen,hlen1,hw,h6]
   exact k1
  subst h6
  have hvt:=hR.ev hi hki
  obtain⟨tb,ao2,ff,bo,het,ty⟩:=w.pr.tb.ty hi
  rw [het] at l0
  have l2:=ty.l2 _ (Zaj _)
  have emi:(i:Int)≤9223372036854775807:=by omega
  obtain⟨y,hy⟩:∃ z:Int,p.L[i].2.2.1=z:=⟨_,rfl⟩
  rw [hy] at l2 hvt ⊢
  by_cases h1:t1v=1
  ·subst h1
   obtain⟨m2,hm2⟩:∃ mF,m1.new [.int .i64 y] 3=mF:=⟨_,rfl⟩
   have k2:=Zb9 m1 [.int .i64 y] 3 []
   rw [hm2] at k2
   have hd1:=hl1.drop 2 (by omega) (by intro e;rw [e] at hlen;simp at hlen)
   obtain⟨m3,h3,k3⟩:=Zlt hN hR w hd1 (hlv.drop 2) hvt (by simp;omega) hm2 (n:=1) (by simp;omega)
   have el2:=(hl1.keep k2).el hlen
   obtain⟨fb2,hfb⟩:∃ z,Zhd p.L (l.drop 2) [y]=z:=⟨_,rfl⟩
   rw [hfb] at h3
   simp [-Int.natCast_add,-BitVec.toNat_or,-BitVec.toNat_ofInt,-BitVec.toNat_and,Zah b40,Za Zak,Zab ld3,Zaa u23 sz3,Za Zal,Za Zbt,Za Zas,Zab Zb2,Zaa u24 Zbn,Za Zay,Zab Zce,Zac u28,Zaa u28 Zcc,Za Za9,Zbz u23 sz3,Zad u23 bs3 rfl,Za Zau,Za Zan,Zab Zbw,Zaa u41 Za5,Zae Zby,Zag Zb4,Zaf Za5,Za Zaz,Za Zav,Zab Zbe,Zae Zcb,Zag Zcw,Zaf Zbd,Za Zap,Za Zar,Za Zbm,hxb,hm1,x0,x1,t0,t1,hlen,hlen1,hw,l0,l2,emi,hi,hl2,el,el2,hm2,h3]
   exact⟨hfb.symm,k1.trans k3⟩
  ·simp [-Int.natCast_add,-BitVec.toNat_or,-BitVec.toNat_ofInt,-BitVec.toNat_and,Zah b40,Za Zak,Zab ld3,Zaa u23 sz3,Za Zal,Za Zbt,Za Zas,Zab Zb2,Zaa u24 Zbn,Za Zay,Zab Zce,Zac u28,Zaa u28 Zcc,Za Za9,Zbz u23 sz3,Zad u23 bs3 rfl,Za Zau,Za Zan,Zab Zbw,Zaa u41 Za5,Zae Zby,Zag Zb4,Zaf Za5,Za Zaz,Za Zav,Zab Zbe,Zae Zcb,Zag Zcw,Zaf Zbd,Za Zap,Za Zar,Za Zbm,hxb,hm1,x0,x1,t0,t1,hlen,hlen1,hw,h1]
   exact k1
 ·
  subst e
  have hl2:l.length=1:=by have:(l.length:Int)=1:=hlt;omega
  obtain⟨lb,of,i,_,kk,hi,rfl,el,h0,hk,t0,hw⟩:=first (by omega)
  have hlen:0 < l.length:=by omega
  have hka:=hst (Or.inr rfl)
  have hain:0≤a∧a < p.L.length:=Classical.byContradiction fun hn=>by rw [Zil hn] at hka;exact absurd hka (by decide)
  obtain⟨m3,h3,k3⟩:=Zmm hN.h w.pr.tb (a:=a) (b:=(i:Int)) hain ⟨by omega,by omega⟩
  simp only [Zdg,h0]
  generalize Zpa p.L a (i:Int)=fb2 at h3 ⊢
  have x1':=(o1.keep k3 (by simp)).load1 (off:=1) rfl
  simp [-Int.natCast_add,-BitVec.toNat_or,-BitVec.toNat_ofInt,-BitVec.toNat_and,Zah b40,Za Zak,Zab ld3,Zaa u23 sz3,Za Zal,Za Zbt,Za Zas,Zab Zb2,Zaa u24 Zbn,Za Zay,Zab Zce,Zac u28,Zaa u28 Zcc,Za Za9,Zbz u23 sz3,Zad u23 bs3 rfl,Za Zau,Za Zan,Zab Zbw,Zaa u41 Za5,Zae Zby,Zag Zb4,Zaf Za5,Za Zaz,Za Zav,Zab Zbe,Zae Zcb,Zag Zcw,Zaf Zbd,Za Zap,Za Zar,Za Zbm,hxb,hm1,x0,x1,t0,hlen,l0,h3,x1',Zdf]
  exact k1.trans k3
 ·
  subst e
  obtain⟨hin,hb⟩:=hcall rfl
  obtain⟨i,rfl⟩:∃ i:Nat,a=i:=⟨a.toNat,by omega⟩
  have hi:i < p.F.length:=by omega
  obtain⟨fb,fq,he,hfn,hld⟩:=w.pr.fs.one hi
  have l1:=w.l1
  rw [he] at l1
  have l5:=(hld _ (Zaj _)).1
  have hle:=w.pr.fs.le
  have em:(i:Int)≤9223372036854775807:=by omega
  have hvp:=hP.ps _ (List.getElem_mem hi)
  simp only [Zdg,Zjw hi]
  obtain⟨g,hg⟩:∃ z,p.F[i]=z:=⟨_,rfl⟩
  rw [hg] at l5 hfn hvp ⊢
  simp only [Fn.row] at l5
  obtain⟨o3,k3,n3⟩:=Za7 (m:=m1) (cs:=[.string ⟨#[]⟩,.slice none 0 0,.int .i64 0,.slice none 0 0,.slice none 0 0]) (e:=37) rfl
  obtain⟨yb,hyb⟩:∃ xb,m1.next=xb:=⟨_,rfl⟩
  rw [hyb] at o3 n3
  obtain⟨m3,hm3⟩:∃ mF,m1.new [.string ⟨#[]⟩,.slice none 0 0,.int .i64 0,.slice none 0 0,.slice none 0 0] 37=mF:=⟨_,rfl⟩
  rw [hm3] at o3 k3 n3
  have x13:=(o1.keep k3 (by simp)).load1 (off:=1) rfl
  have l13:=(w.keep k3).l1
  rw [he] at l13
  have l53:=(hld _ k3).1
  rw [hg] at l53
  simp only [Fn.row] at l53
  simp [-Int.natCast_add,-BitVec.toNat_or,-BitVec.toNat_ofInt,-BitVec.toNat_and,Zah b40,Za Zak,Zab ld3,Zaa u23 sz3,Za Zal,Za Zbt,Za Zas,Zab Zb2,Zaa u24 Zbn,Za Zay,Zab Zce,Zac u28,Zaa u28 Zcc,Za Za9,Zbz u23 sz3,Zad u23 bs3 rfl,Za Zau,Za Zan,Zab Zbw,Zaa u41 Za5,Zae Zby,Zag Zb4,Zaf Za5,Za Zaz,Za Zav,Zab Zbe,Zae Zcb,Zag Zcw,Zaf Zbd,Za Zap,Za Zar,Za Zbm,hxb,hm1,x0,x1,l1,em,hi,l5,hyb,hm3]
  generalize hra:Za8 _ _ _=ra
  obtain⟨m4,rfl,o4,k4⟩:=Za4 hra o3 (by simp) (by simp [Zbk,Zco,Zbp])
  simp [Zdh] at o4
  have K:Zao m1 m4 []:=k3.fresh k4 (by simp;omega)
  have y1:=o4.load1 (off:=1) rfl
  have y2:=o4.load1 (off:=2) rfl
  have w4:=w.keep K
  obtain⟨m5,h5,k5⟩:=Zry hN hR w4 (hl1.keep K) (Rs.iv (hfn.keep K).ps) hlv hvp hll
  have y1':=(o4.keep k5 (by simp)).load1 (off:=1) rfl
  have y2':=(o4.keep k5 (by simp)).load1 (off:=2) rfl
  generalize Zhd p.L l g.ps=fb2 at h5 ⊢
  simp [-Int.natCast_add,-BitVec.toNat_or,-BitVec.toNat_ofInt,-BitVec.toNat_and,Zah b40,Za Zak,Zab ld3,Zaa u23 sz3,Za Zal,Za Zbt,Za Zas,Zab Zb2,Zaa u24 Zbn,Za Zay,Zab Zce,Zac u28,Zaa u28 Zcc,Za Za9,Zbz u23 sz3,Zad u23 bs3 rfl,Za Zau,Za Zan,Zab Zbw,Zaa u41 Za5,Zae Zby,Zag Zb4,Zaf Za5,Za Zaz,Za Zav,Zab Zbe,Zae Zcb,Zag Zcw,Zaf Zbd,Za Zap,Za Zar,Za Zbm,x1,l1,em,hi,l5,x13,l13,l53,y1,y2,y1',y2',h5,Zdf,Zc1,Zic]
  exact (k1.trans K).trans k5
 ·
  subst e
  obtain⟨hin,hb1,hb8⟩:=hinv rfl
  have hlb:(l.length:Int)=b:=hlt
  obtain⟨lb,of,i,_,kk,hi,rfl,el,h0,hk,t0,hw⟩:=first (by omega)
  have hlen:0 < l.length:=by omega
  have hv0:Zgc p.L.length (i:Int):=by
   have:=hlv _ (List.getElem_mem hlen)
   rwa [← gd hlen,h0] at this
  obtain⟨c,bb,m2,h2,hM,k2⟩:=Zqw hN hR w (37,a,b) hv0 hin (by have:=hP.xl;omega)
  simp only at h2 hM
  simp only [Zdg,h0]
  have hok:=fun y (e:Zh7 p.L (p.X.getD a.toNat []) (i:Int)=some y)=>Zov hR e
  obtain⟨o3,k3,n3⟩:=Za7 (m:=m2) (cs:=[.string ⟨#[]⟩,.slice none 0 0,.int .i64 0,.int .i64 0]) (e:=30) rfl
  obtain⟨yb,hyb⟩:∃ xb,m2.next=xb:=⟨_,rfl⟩
  rw [hyb] at o3 n3
  obtain⟨m3,hm3⟩:∃ mF,m2.new [.string ⟨#[]⟩,.slice none 0 0,.int .i64 0,.int .i64 0] 30=mF:=⟨_,rfl⟩
  rw [hm3] at o3 k3 n3
  rcases hmi:Zh7 p.L (p.X.getD a.toNat []) (i:Int) with _ | y
  ·rw [hmi] at hM
   obtain⟨rfl,rfl⟩:=hM
   simp [-Int.natCast_add,-BitVec.toNat_or,-BitVec.toNat_ofInt,-BitVec.toNat_and,Zah b40,Za Zak,Zab ld3,Zaa u23 sz3,Za Zal,Za Zbt,Za Zas,Zab Zb2,Zaa u24 Zbn,Za Zay,Zab Zce,Zac u28,Zaa u28 Zcc,Za Za9,Zbz u23 sz3,Zad u23 bs3 rfl,Za Zau,Za Zan,Zab Zbw,Zaa u41 Za5,Zae Zby,Zag Zb4,Zaf Za5,Za Zaz,Za Zav,Zab Zbe,Zae Zcb,Zag Zcw,Zaf Zbd,Za Zap,Za Zar,Za Zbm,hxb,hm1,x0,x1,xa,t0,hlen,h2,hyb,hm3]
   generalize hra:Za8 _ _ _=ra
   obtain⟨m4,rfl,o4,k4⟩:=Za4 hra o3 (by simp) (by simp [Zbk,Zco,Zbp])
   simp [Zdh] at o4
   have K:Zao m1 m4 []:=(k2.trans k3).fresh k4 (by have:=k2.1;simp;omega)
   have y1:=o4.load1 (off:=1) rfl
   have y2:=o4.load1 (off:=2) rfl
   simp [-Int.natCast_add,-BitVec.toNat_or,-BitVec.toNat_ofInt,-BitVec.toNat_and,Zah b40,Za Zak,Zab ld3,Zaa u23 sz3,Za Zal,Za Zbt,Za Zas,Zab Zb2,Zaa u24 Zbn,Za Zay,Zab Zce,Zac u28,Zaa u28 Zcc,Za Za9,Zbz u23 sz3,Zad u23 bs3 rfl,Za Zau,Za Zan,Zab Zbw,Zaa u41 Za5,Zae Zby,Zag Zb4,Zaf Za5,Za Zaz,Za Zav,Zab Zbe,Zae Zcb,Zag Zcw,Zaf Zbd,Za Zap,Za Zar,Za Zbm,xa,t0,Zdf,y1,y2]
   exact k1.trans K
  ·rw [hmi] at hM
   have hyL:=hok y hmi
   obtain⟨po,pf,rfl,hp,rfl⟩:=hM
   simp [-Int.natCast_add,-BitVec.toNat_or,-BitVec.toNat_ofInt,-BitVec.toNat_and,Zah b40,Za Zak,Zab ld3,Zaa u23 sz3,Za Zal,Za Zbt,Za Zas,Zab Zb2,Zaa u24 Zbn,Za Zay,Zab Zce,Zac u28,Zaa u28 Zcc,Za Za9,Zbz u23 sz3,Zad u23 bs3 rfl,Za Zau,Za Zan,Zab Zbw,Zaa u41 Za5,Zae Zby,Zag Zb4,Zaf Za5,Za Zaz,Za Zav,Zab Zbe,Zae Zcb,Zag Zcw,Zaf Zbd,Za Zap,Za Zar,Za Zbm,hxb,hm1,x0,x1,xa,t0,hlen,h2,hyb,hm3]
   generalize hra:Za8 _ _ _=ra
   obtain⟨m4,rfl,o4,k4⟩:=Za4 hra o3 (by simp) (by simp [Zbk,Zco,Zbp])
   simp [Zdh] at o4
   have K24:Zao m2 m4 []:=k3.fresh k4 (by simp;omega)
   have K:Zao m1 m4 []:=k2.trans K24
   have y1:=o4.load1 (off:=1) rfl
   have y2:=o4.load1 (off:=2) rfl
   have hd1:=(hl1.drop 1 (by omega) (by intro e;rw [e] at hlen;simp at hlen)).keep K
   have hpi:Iv m4 po (show List Int from y.2.1):=Rs.iv (hp.keep K24 (by simp))
   obtain⟨m5,h5,k5⟩:=Zry hN hR (w.keep K) hd1 hpi (hlv.drop 1) hyL.2.2 (by simp;omega)
   have y1':=(o4.keep k5 (by simp)).load1 (off:=1) rfl
   have y2':=(o4.keep k5 (by simp)).load1 (off:=2) rfl
   have el4:=(hl1.keep K).el hlen
   have hl1':1≤l.length:=by omega
   have hdl:(l.drop 1).length=l.length - 1:=by simp
   rw [hdl] at h5
   obtain⟨fb2,hfb⟩:∃ z,Zhd p.L (l.drop 1) (show List Int from y.2.1)=z:=⟨_,rfl⟩
   rw [hfb] at h5
   simp [-Int.natCast_add,-BitVec.toNat_or,-BitVec.toNat_ofInt,-BitVec.toNat_and,Zah b40,Za Zak,Zab ld3,Zaa u23 sz3,Za Zal,Za Zbt,Za Zas,Zab Zb2,Zaa u24 Zbn,Za Zay,Zab Zce,Zac u28,Zaa u28 Zcc,Za Za9,Zbz u23 sz3,Zad u23 bs3 rfl,Za Zau,Za Zan,Zab Zbw,Zaa u41 Za5,Zae Zby,Zag Zb4,Zaf Za5,Za Zaz,Za Zav,Zab Zbe,Zae Zcb,Zag Zcw,Zaf Zbd,Za Zap,Za Zar,Za Zbm,xa,t0,Zdf,Zc1,y1,y2,y1',y2',el4,hl1',h5]
   exact⟨by rw [← hfb,List.drop_one],(k1.trans K).trans k5⟩
 ·
  subst e
  have l7:=w.l7
  simp only [Zdg]
  by_cases ha0:a=0
  ·subst ha0
   by_cases hr0:f.res=0
   ·rw [hr0] at l7 ⊢
    simp [-Int.natCast_add,-BitVec.toNat_or,-BitVec.toNat_ofInt,-BitVec.toNat_and,Zah b40,Za Zak,Zab ld3,Zaa u23 sz3,Za Zal,Za Zbt,Za Zas,Zab Zb2,Zaa u24 Zbn,Za Zay,Zab Zce,Zac u28,Zaa u28 Zcc,Za Za9,Zbz u23 sz3,Zad u23 bs3 rfl,Za Zau,Za Zan,Zab Zbw,Zaa u41 Za5,Zae Zby,Zag Zb4,Zaf Za5,Za Zaz,Za Zav,Zab Zbe,Zae Zcb,Zag Zcw,Zaf Zbd,Za Zap,Za Zar,Za Zbm,hxb,hm1,x0,x1,l7]
    exact k1
   ·simp [-Int.natCast_add,-BitVec.toNat_or,-BitVec.toNat_ofInt,-BitVec.toNat_and,Zah b40,Za Zak,Zab ld3,Zaa u23 sz3,Za Zal,Za Zbt,Za Zas,Zab Zb2,Zaa u24 Zbn,Za Zay,Zab Zce,Zac u28,Zaa u28 Zcc,Za Za9,Zbz u23 sz3,Zad u23 bs3 rfl,Za Zau,Za Zan,Zab Zbw,Zaa u41 Za5,Zae Zby,Zag Zb4,Zaf Za5,Za Zaz,Za Zav,Zab Zbe,Zae Zcb,Zag Zcw,Zaf Zbd,Za Zap,Za Zar,Za Zbm,hxb,hm1,x0,x1,l7,hr0]
    exact k1
  ·have ha1:a=1:=by have:=hret rfl;omega
   subst ha1
   have hl2:l.length=1:=by have:(l.length:Int)=1:=hlt;omega
   by_cases hr0:f.res=0
   ·rw [hr0] at l7 ⊢
    simp [-Int.natCast_add,-BitVec.toNat_or,-BitVec.toNat_ofInt,-BitVec.toNat_and,Zah b40,Za Zak,Zab ld3,Zaa u23 sz3,Za Zal,Za Zbt,Za Zas,Zab Zb2,Zaa u24 Zbn,Za Zay,Zab Zce,Zac u28,Zaa u28 Zcc,Za Za9,Zbz u23 sz3,Zad u23 bs3 rfl,Za Zau,Za Zan,Zab Zbw,Zaa u41 Za5,Zae Zby,Zag Zb4,Zaf Za5,Za Zaz,Za Zav,Zab Zbe,Zae Zcb,Zag Zcw,Zaf Zbd,Za Zap,Za Zar,Za Zbm,hxb,hm1,x0,x1,l7]
    exact k1
   ·have hvr:=(hP.res f hf).resolve_left hr0
    obtain⟨m2,hm2⟩:∃ mF,m1.new [.int .i64 f.res] 3=mF:=⟨_,rfl⟩
    have k2:=Zb9 m1 [.int .i64 f.res] 3 []
    rw [hm2] at k2
    obtain⟨m3,h3,k3⟩:=Zlt hN hR w hl1 hlv hvr hll hm2 (n:=1) hl2
    have l7':=(w.keep k2).l7
    generalize Zhd p.L l [f.res]=fb2 at h3 ⊢
    simp [-Int.natCast_add,-BitVec.toNat_or,-BitVec.toNat_ofInt,-BitVec.toNat_and,Zah b40,Za Zak,Zab ld3,Zaa u23 sz3,Za Zal,Za Zbt,Za Zas,Zab Zb2,Zaa u24 Zbn,Za Zay,Zab Zce,Zac u28,Zaa u28 Zcc,Za Za9,Zbz u23 sz3,Zad u23 bs3 rfl,Za Zau,Za Zan,Zab Zbw,Zaa u41 Za5,Zae Zby,Zag Zb4,Zaf Za5,Za Zaz,Za Zav,Zab Zbe,Zae Zcb,Zag Zcw,Zaf Zbd,Za Zap,Za Zar,Za Zbm,hxb,hm1,x0,x1,l7,l7',hr0,hl2,hm2,h3]
    exact k1.trans k3
end Go.Proofs.YtbldiceiindbdaaGreatDoor.base
