/- This text proves what package verify's walk finds: the stacks ahead of the pcs of a function, or what is wrong first. Condition: nothing is known of the calls ahead ('S f = []') but code.Name's names. -/
import Derived.Test.YtbldiceiindbdaaGreatDoorVeR
set_option linter.unusedVariables false
set_option linter.unusedSimpArgs false
set_option maxRecDepth 100000
namespace Go.Proofs.YtbldiceiindbdaaGreatDoor.base
open Go.Sh gen
variable {S:Zed}{m0 m:Mem}{wb mp fa:Nat}{p:Pr}{q:Pp}{f:Fn}{fp:Fp}{ta:Option Addr}{T:List Nat}{K:Kn}{D:Nat→Bool}{A:Nat→Pl}
def Zqx (p:Pr)(nl nc:Nat):List Ix→Nat→Option (Nat × Int)
 | [],_=>none
 | x::r,pc=>if Zfe p nl nc x pc=0 then Zqx p nl nc r (pc+1) else some (pc,Zfe p nl nc x pc)
theorem Zz9 (p:Pr)(nl nc:Nat)(x:Ix)(r:List Ix)(pc:Nat):Zqx p nl nc (x::r) pc=if Zfe p nl nc x pc=0 then Zqx p nl nc r (pc+1) else some (pc,Zfe p nl nc x pc):=rfl
def Ziz (K:Kn)(D:Nat→Bool)(n:Nat):Option Nat:=(List.range n).find? fun i=>(K i).isSome && !D i
def Zpb (D:Nat→Bool)(t:Nat):Nat→Bool:=fun x=>if x=t then true else D x
def Zlg (p:Pr)(f:Fn):Nat→Kn→(Nat→Bool)→Int × Nat × Option Kn
 | 0,_,_=>(0,0,none)
 | n+1,K,D=>match Ziz K D f.code.length with
  | none=>(0,0,some K)
  | some pc=>if (Zh1 p f (f.code.getD pc (0,0,0)) ((K pc).getD [])).1≠0 then ((Zh1 p f (f.code.getD pc (0,0,0)) ((K pc).getD [])).1,pc,none) else
   match Zko K (Zh1 p f (f.code.getD pc (0,0,0)) ((K pc).getD [])).2 (Zjj (f.code.getD pc (0,0,0)).1 (f.code.getD pc (0,0,0)).2.1 pc) with
   | none=>(32,pc,none)
   | some K'=>Zlg p f n K' (Zpb D pc)
theorem Zwi (p:Pr)(f:Fn)(n:Nat)(K:Kn)(D:Nat→Bool):Zlg p f (n+1) K D=match Ziz K D f.code.length with
  | none=>(0,0,some K)
  | some pc=>if (Zh1 p f (f.code.getD pc (0,0,0)) ((K pc).getD [])).1≠0 then ((Zh1 p f (f.code.getD pc (0,0,0)) ((K pc).getD [])).1,pc,none) else
   match Zko K (Zh1 p f (f.code.getD pc (0,0,0)) ((K pc).getD [])).2 (Zjj (f.code.getD pc (0,0,0)).1 (f.code.getD pc (0,0,0)).2.1 pc) with
   | none=>(32,pc,none)
   | some K'=>Zlg p f n K' (Zpb D pc):=rfl
def K0:Kn:=fun x=>if x=0 then some [] else none
def Ze6 (p:Pr)(f:Fn):Int × Nat × Option Kn:=
 if f.code.length=0∨4000 < f.code.length then (1,0,none) else
 match Zqx p f.ls.length f.code.length f.code 0 with
 | some (pc,e)=>(e,pc,none)
 | none=>Zlg p f (f.code.length+1) K0 (fun _=>false)
def Zyy (D:Nat→Bool)(n:Nat):Nat:=((List.range n).filter fun i=>!D i).length
theorem Ztj {D:Nat→Bool}{t:Nat}(ht:D t=false):∀ {n:Nat},t < n→Zyy (Zpb D t) n+1=Zyy D n:=by
 intro n
 induction n with
 | zero=>intro h;omega
 | succ n ih =>
  intro h
  unfold Zyy at *
  simp only [List.range_succ,List.filter_append,List.length_append]
  by_cases e:t=n
  ·subst e
   have h1:((List.range t).filter fun i=>!Zpb D t i)=(List.range t).filter fun i=>!D i:=by
    apply List.filter_congr
    intro x hx
    have:x≠t:=by have:=List.mem_range.1 hx;omega
    simp [Zpb,this]
   rw [h1]
   simp [Zpb,ht]
  ·have h1:=ih (by omega)
   have h2:([n].filter fun i=>!Zpb D t i)=[n].filter fun i=>!D i:=by
    apply List.filter_congr
    intro x hx
    have:x≠t:=by have:=List.mem_singleton.1 hx;omega
    simp [Zpb,this]
   rw [h2];omega
theorem Zn4 {K:Kn}{D:Nat→Bool}{n x:Nat}(h1:x < n)(h2:(K x).isSome=true)(h3:D x=false)(h4:∀ y,(K y).isSome=true→D y=false→x≤y):Ziz K D n=some x:=by
 unfold Ziz
 rw [List.find?_range_eq_some]
 refine⟨by simp [h2,h3],List.mem_range.2 h1,fun j hj=>?_⟩
 rcases hk:(K j).isSome with _ | _
 ·simp
 ·rcases hd:D j with _ | _
  ·have:=h4 j hk hd;omega
  ·simp
theorem Znw {K:Kn}{D:Nat→Bool}{n:Nat}(h:∀ y,(K y).isSome=true→D y=true):Ziz K D n=none:=by
 unfold Ziz
 rw [List.find?_eq_none]
 intro x _
 rcases hk:(K x).isSome with _ | _
 ·simp
 ·simp [h x hk]
theorem WkS.pop (hN:Nc S)(h:WkS m0 m wb mp p q f fp ta fa K D T A)(hc:f.code.length≤4000)(hne:0 < T.length) :
  ∃ m1 x s T',Zbi Tryz.prog TT S 42 [hif wb] m=some (.iface 3 (nv x),m1)∧Ziz K D f.code.length=some x∧x < f.code.length∧D x=false∧K x=some s∧WkS m0 m1 wb mp p q f fp ta fa K (Zpb D x) T' A:=by
 have hT:=h.tlen
 obtain⟨_,m1,c1,⟨x,T',rfl,hpm,h1,hh1,hmin⟩,k1⟩:=Zyd hN h.h (by omega) hne h.hp
 have hxT:x∈T:=hpm.mem_iff.2 (List.mem_cons_self ..)
 obtain⟨hkx,hdx⟩:=(h.tq x).1 hxT
 obtain⟨s,hs⟩:=Option.isSome_iff_exists.1 hkx
 have hta:ta≠none:=by
  obtain⟨b,_,h0,_⟩:=h.h.sl.own (by omega)
  rw [h0];simp
 have hnd:=hpm.nodup_iff.1 h.nd
 have hxn:x∉T':=(List.nodup_cons.1 hnd).1
 refine⟨m1,x,s,T',c1,Zn4 (h.kin x hkx) hkx hdx (fun y hy hd=>hmin y ((h.tq y).2 ⟨hy,hd⟩)),h.kin x hkx,hdx,hs,⟨h.pr,h.fn,h.k0.fresh k1 (fun g hg=>?_),h.b0,h1,h.mpo.keep k1 ?_,h.d0,fun y u e=>?_,hh1,(List.nodup_cons.1 hnd).2,fun y=>?_,fun y hy=>?_,h.kin,h.kv⟩⟩
 ·rcases List.mem_cons.1 hg with e | e
  ·rw [e];exact h.b0.1
  ·rw [List.mem_singleton.1 e];exact h.b0.2.2 hta
 ·simp;exact⟨h.d0.1.symm,fun e=>h.d0.2 hta e.symm⟩
 ·obtain⟨r,rd⟩:=h.row y u e
  refine⟨r.keep0 k1 (fun hn=>?_),rd⟩
  have hne:u≠[]:=fun e=>hn (by rw [e];rfl)
  simp;exact⟨(rd hne).1,(rd hne).2.2 hta⟩
 ·have h2:=h.tq y
  rw [hpm.mem_iff,List.mem_cons] at h2
  simp only [Zpb]
  by_cases e:y=x
  ·subst e
   simp [hxn]
  ·simp only [if_neg e]
   rw [← h2]
   simp [e]
 ·simp only [Zpb] at hy
  by_cases e:y=x
  ·rw [e];exact hkx
  ·rw [if_neg e] at hy;exact h.dk y hy
def Znb (m1:Mem)(p:Pr)(r:Int × Nat × Option Kn)(v:Value):Prop:=match r.2.2 with
 | none=>v=.tuple #[.map none,.int .i64 r.2.1,.int .i64 r.1]
 | some K=>r.1=0∧r.2.1=0∧∃ mp A,v=.tuple #[.map (some mp),.int .i64 0,.int .i64 0]∧Mp m1 mp (gOf K A)∧∀ x s,K x=some s→Rs m1 (A x).a s.length (ic s) 3 1 (A x).f∧Val p.L s∧s.length≤60
structure Nv (S:Zed):Prop where
 w:Nw S
 c:Nc S
 g:Ng S
 walk:S 25=[]
 name:S 72=nmL
set_option maxHeartbeats 4000000 in
theorem Zzi (hN:Nv S)(hP:Zu0 p)(h:Zmg m p q){i:Nat}(hi:i < p.F.length)(hls:∀ g∈p.F,g.ls.length≤1000):∃ v m1,Zbi Tryz.prog TT S 25 [.agg (p.row q).toArray,.int .i64 i] m=some (v,m1)∧Znb m1 p (Ze6 p p.F[i]) v∧Zao m m1 []:=by
 refine Zey 45 [45,54,63,90,96] k25 hN.walk rfl ?_
 obtain⟨fb,fp,hfb,hfn,hld⟩:=h.fs.one hi
 have hle:=h.fs.le
 have em:(i:Int)≤9223372036854775807:=by omega
 obtain⟨f,hf⟩:∃ f,p.F[i]=f:=⟨_,rfl⟩
 have hmem:f∈p.F:=hf ▸ List.getElem_mem hi
 rw [hf] at hfn hld ⊢
 have hrow:p.row q=[.slice q.ta p.L.length p.L.length,.slice (some ⟨fb,0,none⟩) p.F.length p.F.length,.int .i64 p.main,.slice q.xa p.X.length p.X.length,.slice q.na p.nN p.nN]:=by simp [Pr.row,hfb]
 rw [hrow]
 obtain⟨o1,k1,n1⟩:=Za7 (m:=m) (cs:=[.slice q.ta p.L.length p.L.length,.slice (some ⟨fb,0,none⟩) p.F.length p.F.length,.int .i64 p.main,.slice q.xa p.X.length p.X.length,.slice q.na p.nN p.nN]) (e:=45) rfl
 obtain⟨pb,hpb⟩:∃ xb,m.next=xb:=⟨_,rfl⟩
 rw [hpb] at o1 n1
 obtain⟨m1,hm1⟩:∃ mF,m.new [.slice q.ta p.L.length p.L.length,.slice (some ⟨fb,0,none⟩) p.F.length p.F.length,.int .i64 p.main,.slice q.xa p.X.length p.X.length,.slice q.na p.nN p.nN] 45=mF:=⟨_,rfl⟩
 rw [hm1] at o1 k1 n1
 have lf:=hld
 simp only [Fn.row] at lf
 obtain⟨m2,hm2⟩:∃ mF,m1.newMap=mF:=⟨_,rfl⟩
 obtain⟨p2,k2,n2⟩:=Zvx hm2
 obtain⟨mp,hmp⟩:∃ xb,m1.next=xb:=⟨_,rfl⟩
 rw [hmp] at p2 n2
 obtain⟨m3,hr3,p3,k3,n3⟩:=Zvy (r:=_) rfl u3 p2 (k:=0) (v:=.slice none 0 0)
 obtain⟨o4,k4,n4⟩:=Za7 (m:=m3) (cs:=[.int .i64 0]) (e:=3) rfl
 obtain⟨tb,htb⟩:∃ xb,m3.next=xb:=⟨_,rfl⟩
 rw [htb] at o4 n4
 obtain⟨m4,hm4⟩:∃ mF,m3.new [.int .i64 0] 3=mF:=⟨_,rfl⟩
 rw [hm4] at o4 k4 n4
 obtain⟨wb,hwb⟩:∃ xb,m4.next=xb:=⟨_,rfl⟩
 have lp:∀ m',Zao m1 m' []→loadRow m' ⟨pb,0,none⟩ 5=some [.slice q.ta p.L.length p.L.length,.slice (some ⟨fb,0,none⟩) p.F.length p.F.length,.int .i64 p.main,.slice q.xa p.X.length p.X.length,.slice q.na p.nN p.nN]:=fun m' k=>(o1.keep k (by simp)).load (off:=0) 5 (by simp)
 have lp1:∀ m',Zao m1 m' []→loadRow m' ⟨pb,1,none⟩ 1=some [.slice (some ⟨fb,0,none⟩) p.F.length p.F.length]:=fun m' k=>(o1.keep k (by simp)).load1 (off:=1) rfl
 have k13:Zao m1 m3 []:=k2.fresh k3 (by simp;omega)
 have k14:=k13.trans k4
 have a1:=lp _ (Zaj _)
 have a2:=lp _ k2
 have a3:=lp _ k13
 have a4:=lp _ k14
 have b1:=lp1 _ (Zaj _)
 have b2:=lp1 _ k2
 have b3:=lp1 _ k13
 have b4:=lp1 _ k14
 have c1:=(lf _ k1).1
 have c2:=(lf _ (k1.trans k2)).1
 have c3:=(lf _ (k1.trans k13)).1
 have c4:=(lf _ (k1.trans k14)).1
 simp [-Int.natCast_add,-BitVec.toNat_or,-BitVec.toNat_ofInt,-BitVec.toNat_and,Zah b45,Zae Zbx,Za Zan,Zab Zbw,Zaa u41 Za5,Zae Zby,Zev u74,Zee u74,Zad Zg5 bs3 rfl,Zai Zkq,Zah Zt0,Za Zbm,Za Zbl,Zab Zde,Zac u22,Zaa u22 Zb8,Zae Zcb,Zag Zem,Zaf Zb8,Za Zeg,Zab Zhy,Zac Zg5,Zdm Zh0,Zga ni3,Za Zef,Zab Zo8,Zds u74 u3 Zpc,hpb,hm1,em,hi,a1,a2,a3,a4,b1,b2,b3,b4,c1,c2,c3,c4,hmp,hm2,hr3,htb,hm4,hwb,Zdf,Zc1,Zic]
 obtain⟨o5,k5,n5⟩:=Za7 (m:=m4) (cs:=[.slice q.ta p.L.length p.L.length,.slice (some ⟨fb,0,none⟩) p.F.length p.F.length,.int .i64 p.main,.slice q.xa p.X.length p.X.length,.slice q.na p.nN p.nN,.string ⟨f.nm.toArray⟩,.slice fp.pa f.ps.length f.ps.length,.int .i64 f.res,.slice fp.la f.ls.length f.ls.length,.slice fp.ca f.code.length f.code.length,.map (some mp),.slice (some ⟨tb,0,none⟩) 1 1]) (e:=104) rfl
 rw [hwb] at o5 n5
 obtain⟨m5,hm5⟩:∃ mF,m4.new [.slice q.ta p.L.length p.L.length,.slice (some ⟨fb,0,none⟩) p.F.length p.F.length,.int .i64 p.main,.slice q.xa p.X.length p.X.length,.slice q.na p.nN p.nN,.string ⟨f.nm.toArray⟩,.slice fp.pa f.ps.length f.ps.length,.int .i64 f.res,.slice fp.la f.ls.length f.ls.length,.slice fp.ca f.code.length f.code.length,.map (some mp),.slice (some ⟨tb,0,none⟩) 1 1] 104=mF:=⟨_,rfl⟩
 rw [hm5] at o5 k5 n5
 have K15:=k14.trans k5
 have Km5:=k1.trans K15
 have l9:=o5.load1 (off:=9) rfl
 have hnc:f.code.length=f.code.length:=rfl
 by_cases hc0:f.code.length=0
 ·have hc0':(f.code.length:Int)=0:=by omega
  have e:Ze6 p f=(1,0,none):=by unfold Ze6;rw [if_pos (Or.inl hc0)]
  rw [e]
  simp [-Int.natCast_add,-BitVec.toNat_or,-BitVec.toNat_ofInt,-BitVec.toNat_and,Zah b45,Zae Zbx,Za Zan,Zab Zbw,Zaa u41 Za5,Zae Zby,Zev u74,Zee u74,Zad Zg5 bs3 rfl,Zai Zkq,Zah Zt0,Za Zbm,Za Zbl,Zab Zde,Zac u22,Zaa u22 Zb8,Zae Zcb,Zag Zem,Zaf Zb8,Za Zeg,Zab Zhy,Zac Zg5,Zdm Zh0,Zga ni3,Za Zef,Zab Zo8,Zds u74 u3 Zpc,hm5,l9]
  simp [-Int.natCast_add,-BitVec.toNat_or,-BitVec.toNat_ofInt,-BitVec.toNat_and,Zah b45,Zae Zbx,Za Zan,Zab Zbw,Zaa u41 Za5,Zae Zby,Zev u74,Zee u74,Zad Zg5 bs3 rfl,Zai Zkq,Zah Zt0,Za Zbm,Za Zbl,Zab Zde,Zac u22,Zaa u22 Zb8,Zae Zcb,Zag Zem,Zaf Zb8,Za Zeg,Zab Zhy,Zac Zg5,Zdm Zh0,Zga ni3,Za Zef,Zab Zo8,Zds u74 u3 Zpc,hc0,hc0',List.length_eq_zero_iff.1 hc0,Znb]
  exact Km5
 by_cases hc4:4000 < f.code.length
 ·have hc0':¬ (f.code.length:Int)=0:=by omega
  have hc4':(4000:Int) < (f.code.length:Int):=by omega
  have e:Ze6 p f=(1,0,none):=by unfold Ze6;rw [if_pos (Or.inr hc4)]
  rw [e]
  simp [-Int.natCast_add,-BitVec.toNat_or,-BitVec.toNat_ofInt,-BitVec.toNat_and,Zah b45,Zae Zbx,Za Zan,Zab Zbw,Zaa u41 Za5,Zae Zby,Zev u74,Zee u74,Zad Zg5 bs3 rfl,Zai Zkq,Zah Zt0,Za Zbm,Za Zbl,Zab Zde,Zac u22,Zaa u22 Zb8,Zae Zcb,Zag Zem,Zaf Zb8,Za Zeg,Zab Zhy,Zac Zg5,Zdm Zh0,Zga ni3,Za Zef,Zab Zo8,Zds u74 u3 Zpc,hm5,l9,hc0,hc0',hc4,hc4',Znb]
  exact Km5
 have hc0':¬ (f.code.length:Int)=0:=by omega
 have hc4':¬ (4000:Int) < (f.code.length:Int):=by omega
 have hcl:f.code.length≤4000:=by omega
 have e:Ze6 p f=match Zqx p f.ls.length f.code.length f.code 0 with
   | some (pc,e)=>(e,pc,none)
   | none=>Zlg p f (f.code.length+1) K0 (fun _=>false):=by unfold Ze6;rw [if_neg (by omega)]
 rw [e]
 clear e
 simp [-Int.natCast_add,-BitVec.toNat_or,-BitVec.toNat_ofInt,-BitVec.toNat_and,Zah b45,Zae Zbx,Za Zan,Zab Zbw,Zaa u41 Za5,Zae Zby,Zev u74,Zee u74,Zad Zg5 bs3 rfl,Zai Zkq,Zah Zt0,Za Zbm,Za Zbl,Zab Zde,Zac u22,Zaa u22 Zb8,Zae Zcb,Zag Zem,Zaf Zb8,Za Zeg,Zab Zhy,Zac Zg5,Zdm Zh0,Zga ni3,Za Zef,Zab Zo8,Zds u74 u3 Zpc,hm5,l9,hc0,hc0',hc4,hc4']
 have hb:m.next≤wb∧m.next≤mp∧m.next≤tb:=⟨by have:=k1.1;have:=k14.1;omega,by have:=k1.1;omega,by have:=k1.1;have:=k13.1;omega⟩
 have hne1:wb≠mp:=by have:=n2;have:=n3;omega
 have hne2:tb≠mp:=by omega
 have hne3:tb≠wb:=by omega
 have hW:WkS m m5 wb mp p q f fp (some ⟨tb,0,none⟩) tb K0 (fun _=>false) [0] (fun _=>⟨none,0⟩):=by
  refine⟨h,hfn,Km5,⟨hb.1,hb.2.1,fun _=>hb.2.2⟩,⟨?_,?_,?_,fun _=>hne3⟩,?_,⟨hne1,fun _=>hne2⟩,fun x s e=>?_,fun c h0 hc=>by simp at hc;omega,by simp,fun x=>?_,fun x e=>by simp at e,fun x e=>?_,fun x s e=>?_⟩
  ·simp only [Z0l,hrow,Fn.row];exact o5
  ·simp [Z0l,Pr.row,Fn.row]
  ·exact (Sl.sr ⟨rfl,Or.inr ⟨tb,rfl,o4.keep k5 (by simp)⟩⟩)
  ·have e:Z34 (fun _=>none) 0 (some (.slice none 0 0))=gOf K0 (fun _=>⟨none,0⟩):=by
    funext x
    simp only [Z34,gOf,K0]
    by_cases e:x=0
    ·subst e;rfl
    ·rw [if_neg e]
     split
     ·rw [if_neg (by omega)];rfl
     ·rfl
   rw [← e]
   exact p3.keep (k4.trans k5) (by simp)
  ·simp only [K0] at e
   split at e
   ·cases e;exact⟨⟨rfl,Or.inl ⟨rfl,.nil⟩⟩,fun h=>absurd rfl h⟩
   ·cases e
  ·simp only [K0]
   by_cases e:x=0 <;> simp [e]
  ·simp only [K0] at e
   split at e
   ·omega
   ·cases e
  ·simp only [K0] at e
   split at e
   ·cases e;exact⟨fun t ht=>by simp at ht,by simp⟩
   ·cases e
 refine Zbg 45 [45,54,63,90,96] (fun d E mC=>∃ (k:Nat),f.code.length - k=d∧k≤f.code.length∧Zqx p f.ls.length f.code.length f.code 0=Zqx p f.ls.length f.code.length (f.code.drop k) k∧(∀ j (hj:j < f.code.length),j < k→Zfe p f.ls.length f.code.length f.code[j] j=0)∧Zao m5 mC []∧
  E=[(7,.pointer (some ⟨wb,0,none⟩)),(42,.slice fp.ca f.code.length f.code.length),(43,.int .i64 f.code.length),(44,.int .i64 k)]) _ ⟨_,⟨0,rfl,by omega,rfl,fun _ _ h=>by omega,Zaj _,rfl⟩,⟨by rfl,by rfl,by rfl,by rfl,trivial⟩⟩ ?_
 rintro d E mC ih ⟨k,hd,hk,hsb,hst,kC,rfl⟩
 have wa:=(hW.keep kC).wa
 by_cases hlt:k < f.code.length
 ·have i1:(k:Int) < f.code.length:=by omega
  have emk:(k:Int)≤9223372036854775807:=by omega
  have wi:IntKind.i64.wrap ((k:Int)+1)=((k+1:Nat):Int):=by rw [Zbh (by omega) (by omega)];omega
  obtain⟨cb,hcb,hcl2⟩:=Zih wa.fn.code hlt
  have lc:=hcl2 _ (Zaj _)
  rw [hcb]
  rw [List.drop_eq_getElem_cons hlt,Zz9] at hsb
  obtain⟨x,hx⟩:∃ x,f.code[k]=x:=⟨_,rfl⟩
  rw [hx] at lc hsb
  obtain⟨o6,k6,n6⟩:=Za7 (m:=mC) (cs:=[.int .i64 0,.int .i64 0,.int .i64 0]) (e:=40) rfl
  obtain⟨xb,hxb⟩:∃ z,mC.next=z:=⟨_,rfl⟩
  rw [hxb] at o6 n6
  obtain⟨m6,hm6⟩:∃ mF,mC.new [.int .i64 0,.int .i64 0,.int .i64 0] 40=mF:=⟨_,rfl⟩
  rw [hm6] at o6 k6 n6
  simp [-Int.natCast_add,-BitVec.toNat_or,-BitVec.toNat_ofInt,-BitVec.toNat_and,Zah b45,Zae Zbx,Za Zan,Zab Zbw,Zaa u41 Za5,Zae Zby,Zev u74,Zee u74,Zad Zg5 bs3 rfl,Zai Zkq,Zah Zt0,Za Zbm,Za Zbl,Zab Zde,Zac u22,Zaa u22 Zb8,Zae Zcb,Zag Zem,Zaf Zb8,Za Zeg,Zab Zhy,Zac Zg5,Zdm Zh0,Zga ni3,Za Zef,Zab Zo8,Zds u74 u3 Zpc,i1,emk,hlt,lc,hxb,hm6]
  generalize hra:Za8 _ _ _=ra
  obtain⟨m7,rfl,o7,k7⟩:=Za4 hra o6 (by simp) (by simp [Zbk])
  simp [Zdh] at o7
  have kC7:Zao mC m7 []:=k6.fresh k7 (by simp;omega)
  have lx:=o7.load (off:=0) 3 (by simp)
  simp [Zb] at lx
  obtain⟨m8,h8,k8⟩:=Zyl hN.w hN.name (wa.keep kC7) x (pc:=k) (by omega) (hls f hmem) (by omega)
  obtain⟨e,he⟩:∃ z,Zfe p f.ls.length f.code.length x k=z:=⟨_,rfl⟩
  rw [he] at h8 hsb
  have K8:=(kC.trans kC7).trans k8
  by_cases e0:e=0
  ·rw [if_pos e0] at hsb
   subst e0
   simp [-Int.natCast_add,-BitVec.toNat_or,-BitVec.toNat_ofInt,-BitVec.toNat_and,Zah b45,Zae Zbx,Za Zan,Zab Zbw,Zaa u41 Za5,Zae Zby,Zev u74,Zee u74,Zad Zg5 bs3 rfl,Zai Zkq,Zah Zt0,Za Zbm,Za Zbl,Zab Zde,Zac u22,Zaa u22 Zb8,Zae Zcb,Zag Zem,Zaf Zb8,Za Zeg,Zab Zhy,Zac Zg5,Zdm Zh0,Zga ni3,Za Zef,Zab Zo8,Zds u74 u3 Zpc,lx,h8,wi]
   refine ih _ _ _ _ ⟨k+1,rfl,by omega,hsb,fun j hj hjk=>?_,K8,rfl⟩ (by omega) ⟨by rfl,by rw [hcb];rfl,by rfl,by simp [Zcm],trivial⟩
   by_cases hjk2:j=k
   ·subst hjk2;rw [hx];exact he
   ·exact hst j hj (by omega)
  ·rw [if_neg e0] at hsb
   rw [hsb]
   simp [-Int.natCast_add,-BitVec.toNat_or,-BitVec.toNat_ofInt,-BitVec.toNat_and,Zah b45,Zae Zbx,Za Zan,Zab Zbw,Zaa u41 Za5,Zae Zby,Zev u74,Zee u74,Zad Zg5 bs3 rfl,Zai Zkq,Zah Zt0,Za Zbm,Za Zbl,Zab Zde,Zac u22,Zaa u22 Zb8,Zae Zcb,Zag Zem,Zaf Zb8,Za Zeg,Zab Zhy,Zac Zg5,Zdm Zh0,Zga ni3,Za Zef,Zab Zo8,Zds u74 u3 Zpc,lx,h8,e0,Znb]
   exact Km5.trans K8
 have i1:¬ (k:Int) < f.code.length:=by omega
 have hkn:k=f.code.length:=by omega
 rw [List.drop_eq_nil_of_le (by omega)] at hsb
 have hsb:Zqx p f.ls.length f.code.length f.code 0=none:=hsb
 rw [hsb]
 simp only []
 have hst:∀ j (hj:j < f.code.length),Zfe p f.ls.length f.code.length f.code[j] j=0:=fun j hj=>hst j hj (by omega)
 simp [-Int.natCast_add,-BitVec.toNat_or,-BitVec.toNat_ofInt,-BitVec.toNat_and,Zah b45,Zae Zbx,Za Zan,Zab Zbw,Zaa u41 Za5,Zae Zby,Zev u74,Zee u74,Zad Zg5 bs3 rfl,Zai Zkq,Zah Zt0,Za Zbm,Za Zbl,Zab Zde,Zac u22,Zaa u22 Zb8,Zae Zcb,Zag Zem,Zaf Zb8,Za Zeg,Zab Zhy,Zac Zg5,Zdm Zh0,Zga ni3,Za Zef,Zab Zo8,Zds u74 u3 Zpc,i1]
 clear ih
 have hWC:=hW.keep kC
 have hjmp:∀ j (hj:j < f.code.length),∀ t∈Zjj f.code[j].1 f.code[j].2.1 j,0≤t∧t < f.code.length:=by
  intro j hj
  have h0:=hst j hj
  obtain⟨x,hx⟩:∃ x,f.code[j]=x:=⟨_,rfl⟩
  rw [hx] at h0 ⊢
  unfold Zfe at h0
  split at h0
  ·cases h0
  split at h0
  ·cases h0
  split at h0
  ·cases h0
  rename_i h26
  split at h0
  ·cases h0
  rename_i hfall
  have wj:IntKind.i64.wrap ((j:Int)+1)=((j+1:Nat):Int):=by rw [Zbh (by omega) (by omega)];omega
  have hin:x.1=26∨x.1=27→0≤x.2.1∧x.2.1 < f.code.length:=by
   intro e
   rcases hh:inB x.2.1 f.code.length with _ | _
   ·exact absurd ⟨e,hh⟩ h26
   ·exact of_decide_eq_true hh
  have hnext:x.1≠26→x.1≠41→j+1 < f.code.length:=by
   intro e1 e2
   have:¬ j+1=f.code.length:=fun e=>hfall ⟨e,e1,e2⟩
   omega
  intro t ht
  unfold Zjj at ht
  rw [wj] at ht
  split at ht
  ·rename_i e
   rw [List.mem_singleton.1 ht];exact hin (Or.inl e)
  ·rename_i e26
   split at ht
   ·rename_i e27
    have:=hnext e26 (by omega)
    rcases List.mem_cons.1 ht with e | e
    ·rw [e];omega
    ·rw [List.mem_singleton.1 e];exact hin (Or.inr e27)
   ·split at ht
    ·simp at ht
    ·rename_i e41
     have:=hnext e26 e41
     rw [List.mem_singleton.1 ht];omega
 have hfresh:Zao m mC []:=Km5.trans kC
 obtain⟨wr,hwr⟩:∃ z,Zlg p f (f.code.length+1) K0 (fun _=>false)=z:=⟨_,rfl⟩
 rw [hwr]
 have hcnt0:Zyy (fun _=>false) f.code.length < f.code.length+1:=by
  unfold Zyy
  have h9:=List.length_filter_le (fun i=>!(fun _:Nat=>false) i) (List.range f.code.length)
  rw [List.length_range] at h9
  exact Nat.lt_succ_of_le h9
 refine Zbg 45 [45,54,63,90,96] (fun d E mD=>∃ (n:Nat) (K:Kn) (D:Nat→Bool) (T:List Nat) (ta:Option Addr) (fa:Nat) (A:Nat→Pl),n=d∧wr=Zlg p f n K D∧Zyy D f.code.length < n∧WkS m mD wb mp p q f fp ta fa K D T A∧E=[(7,.pointer (some ⟨wb,0,none⟩))]) _ ⟨_,⟨f.code.length+1,K0,_,_,_,_,_,rfl,hwr.symm,hcnt0,hWC,rfl⟩,⟨by rfl,trivial⟩⟩ ?_
 clear hWC kC wa hsb hcnt0 hwr
 rintro d E mD ih ⟨n,K,D,T,ta,fa,A,rfl,hwr,hcn,hWD,rfl⟩
 have ld:=hWD.h.ld
 obtain⟨n',rfl⟩:∃ n',n=n'+1:=⟨n - 1,by omega⟩
 rw [Zwi] at hwr
 by_cases hT:0 < T.length
 case neg =>
  have hT':¬ (0:Int) < (T.length:Int):=by omega
  have hT0:T=[]:=List.length_eq_zero_iff.1 (by omega)
  have hl:Ziz K D f.code.length=none:=Znw (fun y hy=>by
   rcases hd:D y with _ | _
   ·have:=(hWD.tq y).2 ⟨hy,hd⟩
    rw [hT0] at this;simp at this
   ·rfl)
  rw [hl] at hwr
  have lm:=hWD.lm
  subst hwr
  simp [-Int.natCast_add,-BitVec.toNat_or,-BitVec.toNat_ofInt,-BitVec.toNat_and,Zah b45,Zae Zbx,Za Zan,Zab Zbw,Zaa u41 Za5,Zae Zby,Zev u74,Zee u74,Zad Zg5 bs3 rfl,Zai Zkq,Zah Zt0,Za Zbm,Za Zbl,Zab Zde,Zac u22,Zaa u22 Zb8,Zae Zcb,Zag Zem,Zaf Zb8,Za Zeg,Zab Zhy,Zac Zg5,Zdm Zh0,Zga ni3,Za Zef,Zab Zo8,Zds u74 u3 Zpc,ld,hT,hT',lm,Znb]
  exact⟨⟨A,hWD.mpo,fun x s e=>⟨(hWD.row x s e).1,(hWD.kv x s e).1,(hWD.kv x s e).2⟩⟩,hWD.k0⟩
 have hT':(0:Int) < (T.length:Int):=by omega
 obtain⟨mE,pc,s,T',cp,hle2,hpc,hDpc,hKs,hWE⟩:=hWD.pop hN.c hcl hT
 have hrest:=Ztj hDpc hpc
 rw [hle2] at hwr
 simp only at hwr
 have hgd:f.code.getD pc (0,0,0)=f.code[pc]:=by simp [List.getD_eq_getElem?_getD,hpc]
 rw [hgd,hKs,Option.getD_some] at hwr
 have l9E:=hWE.wa.l9
 obtain⟨cb,hcb,hcl2⟩:=Zih hWE.wa.fn.code hpc
 rw [hcb] at l9E
 have lc:=hcl2 _ (Zaj _)
 have empc:(pc:Int)≤9223372036854775807:=by omega
 have lmE:=hWE.lm
 have hg:=hWE.mpo.get (pc:Int)
 have hgo:gOf K A (pc:Int)=some (.slice (A pc).a s.length s.length):=by simp [gOf,hKs]
 rw [hgo] at hg
 obtain⟨hrow2,hrd⟩:=hWE.row pc s hKs
 obtain⟨hsv,hsl⟩:=hWE.kv pc s hKs
 have hins:=Ztg (hst pc hpc)
 have hjp:=hjmp pc hpc
 obtain⟨vd,mF,hd2,hsr,kF⟩:=Zzf hN.w hP hWE.wa hmem (hls f hmem) f.code[pc] hins hrow2 hsv (by omega)
 have hok:=fun out (e:Zh1 p f f.code[pc] s=(0,out))=>Zw0 hP hmem hins hsl hsv e
 have hgoes:=fun bo fo out hb1 hb2 hb3=>Zyk (m:=mF) hN.g hN.c (hWE.keep kF) hcl hpc hjp (bo:=bo) (fo:=fo) (out:=out) hb1 hb2 hb3
 obtain⟨x,hx⟩:∃ x,f.code[pc]=x:=⟨_,rfl⟩
 rw [hx] at lc hd2 hsr hok hwr hjp
 simp only [hx] at hgoes
 obtain⟨r,hr⟩:∃ r,Zh1 p f x s=r:=⟨_,rfl⟩
 rw [hr] at hsr hwr
 obtain⟨e,out⟩:=r
 rcases hsr with⟨e0,bo,fo,rfl,hro,hfo⟩ | ⟨e0,rfl⟩
 case inr =>
  simp only at e0
  rw [if_pos e0] at hwr
  subst hwr
  simp [-Int.natCast_add,-BitVec.toNat_or,-BitVec.toNat_ofInt,-BitVec.toNat_and,Zah b45,Zae Zbx,Za Zan,Zab Zbw,Zaa u41 Za5,Zae Zby,Zev u74,Zee u74,Zad Zg5 bs3 rfl,Zai Zkq,Zah Zt0,Za Zbm,Za Zbl,Zab Zde,Zac u22,Zaa u22 Zb8,Zae Zcb,Zag Zem,Zaf Zb8,Za Zeg,Zab Zhy,Zac Zg5,Zdm Zh0,Zga ni3,Za Zef,Zab Zo8,Zds u74 u3 Zpc,ld,hT,hT',Zex Z4o,cp,lmE,l9E,lc,empc,hpc,hg,hd2,e0,Znb]
  exact hWE.k0.trans kF
 simp only at e0 hro
 subst e0
 have hok2:=hok out hr
 rw [if_neg (by simp)] at hwr
 simp only at hwr
 obtain⟨vg,mG,hg2,hgr⟩:=hgoes (some bo) fo out hro (fun hne=>by
  have h1:=hWE.h.own.flt
  have h2:=hWE.mpo.lt
  refine⟨by omega,by omega,fun hn=>?_⟩
  have:=hWE.h.sl.flt hn;omega) hok2.symm.symm
 rcases hgr with⟨hgn,rfl,kG⟩ | ⟨K',hgs,rfl,ta',fa',T2,A',hWG⟩
 ·rw [hgn] at hwr
  simp only at hwr
  subst hwr
  simp [-Int.natCast_add,-BitVec.toNat_or,-BitVec.toNat_ofInt,-BitVec.toNat_and,Zah b45,Zae Zbx,Za Zan,Zab Zbw,Zaa u41 Za5,Zae Zby,Zev u74,Zee u74,Zad Zg5 bs3 rfl,Zai Zkq,Zah Zt0,Za Zbm,Za Zbl,Zab Zde,Zac u22,Zaa u22 Zb8,Zae Zcb,Zag Zem,Zaf Zb8,Za Zeg,Zab Zhy,Zac Zg5,Zdm Zh0,Zga ni3,Za Zef,Zab Zo8,Zds u74 u3 Zpc,ld,hT,hT',Zex Z4o,cp,lmE,l9E,lc,empc,hpc,hg,hd2,hg2,Znb]
  exact kG
 ·rw [hgs] at hwr
  simp only at hwr
  simp [-Int.natCast_add,-BitVec.toNat_or,-BitVec.toNat_ofInt,-BitVec.toNat_and,Zah b45,Zae Zbx,Za Zan,Zab Zbw,Zaa u41 Za5,Zae Zby,Zev u74,Zee u74,Zad Zg5 bs3 rfl,Zai Zkq,Zah Zt0,Za Zbm,Za Zbl,Zab Zde,Zac u22,Zaa u22 Zb8,Zae Zcb,Zag Zem,Zaf Zb8,Za Zeg,Zab Zhy,Zac Zg5,Zdm Zh0,Zga ni3,Za Zef,Zab Zo8,Zds u74 u3 Zpc,ld,hT,hT',Zex Z4o,cp,lmE,l9E,lc,empc,hpc,hg,hd2,hg2]
  exact ih _ _ _ _ ⟨n',K',Zpb D pc,T2,ta',fa',A',rfl,hwr,by omega,hWG,rfl⟩ (by omega) ⟨by rfl,trivial⟩
end Go.Proofs.YtbldiceiindbdaaGreatDoor.base
