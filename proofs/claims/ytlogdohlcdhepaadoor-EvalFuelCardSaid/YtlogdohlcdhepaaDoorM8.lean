/- This text proves what ssa.Order answers, Zb5 the abstract run. Condition: nothing is known of the calls ahead ('S f = []'). -/
import Derived.Test.YtlogdohlcdhepaaDoorM7
set_option linter.unusedVariables false
set_option linter.unusedSimpArgs false
section
set_option maxRecDepth 100000
namespace Go.Proofs.YtlogdohlcdhepaaDoor.base
open Go.Sh gen
variable {S:Zc}{m:Mem}
def Zqs (u:UnT.D):OSt:=((List.replicate (nb u) false).set 0 true,[],[(0,0)])
theorem OAt.open {m0:Mem}{u:UnT.D}{vo bo so:Option Addr}{ub sb:Nat}{sn:List Bool}(h:OAt m0 m u vo bo so ub sb none none 0 0 (sn,[],[]))(hb0:0 < nb u)(hs:sn.getD 0 false=false)(r:Option (Value × Mem))
  (hr:Zax Tryd.prog 122 (m.new [.int .i64 0,.int .i64 0] 124) (.slice none 0 0) [.int .i64 0,.int .i64 0] 1=r) :
  ∃ m1 to' tf' m2,r=some (.slice to' 1 1,m1)∧Zaj m1 ⟨sb,0,none⟩ [.bool true]=some m2∧OAt m0 m2 u vo bo so ub sb none to' 0 tf' (sn.set 0 true,[],[(0,0)]):=by
 have hc:=h.cnt
 have hsl:=h.sl
 simp only [List.length_nil] at hc hsl
 obtain⟨m1,to',tf',rfl,s2,k2,c1,c2,c3⟩:=Zku hr Zt7 Z8b h.st (by omega) (by simp) (by simp [Zau]) (by simp) (by simp)
 have c4:m.next≤tf':=by
  rcases c1 with⟨hn,_⟩ | c1
  ·exact absurd rfl hn
  ·exact c1
 rw [if_pos rfl] at k2
 obtain⟨m2,e2,o2,k3⟩:=Zvw (h.sn.keep k2 (by simp)) (i:=0) (by simp only;omega) true
 obtain⟨f1,f2,f3,f4,f5,f6⟩:=h.fr
 obtain⟨n1,n2,n3,n4⟩:=h.ne
 have m1n:m.next≤m1.next:=k2.1
 have m2n:m1.next≤m2.next:=k3.1
 have k0:m0.next≤m.next:=h.k.1
 refine⟨m1,to',tf',m2,rfl,e2,⟨(h.own.keep k2 (by simp)).keep k3 (by simpa using n1),o2,Sl.nil _ _ _ _,s2.keep k3 (fun hn=>by simp;omega),(h.k.trans k2).fresh k3 (by simpa using f2),⟨f1,f2,by omega,by omega,fun hn=>absurd rfl hn,fun hn=>⟨by omega,by have:=s2.flt hn;omega⟩⟩,⟨n1,n2,fun _=>⟨by omega,by omega⟩,fun hn=>absurd rfl hn⟩,by simpa using hsl,?_,?_⟩⟩
 ·simp only [List.length_cons,List.length_nil]
  rw [Zh4 (by omega) hs];omega
 ·intro p hp
  simp at hp
  subst hp
  exact⟨hb0,by dsimp only;omega⟩
def Ycb (m m1:Mem)(l:List Int)(v:Value):Prop:=∃ po pf,v=.slice po l.length l.length∧Sl m1 po l.length (ints l) 3 1 pf∧(po≠none→m.next≤pf)
set_option maxHeartbeats 8000000 in
theorem Zst (hS:S 72=[])(hB:S 65=[])(hR:S 82=[]){Q:Nat→Prop}{u:UnT.D}{vo bo so:Option Addr}(hU:UAt Q m u vo bo so)(hQ:∀ f,Q f→f < m.next)(hb0:0 < nb u)(hnb:nb u≤1000)(hnx:Zvc u)
  {D:Nat} {O:List Int} (hO:Zl6 u D (Zqs u)=some O) :
  ∃ v m1,Zal Tryd.prog TT S 72 [.agg (Zcj u vo bo so).toArray] m=some (v,m1)∧Ycb m m1 O.reverse v∧Zag m m1 []:=by
 obtain⟨oU,kU,nU⟩:=Zay (m:=m) (cs:=Zcj u vo bo so) (e:=34) rfl
 obtain⟨mB,hmB⟩:∃ mB,m.new (Zcj u vo bo so) 34=mB:=⟨_,rfl⟩
 obtain⟨ub,hub⟩:∃ ub,m.next=ub:=⟨_,rfl⟩
 rw [hmB,hub] at oU nU
 rw [hmB] at kU
 have u3:=oU.load1 (off:=3) rfl
 have hz:=Zx0 (nb u) (by omega)
 rw [Zw5] at hz
 have n1:(nb u:Int)≤9223372036854775807:=by omega
 have n2:nb u * 1≤281474976710656:=by omega
 have n3:nb u≤281474976710656:=by omega
 have n4:(0:Int) < nb u:=by omega
 obtain⟨oW,kW,nW⟩:=Zay (m:=mB) (cs:=Zoc (List.replicate (nb u) false)) (e:=4) rfl
 obtain⟨sb,hsb⟩:∃ ob,mB.next=ob:=⟨_,rfl⟩
 obtain⟨mD,hmD⟩:∃ mD,mB.new (Zoc (List.replicate (nb u) false)) 4=mD:=⟨_,rfl⟩
 rw [hmD,hsb] at oW nW
 rw [hmD] at kW
 have u3D:=(oU.keep kW (by simp)).load1 (off:=3) rfl
 have A0:OAt m mD u vo bo so ub sb none none 0 0 (List.replicate (nb u) false,[],[]):=⟨oU.keep kW (by simp),oW,Sl.nil _ _ _ _,Sr.nil _ _ _ _,kU.trans kW,⟨by omega,by omega,by omega,by omega,fun h=>absurd rfl h,fun h=>absurd rfl h⟩,⟨by omega,fun h=>absurd rfl h,fun h=>absurd rfl h,fun h=>absurd rfl h⟩,by simp,by simp [List.count_replicate],fun p hp=>by simp at hp⟩
 have hop:=A0.open hb0 (by simp [List.getD_eq_getElem?_getD,hb0])
 refine Zfz 9 [16,25,46,83] k72 hS rfl ?_
 simp [-Int.natCast_add,-List.map_replicate,Zdh b34,Za Zbl,Zaa Zgb,Zac u31,Znh Z8a ap4,Za2 Z8f,Zae Zt7 Z8m rfl,Zbe Zt7 Zw6,hmB,hub,u3,hz,n1,n3,hmD,hsb,u3D,hb0]
 generalize hra:Zax _ _ _ _ _ _=ra
 obtain⟨mE,to0,tf0,mF0,rfl,eF,A1⟩:=hop ra hra
 simp [-Int.natCast_add,-List.map_replicate,Zab Z8a sz4,Zad sz4,hb0,eF]
 refine Zaq 9 [16,25,46,83] (fun d E mF=>∃ (sn:List Bool) (pl:List Int) (st:List (Nat × Nat)) (po to:Option Addr) (pf tf:Nat),OAt m mF u vo bo so ub sb po to pf tf (sn,pl,st)∧Zl6 u d (sn,pl,st)=some O∧
  E=[(1,.pointer (some ⟨ub,0,none⟩)),(3,.slice (some ⟨sb,0,none⟩) (nb u) (nb u)),(4,.slice po pl.length pl.length),(5,.slice to st.length st.length)]) D ⟨_,⟨_,_,_,_,_,_,_,A1,hO,rfl⟩,⟨by rfl,by rfl,by rfl,by rfl,trivial⟩⟩ ?_
 clear A0 A1 hop hra eF
 rintro d E mF ih ⟨sn,pl,st,po,to,pf,tf,A,hd,rfl⟩
 match st,d,A,hd with
 | [],d,A,hd =>
  clear ih
  have hd':O=pl:=by
   cases d with
   | zero=>simp only [Zl6,Option.some.injEq] at hd;exact hd.symm
   | succ d=>simp only [Zl6] at hd;cases hd
  subst hd'
  have hcl:=Zil sn
  have hc:=A.cnt
  have hsl:=A.sl
  simp only [List.length_nil] at hc hsl
  obtain⟨v,mR,cR,sR,kR⟩:=Z5h hR A.pl (by dsimp only;omega)
  dsimp only at cR sR kR
  simp [-Int.natCast_add,-List.map_reverse,Zac Zt7,cR]
  refine⟨⟨po,pf,by simp,by simpa using sR,fun hn=>(A.fr.2.2.2.2.1 hn).1⟩,A.k.fresh kR fun f hf=>?_⟩
  split at hf
  ·simp at hf
  ·rename_i hn;simp at hf;rw [hf];exact (A.fr.2.2.2.2.1 hn).1
 | (b,i)::st,0,A,hd=>simp only [Zl6] at hd;cases hd
 | (b,i)::st,d+1,A,hd =>
  have hbi:=A.ok (b,i) (by simp)
  simp only at hbi
  have hcl:=Zil sn
  have hc:=A.cnt
  have hsl:=A.sl
  simp only [List.length_cons] at hc hsl
  have s1:((st.length:Int)+1 > 0):=by omega
  have s2:(0:Int) < ((st.length+1:Nat):Int):=by omega
  have ws:IntKind.i64.wrap (((st.length+1:Nat):Int) - 1)=(st.length:Int):=by rw [Zaf (by omega) (by omega)];omega
  have s3:(st.length:Int) < ((st.length+1:Nat):Int):=by omega
  have s4:(st.length:Int)≤9223372036854775807:=by omega
  have s5:st.length < st.length+1:=by omega
  obtain⟨tb,rest,hto,oT⟩:=A.st.own (by simp)
  subst hto
  simp only [List.length_cons] at ih oT ⊢
  have hl:=Zpl st
  have a0:(stC ((b,i)::st)++rest)[st.length * 2]?=some (.int .i64 (b:Int)):=by rw [Ze6,← hl];simp
  have a1:(stC ((b,i)::st)++rest)[st.length * 2+1]?=some (.int .i64 (i:Int)):=by rw [Ze6,← hl];simp
  have t0:=oT.load1 a0
  have t1:=oT.load1 a1
  obtain⟨bb,vo',no',po',hbo,ldb,_,hno',_⟩:=Zh0 (hU.keep A.k (by simp)) hbi.1
  have ldn:=Zcd (k:=3) ldb rfl
  have hbx:=hnx _ (List.getElem_mem hbi.1)
  have eb:nxD u b=(u.2.2.2.1[b]'hbi.1).2.2.2.1:=congrArg (fun x:Zf9.D=>x.2.2.2.1) (Zcz hbi.1)
  have hbx2:(nxD u b).length≤2∧∀ k∈nxD u b,(0:Int)≤k∧k < (nb u:Int):=by rw [eb];exact hbx
  rw [← eb] at ldn hno'
  have u3F:=A.own.load1 (off:=3) rfl
  have b1:(b:Int) < nb u:=by omega
  have b2:(b:Int)≤9223372036854775807:=by omega
  have hst:Zm7 u (sn,pl,(b,i)::st)=if i=(nxD u b).length then (sn,pl++[(b:Int)],st) else
   if sn.getD ((nxD u b).getD i 0).toNat false=true then (sn,pl,(b,i+1)::st) else
   (sn.set ((nxD u b).getD i 0).toNat true,pl,(((nxD u b).getD i 0).toNat,0)::(b,i+1)::st):=rfl
  rw [Zl6,hst] at hd
  obtain⟨l,hll⟩:∃ l,nxD u b=l:=⟨_,rfl⟩
  rw [hll] at ldn hno' hbx2 hd
  rw [hbo] at u3F
  have hpop:=fun r=>A.pop hnb (r:=r)
  by_cases hil:i=l.length
  ·have hil':(i:Int)=l.length:=by omega
   rw [if_pos hil] at hd
   simp [-Int.natCast_add,Za Zbl,Zaa Zgb,Zac Zt7,Zab Zt7 Zw6,Za Ztx,Zaa ld3,Zab u31 Zje,Za Zhu,Zaa Zb3,Za Zty,Zac u36,Zae u36 bs3 rfl,Zbe u36 sz3,ws,s4,s5,t0,t1,u3F,b2,hbi.1,ldn,hil']
   generalize hra:Zax _ _ _ _ _ _=ra
   obtain⟨mG,b',pf',rfl,A2,_⟩:=hpop ra hra
   simp [-Int.natCast_add,Zac Zt7,Zc9 Zt7 Zw6,ws,s4]
   exact ih _ _ _ _ ⟨sn,_,st,some ⟨b',0,none⟩,_,pf',tf,A2,hd,rfl⟩ (by omega) ⟨by rfl,by rfl,by simp [Zb4],by rfl,trivial⟩
  ·have hil':¬ (i:Int)=l.length:=by omega
   have hlt:i < l.length:=by have:=hbi.2;rw [hll] at this;omega
   have hlt1:(i:Int) < l.length:=by omega
   have i3:(i:Int)≤9223372036854775807:=by omega
   have wi:IntKind.i64.wrap ((i:Int)+1)=((i+1:Nat):Int):=by rw [Zaf (by omega) (by omega)];omega
   rw [if_neg hil] at hd
   obtain⟨xb,rfl,li⟩:=hno'.get hlt
   have hkb:=hbx2.2 _ (Za8 hlt)
   obtain⟨k,hk⟩:∃ k:Nat,l.getD i 0=(k:Int):=⟨(l.getD i 0).toNat,by omega⟩
   rw [hk,Int.toNat_natCast] at hd
   rw [hk] at li hkb
   have hkn:k < nb u:=by omega
   have k1:(k:Int) < nb u:=by omega
   have k2:(k:Int)≤9223372036854775807:=by omega
   have hbt:Zcf (k:Int) (nb u)=true:=by unfold Zcf;simp;omega
   obtain⟨tb',mG,hto',_,_,eG,A2,_⟩:=A.inc (by rw [hll];exact hlt)
   have htb:tb'=tb:=by simpa using hto'.symm
   rw [htb] at eG
   have br:=Zg6 (m:=mG) hB k (nb u)
   rw [hbt] at br
   have lsn:=A2.sn.load1 (off:=k) (Z4 (by rw [A2.sl];exact hkn))
   dsimp only at lsn
   obtain⟨q,hq⟩:∃ q,sn.getD k false=q:=⟨_,rfl⟩
   rw [hq] at lsn hd
   cases q
   ·rw [if_neg (by simp)] at hd
    obtain⟨mH,eH,hpush⟩:=A2.push hnb hkn hq
    simp only [List.length_cons] at hpush
    simp [-Int.natCast_add,-List.getD_eq_getElem?_getD,Za Zbl,Zaa Zgb,Za2 Z8f,Zae Zt7 Z8m rfl,Zbe Zt7 Zw6,Zab Z8a sz4,Zad sz4,Zac Zt7,Zab Zt7 Zw6,Za Ztx,Zaa ld3,Zab u31 Zje,Za Zhu,Zaa Zb3,Za Zty,Zac u36,Zab u36 sz3,Zad sz3,Zac Z8a,Zaa ld4,ws,s4,s5,t0,t1,u3F,b2,hbi.1,ldn,hil',li,hlt,i3,wi,eG,br,lsn,k2,hkn,eH]
    generalize hra:Zax _ _ _ _ _ _=ra
    obtain⟨mI,to',tf',rfl,A3,_⟩:=hpush ra hra
    simp [-Int.natCast_add]
    exact ih _ _ _ _ ⟨_,pl,_,po,to',pf,tf',A3,hd,rfl⟩ (by omega) ⟨by rfl,by rfl,by rfl,by rfl,trivial⟩
   ·rw [if_pos rfl] at hd
    simp [-Int.natCast_add,-List.getD_eq_getElem?_getD,Za Zbl,Zaa Zgb,Zab Z8a sz4,Zac Zt7,Zab Zt7 Zw6,Za Ztx,Zaa ld3,Zab u31 Zje,Za Zhu,Zaa Zb3,Za Zty,Zac u36,Zab u36 sz3,Zad sz3,Zac Z8a,Zaa ld4,ws,s4,s5,t0,t1,u3F,b2,hbi.1,ldn,hil',li,hlt,i3,wi,eG,br,lsn,k2,hkn]
    exact ih _ _ _ _ ⟨sn,pl,_,po,_,pf,tf,A2,hd,rfl⟩ (by omega) ⟨by rfl,by rfl,by rfl,by rfl,trivial⟩
end Go.Proofs.YtlogdohlcdhepaaDoor.base
end
section
set_option maxRecDepth 100000
namespace Go.Proofs.YtlogdohlcdhepaaDoor.base
open Go.Sh gen
variable {S:Zc}{m:Mem}
def Zdz (P I:List Int):Nat→Nat→Nat→Option Nat
 | 0,a,b=>if a=b then some a else none
 | d+1,a,b=>if a=b then none else if P.getD b 0 < P.getD a 0 then Zdz P I d (I.getD a 0).toNat b else Zdz P I d a (I.getD b 0).toNat
structure DAt (m:Mem)(n ib pb ix px:Nat)(I P:List Int):Prop where
 vi:Own m ib [.slice (some ⟨ix,0,none⟩) n n] 36 ib
 vp:Own m pb [.slice (some ⟨px,0,none⟩) n n] 36 pb
 oi:Own m ix (ints I) 3 ix
 op:Own m px (ints P) 3 px
 li:I.length=n
 lp:P.length=n
 ne:ib≠pb∧ib≠ix∧ib≠px∧pb≠ix∧pb≠px∧ix≠px
theorem DAt.keep {m1:Mem}{n ib pb ix px:Nat}{I P:List Int}{fs:List Nat}(h:DAt m n ib pb ix px I P)(k:Zag m m1 fs)(h1:ib∉fs)(h2:pb∉fs)(h3:ix∉fs)(h4:px∉fs):DAt m1 n ib pb ix px I P:=
 ⟨h.vi.keep k h1,h.vp.keep k h2,h.oi.keep k h3,h.op.keep k h4,h.li,h.lp,h.ne⟩
theorem DAt.seti {n ib pb ix px:Nat}{I P:List Int}(h:DAt m n ib pb ix px I P){i:Nat}(hi:i < n)(v:Int) :
  ∃ m1,Zaj m ⟨ix,i,none⟩ [.int .i64 v]=some m1∧DAt m1 n ib pb ix px (I.set i v) P∧Zag m m1 [ix]:=by
 obtain⟨m1,e1,o1,k1⟩:=Zij h.oi (i:=i) (by rw [h.li];exact hi) v
 obtain⟨n1,n2,n3,n4,n5,n6⟩:=h.ne
 exact⟨m1,e1,⟨h.vi.keep k1 (by simpa using n2),h.vp.keep k1 (by simpa using n4),o1,h.op.keep k1 (by simpa using Ne.symm n6),by simpa using h.li,h.lp,h.ne⟩,k1⟩
theorem DAt.setp {n ib pb ix px:Nat}{I P:List Int}(h:DAt m n ib pb ix px I P){i:Nat}(hi:i < n)(v:Int) :
  ∃ m1,Zaj m ⟨px,i,none⟩ [.int .i64 v]=some m1∧DAt m1 n ib pb ix px I (P.set i v)∧Zag m m1 [px]:=by
 obtain⟨m1,e1,o1,k1⟩:=Zij h.op (i:=i) (by rw [h.lp];exact hi) v
 obtain⟨n1,n2,n3,n4,n5,n6⟩:=h.ne
 exact⟨m1,e1,⟨h.vi.keep k1 (by simpa using n3),h.vp.keep k1 (by simpa using n5),h.oi.keep k1 (by simpa using n6),o1,h.li,by simpa using h.lp,h.ne⟩,k1⟩
def Yao (n:Nat)(I:List Int):Prop:=∀ x < n,0≤I.getD x 0→I.getD x 0 < n∧0≤I.getD (I.getD x 0).toNat 0
set_option maxHeartbeats 4000000 in
theorem Z16 (hS:S 73=[]){n ib pb ix px:Nat}{I P:List Int}(h:DAt m n ib pb ix px I P)(hn:n≤1000000)(hI:Yao n I){a b c D:Nat}(ha:a < n)(hb:b < n)(ha0:0≤I.getD a 0)(hb0:0≤I.getD b 0)(hm:Zdz P I D a b=some c) :
  Zal Tryd.prog TT S 73 [.int .i64 (a:Int),.int .i64 (b:Int),.pointer (some ⟨pb,0,none⟩),.pointer (some ⟨ib,0,none⟩)] m=some (.int .i64 (c:Int),m):=by
 have vi:=h.vi.load1 (off:=0) rfl
 have vp:=h.vp.load1 (off:=0) rfl
 refine Zb9 7 [9,18] k73 hS rfl ?_
 simp [-Int.natCast_add]
 refine Zaq 7 [9,18] (fun d E mF=>∃ (a b:Nat),mF=m∧a < n∧b < n∧0≤I.getD a 0∧0≤I.getD b 0∧Zdz P I d a b=some c∧
  E=[(0,.int .i64 (a:Int)),(1,.int .i64 (b:Int)),(2,.pointer (some ⟨pb,0,none⟩)),(3,.pointer (some ⟨ib,0,none⟩))]) D ⟨_,⟨a,b,rfl,ha,hb,ha0,hb0,hm,rfl⟩,⟨by rfl,by rfl,by rfl,by rfl,trivial⟩⟩ ?_
 clear ha hb ha0 hb0 hm
 rintro d E mF ih ⟨a,b,rfl,ha,hb,ha0,hb0,hm,rfl⟩
 have a1:(a:Int) < n:=by omega
 have b1:(b:Int) < n:=by omega
 have a2:(a:Int)≤9223372036854775807:=by omega
 have b2:(b:Int)≤9223372036854775807:=by omega
 have pa:=h.op.load1 (off:=a) (Zc1 (by rw [h.lp];exact ha))
 have pb':=h.op.load1 (off:=b) (Zc1 (by rw [h.lp];exact hb))
 have ia:=h.oi.load1 (off:=a) (Zc1 (by rw [h.li];exact ha))
 have ib':=h.oi.load1 (off:=b) (Zc1 (by rw [h.li];exact hb))
 by_cases e:a=b
 ·subst e
  have:c=a:=by
   cases d with
   | zero=>simp only [Zdz,if_true,Option.some.injEq] at hm;exact hm.symm
   | succ d=>simp only [Zdz,if_true] at hm;cases hm
  subst this
  simp [-Int.natCast_add,-List.getD_eq_getElem?_getD]
 have e1:¬ (a:Int)=b:=by omega
 cases d with
 | zero=>simp only [Zdz,if_neg e] at hm;cases hm
 | succ d =>
  rw [Zdz,if_neg e] at hm
  have ua:=hI a ha ha0
  have ub:=hI b hb hb0
  obtain⟨a',ea⟩:∃ a':Nat,I.getD a 0=(a':Int):=⟨(I.getD a 0).toNat,by omega⟩
  obtain⟨b',eb⟩:∃ b':Nat,I.getD b 0=(b':Int):=⟨(I.getD b 0).toNat,by omega⟩
  rw [ea] at ua hm ia ha0
  rw [eb] at ub hm ib' hb0
  rw [Int.toNat_natCast] at ua ub
  rw [Int.toNat_natCast,Int.toNat_natCast] at hm
  obtain⟨x,hx⟩:∃ x,P.getD a 0=x:=⟨_,rfl⟩
  obtain⟨y,hy⟩:∃ x,P.getD b 0=x:=⟨_,rfl⟩
  rw [hx] at pa hm
  rw [hy] at pb' hm
  by_cases hxy:y < x
  ·rw [if_pos hxy] at hm
   simp [-Int.natCast_add,-List.getD_eq_getElem?_getD,Zaa Zb3,Zab u36 sz3,Zaa ld3,e1,vp,vi,a2,b2,ha,hb,pa,pb',ia,hxy]
   exact ih _ _ _ _ ⟨a',b,rfl,by omega,hb,ua.2,by rw [eb];omega,hm,rfl⟩ (by omega) ⟨by rfl,by rfl,by rfl,by rfl,trivial⟩
  ·rw [if_neg hxy] at hm
   simp [-Int.natCast_add,-List.getD_eq_getElem?_getD,Zaa Zb3,Zab u36 sz3,Zaa ld3,e1,vp,vi,a2,b2,ha,hb,pa,pb',ib',hxy]
   exact ih _ _ _ _ ⟨a,b',rfl,ha,by omega,by rw [ea];omega,ub.2,hm,rfl⟩ (by omega) ⟨by rfl,by rfl,by rfl,by rfl,trivial⟩
end Go.Proofs.YtlogdohlcdhepaaDoor.base
end
