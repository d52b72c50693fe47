/- This text proves what ssa.Order answers, Zbx the abstract run. Condition: nothing is known of the calls ahead ('S f = []'). -/
import Derived.Test.YtcgmchechmbmeaaDoorM4
set_option linter.unusedVariables false
set_option linter.unusedSimpArgs false
section
set_option maxRecDepth 100000
namespace Go.Proofs.YtcgmchechmbmeaaDoor.base
open Go.Sh gen
variable {S:Zb4}{m:Mem}
def Zp2 (u:UnT.D):OSt:=((List.replicate (nb u) false).set 0 true,[],[(0,0)])
theorem OAt.open {m0:Mem}{u:UnT.D}{vo bo so:Option Addr}{ub sb:Nat}{sn:List Bool}(h:OAt m0 m u vo bo so ub sb none none 0 0 (sn,[],[]))(hb0:0 < nb u)(hs:sn.getD 0 false=false)(r:Option (Value × Mem))
  (hr:Zak Tryd.prog 92 (m.new [.int .i64 0,.int .i64 0] 94) (.slice none 0 0) [.int .i64 0,.int .i64 0] 1=r) :
  ∃ m1 to' tf' m2,r=some (.slice to' 1 1,m1)∧Zad m1 ⟨sb,0,none⟩ [.bool true]=some m2∧OAt m0 m2 u vo bo so ub sb none to' 0 tf' (sn.set 0 true,[],[(0,0)]):=by
 have hc:=h.cnt
 have hsl:=h.sl
 simp only [List.length_nil] at hc hsl
 obtain⟨m1,to',tf',rfl,s2,k2,c1,c2,c3⟩:=Zkh hr u92 Z9o h.st (by omega) (by simp) (by simp [Zau]) (by simp) (by simp)
 have c4:m.next≤tf':=by
  rcases c1 with⟨hn,_⟩ | c1
  ·exact absurd rfl hn
  ·exact c1
 rw [if_pos rfl] at k2
 obtain⟨m2,e2,o2,k3⟩:=Zi (h.sn.keep k2 (by simp)) (i:=0) (by simp only;omega) true
 obtain⟨f1,f2,f3,f4,f5,f6⟩:=h.fr
 obtain⟨n1,n2,n3,n4⟩:=h.ne
 have m1n:m.next≤m1.next:=k2.1
 have m2n:m1.next≤m2.next:=k3.1
 have k0:m0.next≤m.next:=h.k.1
 refine⟨m1,to',tf',m2,rfl,e2,⟨(h.own.keep k2 (by simp)).keep k3 (by simpa using n1),o2,Sl.nil _ _ _ _,s2.keep k3 (fun hn=>by simp;omega),(h.k.trans k2).fresh k3 (by simpa using f2),⟨f1,f2,by omega,by omega,fun hn=>absurd rfl hn,fun hn=>⟨by omega,by have:=s2.flt hn;omega⟩⟩,⟨n1,n2,fun _=>⟨by omega,by omega⟩,fun hn=>absurd rfl hn⟩,by simpa using hsl,?_,?_⟩⟩
 ·simp only [List.length_cons,List.length_nil]
  rw [Zh3 (by omega) hs];omega
 ·intro p hp
  simp at hp
  subst hp
  exact⟨hb0,by dsimp only;omega⟩
def Z9u (m m1:Mem)(l:List Int)(v:Value):Prop:=∃ po pf,v=.slice po l.length l.length∧Sl m1 po l.length (ints l) 3 1 pf∧(po≠none→m.next≤pf)
set_option maxHeartbeats 8000000 in
theorem Zqj (hS:S 60=[])(hB:S 54=[])(hR:S 69=[]){Q:Nat→Prop}{u:UnT.D}{vo bo so:Option Addr}(hU:UAt Q m u vo bo so)(hQ:∀ f,Q f→f < m.next)(hb0:0 < nb u)(hnb:nb u≤1000)(hnx:Zm4 u)
  {D:Nat} {O:List Int} (hO:Zln u D (Zp2 u)=some O) :
  ∃ v m1,Zaq Tryd.prog TT S 60 [.agg (Za1 u vo bo so).toArray] m=some (v,m1)∧Z9u m m1 O.reverse v∧Zaa m m1 []:=by
 obtain⟨oU,kU,nU⟩:=Zar (m:=m) (cs:=Za1 u vo bo so) (e:=29) rfl
 obtain⟨mB,hmB⟩:∃ mB,m.new (Za1 u vo bo so) 29=mB:=⟨_,rfl⟩
 obtain⟨ub,hub⟩:∃ ub,m.next=ub:=⟨_,rfl⟩
 rw [hmB,hub] at oU nU
 rw [hmB] at kU
 have u3:=oU.load1 (off:=3) rfl
 have hz:=Zid (nb u) (by omega)
 rw [Zv8] at hz
 have n1:(nb u:Int)≤9223372036854775807:=by omega
 have n2:nb u * 1≤281474976710656:=by omega
 have n3:nb u≤281474976710656:=by omega
 have n4:(0:Int) < nb u:=by omega
 obtain⟨oW,kW,nW⟩:=Zar (m:=mB) (cs:=Zc8 (List.replicate (nb u) false)) (e:=4) rfl
 obtain⟨sb,hsb⟩:∃ ob,mB.next=ob:=⟨_,rfl⟩
 obtain⟨mD,hmD⟩:∃ mD,mB.new (Zc8 (List.replicate (nb u) false)) 4=mD:=⟨_,rfl⟩
 rw [hmD,hsb] at oW nW
 rw [hmD] at kW
 have u3D:=(oU.keep kW (by simp)).load1 (off:=3) rfl
 have A0:OAt m mD u vo bo so ub sb none none 0 0 (List.replicate (nb u) false,[],[]):=⟨oU.keep kW (by simp),oW,Sl.nil _ _ _ _,Sr.nil _ _ _ _,kU.trans kW,⟨by omega,by omega,by omega,by omega,fun h=>absurd rfl h,fun h=>absurd rfl h⟩,⟨by omega,fun h=>absurd rfl h,fun h=>absurd rfl h,fun h=>absurd rfl h⟩,by simp,by simp [List.count_replicate],fun p hp=>by simp at hp⟩
 have hop:=A0.open hb0 (by simp [List.getD_eq_getElem?_getD,hb0])
 refine Zhk 9 [16,25,46,83] k60 hS rfl ?_
 simp [-Int.natCast_add,-List.map_replicate,Zbn b29,Ze7 u60 ap4,Zax Z93,Za u92 Z9s rfl,Zbb u92 Z8e,hmB,hub,u3,hz,n1,n3,hmD,hsb,u3D,hb0]
 generalize hra:Zak _ _ _ _ _ _=ra
 obtain⟨mE,to0,tf0,mF0,rfl,eF,A1⟩:=hop ra hra
 simp [-Int.natCast_add,-List.map_replicate,hb0,eF]
 refine Zag 9 [16,25,46,83] (fun d E mF=>∃ (sn:List Bool) (pl:List Int) (st:List (Nat × Nat)) (po to:Option Addr) (pf tf:Nat),OAt m mF u vo bo so ub sb po to pf tf (sn,pl,st)∧Zln u d (sn,pl,st)=some O∧
  E=[(1,.pointer (some ⟨ub,0,none⟩)),(3,.slice (some ⟨sb,0,none⟩) (nb u) (nb u)),(4,.slice po pl.length pl.length),(5,.slice to st.length st.length)]) D ⟨_,⟨_,_,_,_,_,_,_,A1,hO,rfl⟩,(by repeat' constructor)⟩ ?_
 clear A0 A1 hop hra eF
 rintro d E mF ih ⟨sn,pl,st,po,to,pf,tf,A,hd,rfl⟩
 match st,d,A,hd with
 | [],d,A,hd =>
  clear ih
  have hd':O=pl:=by
   cases d with
   | zero=>simp only [Zln,Option.some.injEq] at hd;exact hd.symm
   | succ d=>simp only [Zln] at hd;cases hd
  subst hd'
  have hcl:=Zip sn
  have hc:=A.cnt
  have hsl:=A.sl
  simp only [List.length_nil] at hc hsl
  obtain⟨v,mR,cR,sR,kR⟩:=Z4 hR A.pl (by dsimp only;omega)
  dsimp only at cR sR kR
  simp [-Int.natCast_add,-List.map_reverse,cR]
  refine⟨⟨po,pf,by simp,by simpa using sR,fun hn=>(A.fr.2.2.2.2.1 hn).1⟩,A.k.fresh kR fun f hf=>?_⟩
  split at hf
  ·simp at hf
  ·rename_i hn;simp at hf;rw [hf];exact (A.fr.2.2.2.2.1 hn).1
 | (b,i)::st,0,A,hd=>simp only [Zln] at hd;cases hd
 | (b,i)::st,d+1,A,hd =>
  have hbi:=A.ok (b,i) (by simp)
  simp only at hbi
  have hcl:=Zip sn
  have hc:=A.cnt
  have hsl:=A.sl
  simp only [List.length_cons] at hc hsl
  have s1:((st.length:Int)+1 > 0):=by omega
  have s2:(0:Int) < ((st.length+1:Nat):Int):=by omega
  have ws:IntKind.i64.wrap (((st.length+1:Nat):Int) - 1)=(st.length:Int):=by rw [Zab (by omega) (by omega)];omega
  have s3:(st.length:Int) < ((st.length+1:Nat):Int):=by omega
  have s4:(st.length:Int)≤9223372036854775807:=by omega
  have s5:st.length < st.length+1:=by omega
  obtain⟨tb,rest,hto,oT⟩:=A.st.own (by simp)
  subst hto
  simp only [List.length_cons] at ih oT ⊢
  have hl:=Zpd st
  have a0:(stC ((b,i)::st)++rest)[st.length * 2]?=some (.int .i64 (b:Int)):=by rw [Zeo,← hl];simp
  have a1:(stC ((b,i)::st)++rest)[st.length * 2+1]?=some (.int .i64 (i:Int)):=by rw [Zeo,← hl];simp
  have t0:=oT.load1 a0
  have t1:=oT.load1 a1
  obtain⟨bb,vo',no',po',hbo,ldb,_,hno',_⟩:=Zf0 (hU.keep A.k (by simp)) hbi.1
  have ldn:=Zbo (k:=3) ldb rfl
  have hbx:=hnx _ (List.getElem_mem hbi.1)
  have eb:nxD u b=(u.2.2.2.1[b]'hbi.1).2.2.2.1:=congrArg (fun x:Zct.D=>x.2.2.2.1) (Zb2 hbi.1)
  have hbx2:(nxD u b).length≤2∧∀ k∈nxD u b,(0:Int)≤k∧k < (nb u:Int):=by rw [eb];exact hbx
  rw [← eb] at ldn hno'
  have u3F:=A.own.load1 (off:=3) rfl
  have b1:(b:Int) < nb u:=by omega
  have b2:(b:Int)≤9223372036854775807:=by omega
  have hst:Zmn u (sn,pl,(b,i)::st)=if i=(nxD u b).length then (sn,pl++[(b:Int)],st) else
   if sn.getD ((nxD u b).getD i 0).toNat false=true then (sn,pl,(b,i+1)::st) else
   (sn.set ((nxD u b).getD i 0).toNat true,pl,(((nxD u b).getD i 0).toNat,0)::(b,i+1)::st):=rfl
  rw [Zln,hst] at hd
  obtain⟨l,hll⟩:∃ l,nxD u b=l:=⟨_,rfl⟩
  rw [hll] at ldn hno' hbx2 hd
  rw [hbo] at u3F
  have hpop:=fun r=>A.pop hnb (r:=r)
  by_cases hil:i=l.length
  ·have hil':(i:Int)=l.length:=by omega
   rw [if_pos hil] at hd
   simp [-Int.natCast_add,Za u22 bs3 rfl,Zbb u22 sz3,ws,s4,s5,t0,t1,u3F,b2,hbi.1,ldn,hil']
   generalize hra:Zak _ _ _ _ _ _=ra
   obtain⟨mG,b',pf',rfl,A2,_⟩:=hpop ra hra
   simp [-Int.natCast_add,Zcc u92 Z8e,ws,s4]
   exact ih _ _ _ _ ⟨sn,_,st,some ⟨b',0,none⟩,_,pf',tf,A2,hd,rfl⟩ (by omega) ⟨by rfl,by rfl,by simp [Zbv],by rfl,trivial⟩
  ·have hil':¬ (i:Int)=l.length:=by omega
   have hlt:i < l.length:=by have:=hbi.2;rw [hll] at this;omega
   have hlt1:(i:Int) < l.length:=by omega
   have i3:(i:Int)≤9223372036854775807:=by omega
   have wi:IntKind.i64.wrap ((i:Int)+1)=((i+1:Nat):Int):=by rw [Zab (by omega) (by omega)];omega
   rw [if_neg hil] at hd
   obtain⟨xb,rfl,li⟩:=hno'.get hlt
   have hkb:=hbx2.2 _ (Za6 hlt)
   obtain⟨k,hk⟩:∃ k:Nat,l.getD i 0=(k:Int):=⟨(l.getD i 0).toNat,by omega⟩
   rw [hk,Int.toNat_natCast] at hd
   rw [hk] at li hkb
   have hkn:k < nb u:=by omega
   have k1:(k:Int) < nb u:=by omega
   have k2:(k:Int)≤9223372036854775807:=by omega
   have hbt:Zas (k:Int) (nb u)=true:=by unfold Zas;simp;omega
   obtain⟨tb',mG,hto',_,_,eG,A2,_⟩:=A.inc (by rw [hll];exact hlt)
   have htb:tb'=tb:=by simpa using hto'.symm
   rw [htb] at eG
   have br:=Zgm (m:=mG) hB k (nb u)
   rw [hbt] at br
   have lsn:=A2.sn.load1 (off:=k) (Zhf (by rw [A2.sl];exact hkn))
   dsimp only at lsn
   obtain⟨q,hq⟩:∃ q,sn.getD k false=q:=⟨_,rfl⟩
   rw [hq] at lsn hd
   cases q
   ·rw [if_neg (by simp)] at hd
    obtain⟨mH,eH,hpush⟩:=A2.push hnb hkn hq
    simp only [List.length_cons] at hpush
    simp [-Int.natCast_add,-List.getD_eq_getElem?_getD,Zax Z93,Za u92 Z9s rfl,Zbb u92 Z8e,ws,s4,s5,t0,t1,u3F,b2,hbi.1,ldn,hil',li,hlt,i3,wi,eG,br,lsn,k2,hkn,eH]
    generalize hra:Zak _ _ _ _ _ _=ra
    obtain⟨mI,to',tf',rfl,A3,_⟩:=hpush ra hra
    simp [-Int.natCast_add]
    exact ih _ _ _ _ ⟨_,pl,_,po,to',pf,tf',A3,hd,rfl⟩ (by omega) (by repeat' constructor)
   ·rw [if_pos rfl] at hd
    simp [-Int.natCast_add,-List.getD_eq_getElem?_getD,ws,s4,s5,t0,t1,u3F,b2,hbi.1,ldn,hil',li,hlt,i3,wi,eG,br,lsn,k2,hkn]
    exact ih _ _ _ _ ⟨sn,pl,_,po,_,pf,tf,A2,hd,rfl⟩ (by omega) (by repeat' constructor)
end Go.Proofs.YtcgmchechmbmeaaDoor.base
end
section
set_option maxRecDepth 100000
namespace Go.Proofs.YtcgmchechmbmeaaDoor.base
open Go.Sh gen
variable {S:Zb4}{m:Mem}
def Zdl (P I:List Int):Nat→Nat→Nat→Option Nat
 | 0,a,b=>if a=b then some a else none
 | d+1,a,b=>if a=b then none else if P.getD b 0 < P.getD a 0 then Zdl P I d (I.getD a 0).toNat b else Zdl P I d a (I.getD b 0).toNat
structure DAt (m:Mem)(n ib pb ix px:Nat)(I P:List Int):Prop where
 vi:Own m ib [.slice (some ⟨ix,0,none⟩) n n] 22 ib
 vp:Own m pb [.slice (some ⟨px,0,none⟩) n n] 22 pb
 oi:Own m ix (ints I) 3 ix
 op:Own m px (ints P) 3 px
 li:I.length=n
 lp:P.length=n
 ne:ib≠pb∧ib≠ix∧ib≠px∧pb≠ix∧pb≠px∧ix≠px
theorem DAt.keep {m1:Mem}{n ib pb ix px:Nat}{I P:List Int}{fs:List Nat}(h:DAt m n ib pb ix px I P)(k:Zaa m m1 fs)(h1:ib∉fs)(h2:pb∉fs)(h3:ix∉fs)(h4:px∉fs):DAt m1 n ib pb ix px I P:=
 ⟨h.vi.keep k h1,h.vp.keep k h2,h.oi.keep k h3,h.op.keep k h4,h.li,h.lp,h.ne⟩
theorem DAt.seti {n ib pb ix px:Nat}{I P:List Int}(h:DAt m n ib pb ix px I P){i:Nat}(hi:i < n)(v:Int) :
  ∃ m1,Zad m ⟨ix,i,none⟩ [.int .i64 v]=some m1∧DAt m1 n ib pb ix px (I.set i v) P∧Zaa m m1 [ix]:=by
 obtain⟨m1,e1,o1,k1⟩:=Zfz h.oi (i:=i) (by rw [h.li];exact hi) v
 obtain⟨n1,n2,n3,n4,n5,n6⟩:=h.ne
 exact⟨m1,e1,⟨h.vi.keep k1 (by simpa using n2),h.vp.keep k1 (by simpa using n4),o1,h.op.keep k1 (by simpa using Ne.symm n6),by simpa using h.li,h.lp,h.ne⟩,k1⟩
theorem DAt.setp {n ib pb ix px:Nat}{I P:List Int}(h:DAt m n ib pb ix px I P){i:Nat}(hi:i < n)(v:Int) :
  ∃ m1,Zad m ⟨px,i,none⟩ [.int .i64 v]=some m1∧DAt m1 n ib pb ix px I (P.set i v)∧Zaa m m1 [px]:=by
 obtain⟨m1,e1,o1,k1⟩:=Zfz h.op (i:=i) (by rw [h.lp];exact hi) v
 obtain⟨n1,n2,n3,n4,n5,n6⟩:=h.ne
 exact⟨m1,e1,⟨h.vi.keep k1 (by simpa using n3),h.vp.keep k1 (by simpa using n5),h.oi.keep k1 (by simpa using n6),o1,h.li,by simpa using h.lp,h.ne⟩,k1⟩
def Z8b (n:Nat)(I:List Int):Prop:=∀ x < n,0≤I.getD x 0→I.getD x 0 < n∧0≤I.getD (I.getD x 0).toNat 0
set_option maxHeartbeats 4000000 in
theorem Z15 (hS:S 61=[]){n ib pb ix px:Nat}{I P:List Int}(h:DAt m n ib pb ix px I P)(hn:n≤1000000)(hI:Z8b n I){a b c D:Nat}(ha:a < n)(hb:b < n)(ha0:0≤I.getD a 0)(hb0:0≤I.getD b 0)(hm:Zdl P I D a b=some c) :
  Zaq Tryd.prog TT S 61 [.int .i64 (a:Int),.int .i64 (b:Int),.pointer (some ⟨pb,0,none⟩),.pointer (some ⟨ib,0,none⟩)] m=some (.int .i64 (c:Int),m):=by
 have vi:=h.vi.load1 (off:=0) rfl
 have vp:=h.vp.load1 (off:=0) rfl
 refine Zlm 7 [9,18] k61 hS rfl ?_
 simp [-Int.natCast_add]
 refine Zag 7 [9,18] (fun d E mF=>∃ (a b:Nat),mF=m∧a < n∧b < n∧0≤I.getD a 0∧0≤I.getD b 0∧Zdl P I d a b=some c∧
  E=[(0,.int .i64 (a:Int)),(1,.int .i64 (b:Int)),(2,.pointer (some ⟨pb,0,none⟩)),(3,.pointer (some ⟨ib,0,none⟩))]) D ⟨_,⟨a,b,rfl,ha,hb,ha0,hb0,hm,rfl⟩,(by repeat' constructor)⟩ ?_
 clear ha hb ha0 hb0 hm
 rintro d E mF ih ⟨a,b,rfl,ha,hb,ha0,hb0,hm,rfl⟩
 have a1:(a:Int) < n:=by omega
 have b1:(b:Int) < n:=by omega
 have a2:(a:Int)≤9223372036854775807:=by omega
 have b2:(b:Int)≤9223372036854775807:=by omega
 have pa:=h.op.load1 (off:=a) (Zcp (by rw [h.lp];exact ha))
 have pb':=h.op.load1 (off:=b) (Zcp (by rw [h.lp];exact hb))
 have ia:=h.oi.load1 (off:=a) (Zcp (by rw [h.li];exact ha))
 have ib':=h.oi.load1 (off:=b) (Zcp (by rw [h.li];exact hb))
 by_cases e:a=b
 ·subst e
  have:c=a:=by
   cases d with
   | zero=>simp only [Zdl,if_true,Option.some.injEq] at hm;exact hm.symm
   | succ d=>simp only [Zdl,if_true] at hm;cases hm
  subst this
  simp [-Int.natCast_add,-List.getD_eq_getElem?_getD]
 have e1:¬ (a:Int)=b:=by omega
 cases d with
 | zero=>simp only [Zdl,if_neg e] at hm;cases hm
 | succ d =>
  rw [Zdl,if_neg e] at hm
  have ua:=hI a ha ha0
  have ub:=hI b hb hb0
  obtain⟨a',ea⟩:∃ a':Nat,I.getD a 0=(a':Int):=⟨(I.getD a 0).toNat,by omega⟩
  obtain⟨b',eb⟩:∃ b':Nat,I.getD b 0=(b':Int):=⟨(I.getD b 0).toNat,by omega⟩
  rw [ea] at ua hm ia ha0
  rw [eb] at ub hm ib' hb0
  rw [Int.toNat_natCast] at ua ub
  rw [Int.toNat_natCast,Int.toNat_natCast] at hm
  obtain⟨x,hx⟩:∃ x,P.getD a 0=x:=⟨_,rfl⟩
  obtain⟨y,hy⟩:∃ x,P.getD b 0=x:=⟨_,rfl⟩
  rw [hx] at pa hm
  rw [hy] at pb' hm
  by_cases hxy:y < x
  ·rw [if_pos hxy] at hm
   simp [-Int.natCast_add,-List.getD_eq_getElem?_getD,e1,vp,vi,a2,b2,ha,hb,pa,pb',ia,hxy]
   exact ih _ _ _ _ ⟨a',b,rfl,by omega,hb,ua.2,by rw [eb];omega,hm,rfl⟩ (by omega) (by repeat' constructor)
  ·rw [if_neg hxy] at hm
   simp [-Int.natCast_add,-List.getD_eq_getElem?_getD,e1,vp,vi,a2,b2,ha,hb,pa,pb',ib',hxy]
   exact ih _ _ _ _ ⟨a,b',rfl,ha,by omega,by rw [ea];omega,ub.2,hm,rfl⟩ (by omega) (by repeat' constructor)
end Go.Proofs.YtcgmchechmbmeaaDoor.base
end
section
set_option maxRecDepth 100000
namespace Go.Proofs.YtcgmchechmbmeaaDoor.base
open Go.Sh gen
variable {S:Zb4}{m:Mem}
theorem Zu0 {i n:Nat}{k:Int}{L:List (List Int)}(hi:i < n)(h:∀ j,∀ a∈L.getD j [],(0:Int)≤a∧a < n)(j:Nat):∀ a∈(Zd4 i L k).getD j [],(0:Int)≤a∧a < n:=by
 unfold Zd4
 by_cases e:j=k.toNat
 ·subst e
  by_cases hj:k.toNat < L.length
  ·rw [Zdt hj]
   intro a ha
   rcases List.mem_append.1 ha with ha | ha
   ·exact h _ a ha
   ·simp at ha;omega
  ·rw [List.set_eq_of_length_le (by omega)];exact h _
 ·rw [Zdw e];exact h _
theorem Zv5 {i n:Nat}(l:List Int){L:List (List Int)}(hi:i < n)(h:∀ j,∀ a∈L.getD j [],(0:Int)≤a∧a < n):∀ j,∀ a∈(l.foldl (Zd4 i) L).getD j [],(0:Int)≤a∧a < n:=by
 induction l generalizing L with
 | nil=>exact h
 | cons k r ih=>rw [List.foldl_cons];exact ih (Zu0 (k:=k) hi h)
theorem Zwb {n:Nat}(bs:List Zct.D){i:Nat}{L:List (List Int)}(hi:i+bs.length≤n)(h:∀ j,∀ a∈L.getD j [],(0:Int)≤a∧a < n):∀ j,∀ a∈(Zdm i bs L).getD j [],(0:Int)≤a∧a < n:=by
 induction bs generalizing i L with
 | nil=>exact h
 | cons b r ih =>
  rw [List.length_cons] at hi
  rw [Zdm]
  exact ih (by omega) (Zv5 (show List Int from b.2.2.2.1) (by omega) h)
theorem Zge (u:UnT.D):∀ j,∀ a∈(Zal u).getD j [],(0:Int)≤a∧a < nb u:=by
 unfold Zal
 refine Zwb u.2.2.2.1 (by have:nb u=List.length u.2.2.2.1:=rfl;omega) fun j a ha=>?_
 rw [List.getD_eq_getElem?_getD,List.getElem?_replicate] at ha
 split at ha <;> simp at ha
def Zk9 (P I:List Int):Nat→Nat→Nat→Nat
 | 0,a,_=>a
 | k+1,a,b=>if a=b then a else if P.getD b 0 < P.getD a 0 then Zk9 P I k (I.getD a 0).toNat b else Zk9 P I k a (I.getD b 0).toNat
theorem Zrb {P I:List Int}{D a b c:Nat}(h:Zdl P I D a b=some c){N:Nat}(hN:D≤N):Zk9 P I N a b=c:=by
 induction D generalizing N a b with
 | zero =>
  rw [Zdl] at h
  split at h
  ·rename_i e
   simp only [Option.some.injEq] at h
   subst e
   cases N with
   | zero=>exact h
   | succ N=>rw [Zk9,if_pos rfl];exact h
  ·cases h
 | succ D ih =>
  rw [Zdl] at h
  split at h
  ·cases h
  ·rename_i e
   obtain⟨M,rfl⟩:∃ M,N=M+1:=⟨N - 1,by omega⟩
   rw [Zk9,if_neg e]
   split at h
   ·rename_i e2;rw [if_pos e2];exact ih h (by omega)
   ·rename_i e2;rw [if_neg e2];exact ih h (by omega)
theorem Zwq {P I:List Int}{n:Nat}(hI:Z8b n I){D a b c:Nat}(ha:a < n)(hb:b < n)(ha0:0≤I.getD a 0)(hb0:0≤I.getD b 0)(h:Zdl P I D a b=some c):c < n∧0≤I.getD c 0:=by
 induction D generalizing a b with
 | zero =>
  rw [Zdl] at h
  split at h
  ·simp only [Option.some.injEq] at h;subst h;exact⟨ha,ha0⟩
  ·cases h
 | succ D ih =>
  rw [Zdl] at h
  split at h
  ·cases h
  ·split at h
   ·exact ih (by have:=(hI a ha ha0).1;omega) hb (hI a ha ha0).2 hb0 h
   ·exact ih ha (by have:=(hI b hb hb0).1;omega) ha0 (hI b hb hb0).2 h
def Zoh (P I:List Int)(d a:Int):Int:=if I.getD a.toNat 0 < 0 then d else if d < 0 then a else (Zk9 P I (2 * I.length+2) d.toNat a.toNat:Nat)
def Zgu (u:UnT.D)(P I:List Int)(b:Nat):Int:=((Zal u).getD b []).foldl (Zoh P I) (-1)
def Zoa (u:UnT.D)(P:List Int)(s:List Int × Bool)(b:Int):List Int × Bool:=(s.1.set b.toNat (Zgu u P s.1 b.toNat),s.2 || !decide (s.1.getD b.toNat 0=Zgu u P s.1 b.toNat))
def Z0g (u:UnT.D)(P T:List Int)(s:List Int × Bool):List Int × Bool:=T.foldl (Zoa u P) s
def Zgr (u:UnT.D)(P T:List Int):Nat→List Int × Bool→Option (List Int)
 | 0,(I,ch)=>if ch=true then none else some I
 | d+1,(I,ch)=>if ch=true then Zgr u P T d (Z0g u P T (I,false)) else none
def Zhi:Nat→List Int→List Int→List Int
 | _,[],P=>P
 | i,b::r,P=>Zhi (i+1) r (P.set b.toNat (i:Int))
def Zgl (n:Nat)(O:List Int):List Int:=Zhi 0 O (List.replicate n 0)
structure Z82 (u:UnT.D)(P T:List Int)(J:Nat→List Int→Prop):Prop where
 len:∀ j I,J j I→I.length=nb u
 up:∀ j I,J j I→Z8b (nb u) I
 meet:∀ j I,J j I→∀ a b,a < nb u→b < nb u→0≤I.getD a 0→0≤I.getD b 0→∃ D c,D≤2 * I.length+2∧Zdl P I D a b=some c
 step:∀ j I,J j I→j < T.length→J (j+1) (I.set (T.getD j 0).toNat (Zgu u P I (T.getD j 0).toNat))
 next:∀ I,J T.length I→J 0 I
def Ybh (m m1:Mem)(n:Nat)(I:List Int)(v:Value):Prop:=∃ ix,v=.slice (some ⟨ix,0,none⟩) n n∧Own m1 ix (ints I) 3 ix∧m.next≤ix
structure Nd (S:Zb4):Prop where
 dom:S 40=[]
 meet:S 61=[]
 order:S 60=[]
 ahead:S 58=[]
 below:S 54=[]
 rev:S 69=[]
set_option maxHeartbeats 8000000 in
theorem Z48 (hN:Nd S){Q:Nat→Prop}{u:UnT.D}{vo bo so:Option Addr}(hU:UAt Q m u vo bo so)(hQ:∀ f,Q f→f < m.next)(hb0:0 < nb u)(hnb:nb u≤1000)(hnx:Zm4 u)
  {D:Nat} {O':List Int} (hO':Zln u D (Zp2 u)=some O') {O:List Int} (hO:O'.reverse=O) (hOn:∀ x∈O,(0:Int)≤x∧x < nb u) (hO0:O≠[]) (hOl:O.length≤1000)
  {P:List Int} (hP:Zgl (nb u) O=P) {J:Nat→List Int→Prop} (hJ:Z82 u P (O.drop 1) J) (hJ0:J 0 ((List.replicate (nb u) (-1)).set 0 0)) {D2:Nat} {I':List Int} (hD:Zgr u P (O.drop 1) D2 ((List.replicate (nb u) (-1)).set 0 0,true)=some I') :
  ∃ v m1,Zaq Tryd.prog TT S 40 [.agg (Za1 u vo bo so).toArray] m=some (v,m1)∧Ybh m m1 (nb u) (I'.set 0 (-1)) v∧Zaa m m1 []:=by
 obtain⟨oU,kU,nU⟩:=Zar (m:=m) (cs:=Za1 u vo bo so) (e:=29) rfl
 obtain⟨mB,hmB⟩:∃ mB,m.new (Za1 u vo bo so) 29=mB:=⟨_,rfl⟩
 obtain⟨ub,hub⟩:∃ ub,m.next=ub:=⟨_,rfl⟩
 rw [hmB,hub] at oU nU
 rw [hmB] at kU
 have hcu:(Za1 u vo bo so).toArray=#[.int .i64 u.1,.int .i64 u.2.1,.slice vo (nv u) (nv u),.slice bo (nb u) (nb u),.slice so (ns u) (ns u)]:=rfl
 have lu:=oU.load (off:=0) 5 (by simp)
 simp [Zao] at lu
 have hQ1:∀ f,Q f→f < mB.next:=fun f hf=>by have:=hQ f hf;omega
 obtain⟨vO,mC,cO,⟨po,pf,rfl,sO,fO⟩,kO⟩:=Zqj hN.order hN.below hN.rev (hU.keep kU (by simp)) hQ1 hb0 hnb hnx hO'
 rw [hO] at cO sO
 have lu2:=(oU.keep kO (by simp)).load (off:=0) 5 (by simp)
 simp [Zao] at lu2
 have hQ2:∀ f,Q f→f < mC.next:=fun f hf=>by have:=hQ1 f hf;have:=kO.1;omega
 obtain⟨vA,mD,cA,⟨ob,of,ao,fm,rfl,hA⟩,kA⟩:=Zq3 hN.ahead hN.below ((hU.keep kU (by simp)).keep kO (by simp)) hQ2 hnb hnx
 rw [hcu] at cO cA
 rw [Zel] at cA
 have oUD:=(oU.keep kO (by simp)).keep kA (by simp)
 have sOD:=sO.keep kA (by simp)
 have lu3:=oUD.load (off:=0) 5 (by simp)
 simp [Zao] at lu3
 have u3D:=oUD.load1 (off:=3) rfl
 have z1:=Zl8 (nb u) (by omega)
 rw [Zqg] at z1
 have z2:(nb u:Int)≤9223372036854775807:=by omega
 have z3:nb u * 8≤281474976710656:=by omega
 obtain⟨oE,kE,nE⟩:=Zar (m:=mD) (cs:=ints (List.replicate (nb u) 0)) (e:=3) rfl
 obtain⟨ix,hixe⟩:∃ b1,mD.next=b1:=⟨_,rfl⟩
 obtain⟨mE,hmE⟩:∃ mA,mD.new (ints (List.replicate (nb u) 0)) 3=mA:=⟨_,rfl⟩
 rw [hmE,hixe] at oE nE
 rw [hmE] at kE
 obtain⟨oF,kF,nF⟩:=Zar (m:=mE) (cs:=[.slice none 0 0]) (e:=22) rfl
 obtain⟨ib,hib⟩:∃ b1,mE.next=b1:=⟨_,rfl⟩
 obtain⟨mF,hmF⟩:∃ mA,mE.new [.slice none 0 0] 22=mA:=⟨_,rfl⟩
 rw [hmF,hib] at oF nF
 rw [hmF] at kF
 obtain⟨oG,kG,nG⟩:=Zar (m:=mF) (cs:=[.slice none 0 0]) (e:=22) rfl
 obtain⟨pb,hpb⟩:∃ b1,mF.next=b1:=⟨_,rfl⟩
 obtain⟨mG,hmG⟩:∃ mA,mF.new [.slice none 0 0] 22=mA:=⟨_,rfl⟩
 rw [hmG,hpb] at oG nG
 rw [hmG] at kG
 obtain⟨mH,eH,oH,kH⟩:=Zap (r:=_) rfl (oF.keep kG (by simp)) (off:=0) (vs:=[.slice (some ⟨ix,0,none⟩) (nb u) (nb u)]) (by simp) (by simp [Zae])
 simp [Zbx] at oH
 obtain⟨oI,kI,nI⟩:=Zar (m:=mH) (cs:=ints (List.replicate (nb u) 0)) (e:=3) rfl
 obtain⟨px,hpx⟩:∃ b1,mH.next=b1:=⟨_,rfl⟩
 obtain⟨mI,hmI⟩:∃ mA,mH.new (ints (List.replicate (nb u) 0)) 3=mA:=⟨_,rfl⟩
 rw [hmI,hpx] at oI nI
 rw [hmI] at kI
 have hmH:mG.next≤mH.next:=kH.1
 obtain⟨mJ,eJ,oJ,kJ⟩:=Zap (r:=_) rfl (((oG.keep kH (by simp;omega)).keep kI (by simp))) (off:=0) (vs:=[.slice (some ⟨px,0,none⟩) (nb u) (nb u)]) (by simp) (by simp [Zae])
 simp [Zbx] at oJ
 have hmJ:mI.next≤mJ.next:=kJ.1
 have ubD:ub < mD.next:=oUD.flt
 have oUE:=oUD.keep kE (by simp)
 have oUF:=oUE.keep kF (by simp)
 have oUG:=oUF.keep kG (by simp)
 have oUH:=oUG.keep kH (by simp;omega)
 have oUI:=oUH.keep kI (by simp)
 have uE:=oUE.load1 (off:=3) rfl
 have uF:=oUF.load1 (off:=3) rfl
 have uG:=oUG.load1 (off:=3) rfl
 have uH:=oUH.load1 (off:=3) rfl
 have uI:=oUI.load1 (off:=3) rfl
 have iJ:=(oH.keep kI (by simp)).keep kJ (by simp;omega)
 have i0:=iJ.load1 (off:=0) rfl
 have KDJ:Zaa mD mJ []:=Zcs (Zcs (Zcs (Zcs (Zcs kE kF (by simp)) kG (by simp)) kH (by simp;omega)) kI (by simp)) kJ (by simp;omega)
 have KJ:Zaa m mJ []:=((kU.trans kO).trans kA).trans KDJ
 have A0:DAt mJ (nb u) ib pb ix px (List.replicate (nb u) 0) (List.replicate (nb u) 0):=
  ⟨iJ,oJ,((((oE.keep kF (by simp)).keep kG (by simp)).keep kH (by simp;omega)).keep kI (by simp)).keep kJ (by simp;omega),oI.keep kJ (by simp;omega),by simp,by simp,by omega,by omega,by omega,by omega,by omega,by omega⟩
 have hOJ:Zah (fun f=>f < ix) mJ po O:=by
  refine Zah.keep ⟨pf,Zp1 sOD.rs,fun hl=>?_⟩ KDJ (by simp)
  obtain⟨b,_,o⟩:=sOD.own hl
  have:=o.flt;omega
 have hOR:∃ f,Rs mJ po O.length (O.map (Value.int .i64)) 3 1 f∧(O.length≠0→f < ix):=by
  refine⟨pf,sOD.rs.keep0 KDJ (by simp),fun hl=>?_⟩
  obtain⟨b,_,o⟩:=sOD.own hl
  have:=o.flt;omega
 have hAJ:∀ k < nb u,Zah (fun f=>f < ix) mJ (ao k) ((Zal u).getD k []):=by
  intro k hk
  have hk':k < (Zal u).length:=by rw [Zel];exact hk
  refine Zah.keep ⟨fm k,Zp1 (hA.row k hk').rs,fun hl=>?_⟩ KDJ (by simp)
  obtain⟨b,_,o⟩:=(hA.row k hk').own hl
  have:=o.flt;omega
 have hAo:=hA.own.keep KDJ (by simp)
 have ofx:of < ix:=by have:=hA.own.flt;omega
 have hAc:∀ k < nb u,(Zha ao (Zal u))[k]?=some (.slice (ao k) ((Zal u).getD k []).length ((Zal u).getD k []).length):=fun k hk=>Zdr _ (by rw [Zel];exact hk)
 have hix:m.next≤ix:=by have:=(kU.trans kO).1;have:=kA.1;omega
 have hpx':m.next≤px:=by omega
 have ixpx:ix < px:=by omega
 have hK:∀ (mX mY:Mem) (f:Nat),f=ix∨f=px→Zaa m mX []→Zaa mX mY [f]→Zaa m mY []:=fun mX mY f hf k1 k2=>k1.fresh k2 (by simp;omega)
 have hKJ:∀ (mX mY:Mem) (f:Nat),f=ix∨f=px→Zaa mJ mX [ix,px]→Zaa mX mY [f]→Zaa mJ mY [ix,px]:=fun mX mY f hf k1 k2=>k1.trans (k2.mono (by simp;omega))
 refine Zhk 71 [71,78,84,94] k40 hN.dom rfl ?_
 simp [-Int.natCast_add,-List.map_replicate,Zbn b29,Ze7 u22 ap3,hmB,hub,lu,cO,lu2,cA,u3D,z1,z2,z3,hixe,hmE,hib,hmF,hpb,hmG,eH,hpx,hmI,eJ,uE,uF,uG,uH,i0]
 clear i0 uE uF uG uH uI oUE oUF oUG oUH oUI eJ oJ oI kI nI eH oH kH oG kG nG oF kF nF oE kE nE lu lu2 lu3 u3D cO cA sOD sO hA oUD oU iJ kJ hmJ hmI
 refine Zag 71 [71,78,84,94] (fun d E mX=>∃ (i:Nat),nb u - i=d∧i≤nb u∧DAt mX (nb u) ib pb ix px (List.replicate i (-1)++List.replicate (nb u - i) 0) (List.replicate (nb u) 0)∧Zaa m mX []∧Zaa mJ mX [ix,px]∧
  E=[(3,.slice po O.length O.length),(4,.slice (some ⟨ob,0,none⟩) (nb u) (nb u)),(5,.pointer (some ⟨ib,0,none⟩)),(6,.pointer (some ⟨pb,0,none⟩)),(30,.int .i64 (nb u)),(31,.int .i64 (i:Int))]) _ ⟨_,⟨0,rfl,by omega,by simpa using A0,KJ,.refl _ _,rfl⟩,(by repeat' constructor)⟩ ?_
 clear A0
 rintro d E mX ih ⟨i,hd,hi,hX,kX,kJX,rfl⟩
 have im:(i:Int)≤9223372036854775807:=by omega
 have l5:=hX.vi.load1 (off:=0) rfl
 by_cases hlt:i < nb u
 ·have i1:(i:Int) < nb u:=by omega
  have wi:IntKind.i64.wrap ((i:Int)+1)=((i+1:Nat):Int):=by rw [Zab (by omega) (by omega)];omega
  obtain⟨mG,eG,hG,kG⟩:=hX.seti hlt (-1)
  rw [Zua _ _ _ _ hlt] at hG
  simp [-Int.natCast_add,i1,im,hlt,l5,eG,wi]
  exact ih _ _ _ _ ⟨i+1,rfl,by omega,hG,hK _ _ _ (Or.inl rfl) kX kG,hKJ _ _ _ (Or.inl rfl) kJX kG,rfl⟩ (by omega) (by repeat' constructor)
 clear ih
 have i1:¬ (i:Int) < nb u:=by omega
 have ei:i=nb u:=by omega
 rw [ei,Nat.sub_self,List.replicate_zero,List.append_nil] at hX
 have hP0:Zhi 0 O (List.replicate (nb u) 0)=P:=hP
 simp [-Int.natCast_add,-List.map_replicate,i1]
 refine Zag 71 [71,78,84,94] (fun d E mX=>∃ (i:Nat) (P1:List Int),O.length - i=d∧i≤O.length∧DAt mX (nb u) ib pb ix px (List.replicate (nb u) (-1)) P1∧Zaa m mX []∧Zaa mJ mX [ix,px]∧Zhi i (O.drop i) P1=P∧
  E=[(3,.slice po O.length O.length),(4,.slice (some ⟨ob,0,none⟩) (nb u) (nb u)),(5,.pointer (some ⟨ib,0,none⟩)),(6,.pointer (some ⟨pb,0,none⟩)),(38,.slice po O.length O.length),(39,.int .i64 O.length),(40,.int .i64 (i:Int))]) _ ⟨_,⟨0,_,rfl,by omega,hX,kX,kJX,by rw [List.drop_zero];exact hP0,rfl⟩,(by repeat' constructor)⟩ ?_
 clear hX kX kJX l5 im hi i1 ei hP0
 rintro d E mX ih ⟨i,P1,hd,hi,hX,kX,kJX,hp,rfl⟩
 have im:(i:Int)≤9223372036854775807:=by omega
 have l5:=hX.vi.load1 (off:=0) rfl
 have l6:=hX.vp.load1 (off:=0) rfl
 by_cases hlt:i < O.length
 ·have i1:(i:Int) < O.length:=by omega
  have wi:IntKind.i64.wrap ((i:Int)+1)=((i+1:Nat):Int):=by rw [Zab (by omega) (by omega)];omega
  obtain⟨xb,rfl,li⟩:=(hOJ.keep kJX (by simp;omega)).get hlt
  rw [Za7 hlt,Zhi] at hp
  have hkb:=hOn _ (Za6 hlt)
  obtain⟨k,hk⟩:∃ k:Nat,O.getD i 0=(k:Int):=⟨(O.getD i 0).toNat,by omega⟩
  rw [hk] at li hkb hp
  rw [Int.toNat_natCast] at hp
  have hkn:k < nb u:=by omega
  have k1:(k:Int) < nb u:=by omega
  have k2:(k:Int)≤9223372036854775807:=by omega
  obtain⟨mG,eG,hG,kG⟩:=hX.setp hkn (i:Int)
  simp [-Int.natCast_add,-List.getD_eq_getElem?_getD,i1,im,hlt,l6,li,k2,hkn,eG,wi]
  exact ih _ _ _ _ ⟨i+1,_,rfl,by omega,hG,hK _ _ _ (Or.inr rfl) kX kG,hKJ _ _ _ (Or.inr rfl) kJX kG,hp,rfl⟩ (by omega) (by repeat' constructor)
 clear ih
 have i1:¬ (i:Int) < O.length:=by omega
 rw [List.drop_of_length_le (by omega),Zhi] at hp
 subst hp
 have hOl0:O.length≠0:=fun e=>hO0 (List.length_eq_zero_iff.1 e)
 obtain⟨mY,eY,hY,kY⟩:=hX.seti hb0 0
 have n0:(0:Int) < nb u:=by omega
 have hOl1:¬ (O.length:Int)=0:=by omega
 simp [-Int.natCast_add,-List.map_replicate,i1,hOl0,l5,hb0,eY]
 have kY1:=hK _ _ _ (Or.inl rfl) kX kY
 have kY2:=hKJ _ _ _ (Or.inl rfl) kJX kY
 clear hX kX kJX l5 l6 im hi i1 eY kY
 refine Zag 71 [71,78,84,94] (fun d E mX=>∃ (I:List Int) (ch:Bool),DAt mX (nb u) ib pb ix px I P1∧Zaa m mX []∧Zaa mJ mX [ix,px]∧J 0 I∧Zgr u P1 (O.drop 1) d (I,ch)=some I'∧
  E=[(3,.slice po O.length O.length),(4,.slice (some ⟨ob,0,none⟩) (nb u) (nb u)),(5,.pointer (some ⟨ib,0,none⟩)),(6,.pointer (some ⟨pb,0,none⟩)),(10,.func (.func 61) #[] #[.pointer (some ⟨pb,0,none⟩),.pointer (some ⟨ib,0,none⟩)]),(11,.bool ch)]) D2 ⟨_,⟨_,true,hY,kY1,kY2,hJ0,hD,rfl⟩,(by repeat' constructor)⟩ ?_
 clear hY kY1 kY2 hJ0 hD
 rintro d E mX ih ⟨I,ch,hX,kX,kJX,hj,hd,rfl⟩
 cases ch
 case false =>
  clear ih
  have hI:I=I':=by
   cases d with
   | zero=>simp [Zgr] at hd;exact hd
   | succ d=>simp [Zgr] at hd
  subst hI
  have l5:=hX.vi.load1 (off:=0) rfl
  obtain⟨mZ,eZ,hZ,kZ⟩:=hX.seti hb0 (-1)
  have l5':=hZ.vi.load1 (off:=0) rfl
  simp [-Int.natCast_add,-List.map_set,l5,hb0,eZ,l5']
  exact⟨⟨ix,rfl,hZ.oi,by omega⟩,hK _ _ _ (Or.inl rfl) kX kZ⟩
 cases d with
 | zero=>simp [Zgr] at hd
 | succ d =>
  have hd':Zgr u P1 (O.drop 1) d (Z0g u P1 (O.drop 1) (I,false))=some I':=by simpa [Zgr] using hd
  clear hd
  obtain⟨fO',hRs,hqO⟩:=hOR
  obtain⟨xb,hpo,hRd⟩:=hRs.rdo hOl0
  have hfO:fO'∉[ix,px]:=by have:=hqO hOl0;simp;omega
  subst hpo
  have o1:(1:Int)≤O.length:=by omega
  have o2:1≤O.length:=by omega
  have o3:(O.length:Int)≤9223372036854775807:=by omega
  have el:Ze9 mX xb 3=true:=by unfold Ze9;rw [(hRd.keep kJX hfO).blk];simp
  have hTl:(O.drop 1).length=O.length - 1:=by simp
  obtain⟨n1,hn1⟩:∃ n1,O.length - 1=n1:=⟨_,rfl⟩
  rw [hn1] at hTl
  simp [-Int.natCast_add,Zcc u22 sz3,o2,el,hn1]
  have hTO:∀ j,(O.drop 1).getD j 0=O.getD (j+1) 0:=fun j=>by
   rw [List.getD_eq_getElem?_getD,List.getD_eq_getElem?_getD,List.getElem?_drop,Nat.add_comm]
  obtain⟨T,hT⟩:∃ T,O.drop 1=T:=⟨_,rfl⟩
  rw [hT] at hTl hTO hJ hd'
  refine Zag 71 [71,78,84,94] (fun d4 E mX=>∃ (i:Nat) (I:List Int) (ch:Bool),n1 - i=d4∧i≤n1∧DAt mX (nb u) ib pb ix px I P1∧Zaa m mX []∧Zaa mJ mX [ix,px]∧J i I∧Zgr u P1 T d ((T.drop i).foldl (Zoa u P1) (I,ch))=some I'∧
   E=[(3,.slice (some ⟨xb,0,none⟩) O.length O.length),(4,.slice (some ⟨ob,0,none⟩) (nb u) (nb u)),(5,.pointer (some ⟨ib,0,none⟩)),(6,.pointer (some ⟨pb,0,none⟩)),(10,.func (.func 61) #[] #[.pointer (some ⟨pb,0,none⟩),.pointer (some ⟨ib,0,none⟩)]),(11,.bool ch),(59,.slice (some ⟨xb,1,none⟩) n1 n1),(60,.int .i64 (n1:Int)),(61,.int .i64 (i:Int))]) _ ⟨_,⟨0,I,false,rfl,by omega,hX,kX,kJX,hj,by rw [List.drop_zero];exact hd',rfl⟩,(by repeat' constructor)⟩ ?_
  clear hX kX kJX hj hd' el I
  rintro d4 E mX ih4 ⟨i,I,ch,hd4,hi,hX,kX,kJX,hj,hd',rfl⟩
  have im:(i:Int)≤9223372036854775807:=by omega
  by_cases hit:i < n1
  ·have i1:(i:Int) < n1:=by omega
   have wi:IntKind.i64.wrap ((i:Int)+1)=((i+1:Nat):Int):=by rw [Zab (by omega) (by omega)];omega
   have lO:=(hRd.keep kJX hfO).load1 (off:=i+1) (Zcp (by omega))
   rw [← hTO i] at lO
   have lO':=lO
   rw [Nat.add_comm] at lO'
   rw [Za7 (show i < T.length by omega),List.foldl_cons] at hd'
   have hstep:=hJ.step i I hj (by omega)
   have hTm:T.getD i 0∈O:=by rw [hTO];exact Za6 (by omega)
   have hkb:=hOn _ hTm
   obtain⟨b,hb⟩:∃ k:Nat,T.getD i 0=(k:Int):=⟨(T.getD i 0).toNat,by omega⟩
   rw [hb] at lO lO' hkb hd' hstep
   rw [Int.toNat_natCast] at hstep
   have eB:Zoa u P1 (I,ch) (b:Int)=(I.set b (Zgu u P1 I b),ch || !decide (I.getD b 0=Zgu u P1 I b)):=by unfold Zoa;rw [Int.toNat_natCast]
   rw [eB] at hd'
   have hbn:b < nb u:=by omega
   have b1:(b:Int) < nb u:=by omega
   have b2:(b:Int)≤9223372036854775807:=by omega
   have hIl:=hJ.len i I hj
   have hIu:=hJ.up i I hj
   have hIm:=hJ.meet i I hj
   have lrow:=(hAo.keep kJX (by simp;omega)).load1 (off:=b) (hAc b hbn)
   have hrow:=(hAJ b hbn).keep kJX (by simp;omega)
   have hrl:((Zal u).getD b []).length≤1000000:=Zkl hnx hnb b
   have hrb:∀ a∈(Zal u).getD b [],(0:Int)≤a∧a < nb u:=Zge u b
   have hDD:((Zal u).getD b []).foldl (Zoh P1 I) (-1)=Zgu u P1 I b:=rfl
   obtain⟨l,hl⟩:∃ l,(Zal u).getD b []=l:=⟨_,rfl⟩
   rw [hl] at lrow hrow hrl hrb hDD
   obtain⟨DD,hDe⟩:∃ DD,Zgu u P1 I b=DD:=⟨_,rfl⟩
   rw [hDe] at hDD hd' hstep
   simp [-Int.natCast_add,-List.getD_eq_getElem?_getD,i1,im,hit,lO',b2,hbn,lrow]
   refine Zag 71 [71,78,84,94] (fun d5 E mY=>∃ (j:Nat) (dd:Int),l.length - j=d5∧j≤l.length∧mY=mX∧(-1:Int)≤dd∧dd < nb u∧(0≤dd→0≤I.getD dd.toNat 0)∧(l.drop j).foldl (Zoh P1 I) dd=DD∧
    E=[(3,.slice (some ⟨xb,0,none⟩) O.length O.length),(4,.slice (some ⟨ob,0,none⟩) (nb u) (nb u)),(5,.pointer (some ⟨ib,0,none⟩)),(6,.pointer (some ⟨pb,0,none⟩)),(10,.func (.func 61) #[] #[.pointer (some ⟨pb,0,none⟩),.pointer (some ⟨ib,0,none⟩)]),(11,.bool ch),(13,.int .i64 (b:Int)),(14,.int .i64 dd),(59,.slice (some ⟨xb,1,none⟩) n1 n1),(60,.int .i64 (n1:Int)),(61,.int .i64 (i:Int)),(68,.slice (ao b) l.length l.length),(69,.int .i64 l.length),(70,.int .i64 (j:Int))]) _ ⟨_,⟨0,-1,rfl,by omega,rfl,by omega,by omega,by omega,by rw [List.drop_zero];exact hDD,rfl⟩,(by repeat' constructor)⟩ ?_
   rintro d5 E mY ih5 ⟨j,dd,hd5,hj5,rfl,hd1,hd2,hd3,hfo,rfl⟩
   have jm:(j:Int)≤9223372036854775807:=by omega
   have l5:=hX.vi.load1 (off:=0) rfl
   by_cases hjt:j < l.length
   ·have j1:(j:Int) < l.length:=by omega
    have wj:IntKind.i64.wrap ((j:Int)+1)=((j+1:Nat):Int):=by rw [Zab (by omega) (by omega)];omega
    obtain⟨yb,hyb,lj⟩:=hrow.get hjt
    rw [hyb] at ih5 ⊢
    rw [Za7 hjt,List.foldl_cons] at hfo
    have hab:=hrb _ (Za6 hjt)
    obtain⟨a,ha⟩:∃ k:Nat,l.getD j 0=(k:Int):=⟨(l.getD j 0).toNat,by omega⟩
    rw [ha] at lj hab hfo
    have han:a < nb u:=by omega
    have a1:(a:Int) < nb u:=by omega
    have a2:(a:Int)≤9223372036854775807:=by omega
    have la:=hX.oi.load1 (off:=a) (Zcp (by omega))
    have eS:Zoh P1 I dd (a:Int)=if I.getD a 0 < 0 then dd else if dd < 0 then (a:Int) else (Zk9 P1 I (2 * I.length+2) dd.toNat a:Nat):=by unfold Zoh;rw [Int.toNat_natCast]
    rw [eS] at hfo
    by_cases hia:I.getD a 0 < 0
    ·rw [if_pos hia] at hfo
     simp [-Int.natCast_add,-List.getD_eq_getElem?_getD,j1,jm,hjt,lj,a2,han,l5,la,hia,wj]
     exact ih5 _ _ _ _ ⟨j+1,dd,rfl,by omega,rfl,hd1,hd2,hd3,hfo,rfl⟩ (by omega) (by repeat' constructor)
    rw [if_neg hia] at hfo
    by_cases hdd:dd < 0
    ·rw [if_pos hdd] at hfo
     simp [-Int.natCast_add,-List.getD_eq_getElem?_getD,j1,jm,hjt,lj,a2,han,l5,la,hia,hdd,wj]
     exact ih5 _ _ _ _ ⟨j+1,(a:Int),rfl,by omega,rfl,by omega,by omega,fun _=>by rw [Int.toNat_natCast];omega,hfo,rfl⟩ (by omega) (by repeat' constructor)
    rw [if_neg hdd] at hfo
    obtain⟨q,rfl⟩:∃ q:Nat,dd=(q:Int):=⟨dd.toNat,by omega⟩
    rw [Int.toNat_natCast] at hfo hd3
    have hqn:q < nb u:=by omega
    obtain⟨DM,c,hDM,hme⟩:=hIm q a hqn han (hd3 (by omega)) (by omega)
    have hgo:=Zrb hme hDM
    rw [hgo] at hfo
    have hcu:=Zwq hIu hqn han (hd3 (by omega)) (by omega) hme
    have cm:=Z15 hN.meet hX (by omega) hIu hqn han (hd3 (by omega)) (by omega) hme
    simp [-Int.natCast_add,-List.getD_eq_getElem?_getD,j1,jm,hjt,lj,a2,han,l5,la,hia,hdd,cm,wj]
    exact ih5 _ _ _ _ ⟨j+1,(c:Int),rfl,by omega,rfl,by omega,by omega,fun _=>by rw [Int.toNat_natCast];exact hcu.2,hfo,rfl⟩ (by omega) (by repeat' constructor)
   clear ih5
   have j1:¬ (j:Int) < l.length:=by omega
   rw [List.drop_of_length_le (show l.length≤j by omega),List.foldl_nil] at hfo
   subst hfo
   have lb:=hX.oi.load1 (off:=b) (Zcp (by omega))
   obtain⟨mW,eW,hW,kW⟩:=hX.seti hbn dd
   obtain⟨wv,hwv⟩:∃ w,I.getD b 0=w:=⟨_,rfl⟩
   rw [hwv] at lb hd'
   by_cases hbd:wv=dd
   ·have hset:I.set b dd=I:=by
     rw [← hbd,← hwv]
     apply Zih (by simp)
     intro k hk
     rw [Zbd _ _ _ _ (by omega)]
     split
     ·rename_i e;rw [e]
     ·rfl
    have:(!decide (wv=dd))=false:=by simp [hbd]
    rw [this,Bool.or_false,hset] at hd'
    rw [hset] at hstep
    simp [-Int.natCast_add,-List.getD_eq_getElem?_getD,j1,l5,b2,hbn,lb,hbd,wi]
    exact ih4 _ _ _ _ ⟨i+1,I,ch,rfl,by omega,hX,kX,kJX,hstep,hd',rfl⟩ (by omega) (by repeat' constructor)
   ·have:(!decide (wv=dd))=true:=by simp [hbd]
    rw [this,Bool.or_true] at hd'
    simp [-Int.natCast_add,-List.getD_eq_getElem?_getD,j1,l5,b2,hbn,lb,hbd,eW,wi]
    exact ih4 _ _ _ _ ⟨i+1,_,true,rfl,by omega,hW,hK _ _ _ (Or.inl rfl) kX kW,hKJ _ _ _ (Or.inl rfl) kJX kW,hstep,hd',rfl⟩ (by omega) (by repeat' constructor)
  ·clear ih4
   have i1:¬ (i:Int) < n1:=by omega
   have ei:i=T.length:=by omega
   rw [ei] at hj
   rw [List.drop_of_length_le (by omega),List.foldl_nil] at hd'
   simp [-Int.natCast_add,-List.getD_eq_getElem?_getD,i1]
   exact ih _ _ _ _ ⟨I,ch,hX,kX,kJX,hJ.next I hj,by rw [hT];exact hd',rfl⟩ (by omega) (by repeat' constructor)
end Go.Proofs.YtcgmchechmbmeaaDoor.base
end
