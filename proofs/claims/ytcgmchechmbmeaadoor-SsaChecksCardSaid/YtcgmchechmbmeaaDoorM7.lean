/- This text proves what ssa.Check answers, Zb1 the abstract run, where the order's way and the dominators' rounds come to an end. Condition: nothing is known of the calls ahead ('S f = []') but ssa.Name's answers. -/
import Derived.Test.YtcgmchechmbmeaaDoorM6
set_option linter.unusedVariables false
set_option linter.unusedSimpArgs false
section
set_option maxRecDepth 100000
namespace Go.Proofs.YtcgmchechmbmeaaDoor.base
open Go.Sh gen
variable {S:Zb7}{m:Mem}
def Zjp (u:UnT.D):Option StS:=
 if Zi1 u && Zsw u then (Zcf u).filter fun s=>Zqk u s.1 && Zms u && Zns u else none
def Zhy (u:UnT.D)(O I:List Int):Bool:=match Zjp u with
 | none=>false
 | some s=>decide (O.length=nb u) && Zdm (Zia u s.1 s.2.1 I) 0 (nb u)
structure Zye (u:UnT.D)(O I:List Int):Prop where
 ord:∃ D O',Zls u D (Zqd u)=some O'∧O'.reverse=O
 on:O.length=nb u→∀ x∈O,(0:Int)≤x∧x < nb u
 dom:O.length=nb u→∃ J D2 I',Z9h u (Zgz (nb u) O) (O.drop 1) J∧J 0 ((List.replicate (nb u) (-1)).set 0 0)∧Zgr u (Zgz (nb u) O) (O.drop 1) D2 ((List.replicate (nb u) (-1)).set 0 0,true)=some I'∧I=I'.set 0 (-1)
 ii:O.length=nb u→I.length=nb u∧∀ x < nb u,I.getD x 0 < nb u
 up:O.length=nb u→∀ (a:Int) (b:Nat),b < nb u→∃ d,d < nb u+2∧Zlo I a d b=some (upF I a (nb u+2) b)
structure Nk (S:Zb7):Prop where
 check:S 11=[]
 all:S 33=[]
 state:S 34=[]
 stand:S 35=[]
 ends:S 37=[]
 om:S 39=[]
 c:Nc S
 l:Nl S
 d:Nd S
 t:Nt S
theorem Z7c (hN:Nk S){Q:Nat→Prop}{u:UnT.D}{vo bo so:Option Addr}(hU:UAt Q m u vo bo so)(hQ:∀ f,Q f→f < m.next)(hb0:0 < nb u)(hnb:nb u≤1000)(hnx:Znc u)
  {D:Nat} {O:List Int} (hO:Zls u D (Zqd u)=some O) {cb cf:Nat} {r1 r2 r3:Value} (hC:Own m cb (ckC u vo bo so r1 r2 r3) 70 cf) :
  ∃ v m1,Zaq Tryd.prog TT S 39 [.pointer (some ⟨cb,0,none⟩)] m=some (v,m1)∧Yac m m1 O.reverse v∧Zaa m m1 []:=by
 have lu:=hC.load (off:=0) 5 (by simp)
 simp [Zap] at lu
 have hcu:(Za3 u vo bo so).toArray=#[.int .i64 u.1,.int .i64 u.2.1,.slice vo (nv u) (nv u),.slice bo (nb u) (nb u),.slice so (ns u) (ns u)]:=rfl
 obtain⟨v,m1,c1,p1,k1⟩:=Zrb hN.d.order hN.d.below hN.d.rev hU hQ hb0 hnb hnx hO
 rw [hcu] at c1
 refine Zho 3 [] k39 hN.om rfl ?_
 simp [-Int.natCast_add,-List.map_reverse,lu,c1]
 exact⟨p1,k1⟩
set_option maxHeartbeats 16000000 in
theorem Zzn (hN:Nk S){Q:Nat→Prop}{u:UnT.D}{vo bo so:Option Addr}(hU:UAt Q m u vo bo so)(hQ:∀ f,Q f→f < m.next)(hz:Zmq u)(hzv:nv u≤20000000000000)(hzb:nb u≤20000000000000)(hzs:ns u≤20000000000000){O I:List Int}(hT:∀ s,Zjp u=some s→Zye u O I) :
  ∃ v m1,Zaq Tryd.prog TT S 11 [.agg (Za3 u vo bo so).toArray] m=some (v,m1)∧v=.bool (Zhy u O I)∧Zaa m m1 []:=by
 obtain⟨oU,kU,nU⟩:=Zas (m:=m) (cs:=Za3 u vo bo so) (e:=29) rfl
 obtain⟨mB,hmB⟩:∃ mB,m.new (Za3 u vo bo so) 29=mB:=⟨_,rfl⟩
 obtain⟨ub,hub⟩:∃ ub,m.next=ub:=⟨_,rfl⟩
 rw [hmB,hub] at oU nU
 rw [hmB] at kU
 have u2:=oU.load1 (off:=2) rfl
 have u3:=oU.load1 (off:=3) rfl
 have u4:=oU.load1 (off:=4) rfl
 have lu:=oU.load (off:=0) 5 (by simp)
 simp [Zap] at lu
 obtain⟨R,hR⟩:∃ R,Zhy u O I=R:=⟨_,rfl⟩
 rw [hR]
 have hno:Zjp u=none→R=false:=fun h=>by rw [← hR];unfold Zhy;rw [h]
 refine Zho 5 [26,72,80] k11 hN.check rfl ?_
 have hcu:(Za3 u vo bo so).toArray=#[.int .i64 u.1,.int .i64 u.2.1,.slice vo (nv u) (nv u),.slice bo (nb u) (nb u),.slice so (ns u) (ns u)]:=rfl
 by_cases q1:3000 < nv u
 ·have q1':(3000:Int) < nv u:=by omega
  have:R=false:=hno (by unfold Zjp Zi1;simp [q1])
  rw [this]
  simp [-Int.natCast_add,Zbw b29,hmB,hub,u2,q1']
  exact kU
 have q1':¬ (3000:Int) < nv u:=by omega
 by_cases q2:300 < nb u
 ·have q2':(300:Int) < nb u:=by omega
  have:R=false:=hno (by unfold Zjp Zi1;simp [q2])
  rw [this]
  simp [-Int.natCast_add,Zbw b29,hmB,hub,u2,u3,q1',q2']
  exact kU
 have q2':¬ (300:Int) < nb u:=by omega
 by_cases q3:1000 < ns u
 ·have q3':(1000:Int) < ns u:=by omega
  have:R=false:=hno (by unfold Zjp Zi1;simp [q3])
  rw [this]
  simp [-Int.natCast_add,Zbw b29,hmB,hub,u2,u3,u4,q1',q2',q3']
  exact kU
 have q3':¬ (1000:Int) < ns u:=by omega
 by_cases q4:nb u=0
 ·have:R=false:=hno (by unfold Zjp Zi1;simp [q4])
  rw [this]
  simp [-Int.natCast_add,Zbw b29,hmB,hub,u2,u3,u4,q1',q3',q4]
  exact kU
 have q4':¬ (nb u:Int)=0:=by omega
 have hsz:Zi1 u=true:=by unfold Zi1;rw [decide_eq_false q1,decide_eq_false q2,decide_eq_false q3,decide_eq_false q4];rfl
 obtain⟨oK,kK,nK⟩:=Zas (m:=mB) (cs:=ckC u vo bo so (.slice none 0 0) (.slice none 0 0) (.slice none 0 0)) (e:=70) rfl
 obtain⟨mK,hmK⟩:∃ mZ,mB.new (ckC u vo bo so (.slice none 0 0) (.slice none 0 0) (.slice none 0 0)) 70=mZ:=⟨_,rfl⟩
 obtain⟨cb,hcb⟩:∃ ub,mB.next=ub:=⟨_,rfl⟩
 rw [hmK,hcb] at oK nK
 rw [hmK] at kK
 have KK:=kU.trans kK
 have hUK:=hU.keep KK (by simp)
 have hQK:∀ f,Q f→f < cb:=fun f hf=>by have:=hQ f hf;omega
 have hqc:¬ Q cb:=fun h=>by have:=hQK _ h;omega
 have oUK:=oU.keep kK (by simp)
 have uK4:=oUK.load1 (off:=4) rfl
 simp [-Int.natCast_add,-w11_4,Zbw b29,Za2 Ycm,Zbw b70,hmB,hub,u2,u3,u4,q1',q2',q3',q4,lu,hmK,hcb]
 clear u2 u3 u4 lu
 have ubc:ub≠cb:=by omega
 obtain⟨_,m1,c1,rfl,k1⟩:=Zmh (m:=mK) (g:=34) (cb:=cb) (n:=ns u) hN.all (by omega) (fun i=>Zd9 u (stD u i)) (fun i mF hi kF=>by
  obtain⟨_,mG,cG,rfl,kG⟩:=Zz1 hN.state hN.c.there hN.c.below (hUK.keep kF (by simp)) (by omega) (oK.keep kF (by simp)) hi (by omega) (Zi4 hi).symm (by rw [Zi4 hi];exact (hz.s _ (List.getElem_mem hi)).1) (by rw [Zi4 hi];exact (hz.s _ (List.getElem_mem hi)).2)
  exact⟨mG,cG,kG⟩)
 have hst:Zsw u=Zdm (fun i=>Zd9 u (stD u i)) 0 (ns u):=rfl
 rw [← hst] at c1
 have K1:=KK.trans k1
 cases hsa:Zsw u
 ·rw [hsa] at c1
  have:R=false:=hno (by unfold Zjp;rw [hsa];simp)
  rw [this]
  simp [-Int.natCast_add,uK4,c1]
  exact K1
 rw [hsa] at c1
 have o1:=oK.keep k1 (by simp)
 have hU1:=hU.keep K1 (by simp)
 obtain⟨_,m2,c2,⟨rfl,hst2⟩,k2⟩:=Zys hN.stand hN.c.below hU1 (fun f hf=>by have:=hQ f hf;have:=K1.1;omega) (by omega) (by omega) o1 hqc (fun b hb=>(hz.b b hb).1)
 have K2:Zaa m m2 []:=K1.fresh k2 (by simp;omega)
 cases hsf:Zcf u with
 | none =>
  rw [hsf] at c2
  have:R=false:=hno (by unfold Zjp;rw [hsf];simp)
  rw [this]
  simp [-Int.natCast_add,uK4,c1,c2]
  exact K2
 | some s =>
  rw [hsf] at c2
  obtain⟨b1,b2,f1,f2,C2,hf1,hf2⟩:=hst2 s hsf
  have hSo:=Ze5 hsf
  have oU2:=(oUK.keep k1 (by simp)).keep k2 (by simp;omega)
  have uu2:=oU2.load1 (off:=2) rfl
  have hU2:=hU.keep K2 (by simp)
  obtain⟨_,m3,c3,rfl,k3⟩:=Zmh (m:=m2) (g:=36) (cb:=cb) (n:=nv u) hN.all (by omega) (Zva u s.1) (fun i mF hi kF=>by
   obtain⟨_,mG,cG,rfl,kG⟩:=Z4x hN.c (hU2.keep kF (by simp)) (by omega) (by omega) (by omega) (C2.keep0 kF) hSo.lb hSo.bb hi (hz.v _ (Zg1 hi))
   exact⟨mG,cG,kG⟩)
  have hvl:Zqk u s.1=Zdm (Zva u s.1) 0 (nv u):=rfl
  rw [← hvl] at c3
  have K3:=K2.trans k3
  cases hva:Zqk u s.1
  ·rw [hva] at c3
   have:R=false:=hno (by unfold Zjp;rw [hsf,hsz,hsa];simp [Option.filter,hva])
   rw [this]
   simp [-Int.natCast_add,uK4,c1,c2,uu2,c3]
   exact K3
  rw [hva] at c3
  have oU3:=oU2.keep k3 (by simp)
  have uu3:=oU3.load1 (off:=3) rfl
  have hU3:=hU.keep K3 (by simp)
  have C3:=C2.keep0 k3
  obtain⟨_,m4,c4,rfl,k4⟩:=Zmh (m:=m3) (g:=37) (cb:=cb) (n:=nb u) hN.all (by omega) (fun i=>Zht u (Zcl u i)) (fun i mF hi kF=>by
   obtain⟨_,mG,cG,rfl,kG⟩:=Z0y hN.ends hN.c.there hN.c.below (hU3.keep kF (by simp)) (by omega) (by omega) ((C3.keep0 kF).c) hi (Zb4 hi).symm (hz.b _ (Zfk hi)).2.1
   exact⟨mG,cG,kG⟩)
  have hel:Zms u=Zdm (fun i=>Zht u (Zcl u i)) 0 (nb u):=rfl
  rw [← hel] at c4
  have K4:=K3.trans k4
  cases hea:Zms u
  ·rw [hea] at c4
   have:R=false:=hno (by unfold Zjp;rw [hsf,hsz,hsa];simp [Option.filter,hva,hea])
   rw [this]
   simp [-Int.natCast_add,uK4,c1,c2,uu2,c3,uu3,c4]
   exact K4
  rw [hea] at c4
  have oU4:=oU3.keep k4 (by simp)
  have vv3:=oU4.load1 (off:=3) rfl
  have hU4:=hU.keep K4 (by simp)
  have C4:=C3.keep0 k4
  have hnx:=Zng hea
  obtain⟨_,m5,c5,rfl,k5⟩:=Zmh (m:=m4) (g:=38) (cb:=cb) (n:=nb u) hN.all (by omega) (Zxk u) (fun i mF hi kF=>by
   obtain⟨_,mG,cG,rfl,kG⟩:=Z3p hN.l (hU4.keep kF (by simp)) (fun f hf=>by have:=hQ f hf;have:=K4.1;have:=kF.1;omega) (by omega) hnx (fun b hb=>(hz.b b hb).2.2) ((C4.keep0 kF).c) hi
   exact⟨mG,cG,kG⟩)
  have hll:Zns u=Zdm (Zxk u) 0 (nb u):=rfl
  rw [← hll] at c5
  have K5:=K4.trans k5
  cases hla:Zns u
  ·rw [hla] at c5
   have:R=false:=hno (by unfold Zjp;rw [hsf,hsz,hsa];simp [Option.filter,hva,hea,hla])
   rw [this]
   simp [-Int.natCast_add,uK4,c1,c2,uu2,c3,uu3,c4,vv3,c5]
   exact K5
  rw [hla] at c5
  have hpre:Zjp u=some s:=by unfold Zjp;rw [hsf,hsz,hsa];simp [Option.filter,hva,hea,hla]
  simp [-Int.natCast_add,-w11_6,uK4,c1,c2,uu2,c3,uu3,c4,vv3,c5]
  clear c1 c2 c3 c4 c5 uK4 uu2 uu3 vv3
  have oU5:=oU4.keep k5 (by simp)
  have hU5:=hU.keep K5 (by simp)
  have C5:=C4.keep0 k5
  have hTm:=hT s hpre
  obtain⟨D,O',hO',hOO⟩:=hTm.ord
  obtain⟨vO,m6,c6,⟨po,pf,rfl,_,_⟩,k6⟩:=Z7c (O:=O') hN hU5 (fun f hf=>by have:=hQ f hf;have:=K5.1;omega) (by omega) (by omega) hnx hO' C5.c
  rw [hOO] at c6
  have oU6:=oU5.keep k6 (by simp)
  have w3:=oU6.load1 (off:=3) rfl
  have wu:=oU6.load (off:=0) 5 (by simp)
  simp [Zap] at wu
  have hU6:=hU5.keep k6 (by simp)
  have C6:=C5.keep0 k6
  have K6:=K5.trans k6
  by_cases hOl:O.length=nb u
  case neg =>
   have hOl':¬ (O.length:Int)=nb u:=by omega
   have:R=false:=by rw [← hR];unfold Zhy;rw [hpre];simp [hOl]
   rw [this]
   simp [-Int.natCast_add,c6,w3,hOl']
   exact K6
  have hOl':(O.length:Int)=nb u:=by omega
  have hOle:((O.length:Int)=nb u)↔True:=by simp [hOl']
  obtain⟨J,D2,I',hJ,hJ0,hD,hI⟩:=hTm.dom hOl
  obtain⟨hIl,hIi⟩:=hTm.ii hOl
  obtain⟨vD,m7,c7,⟨ix,rfl,hix,hixm⟩,k7⟩:=Z3y hN.d hU6 (fun f hf=>by have:=hQ f hf;have:=K6.1;omega) (by omega) (by omega) hnx hO' hOO (hTm.on hOl) (fun e=>by rw [e] at hOl;simp at hOl;omega) (by omega) rfl hJ hJ0 hD
  rw [← hI] at hix
  rw [hcu] at c7
  have K7:=K6.trans k7
  have C7:=C6.keep0 k7
  have cb6:cb < m6.next:=C6.c.flt
  obtain⟨m8,e8,o8,k8⟩:=Zao (r:=_) rfl C7.c (off:=7) (vs:=[.slice (some ⟨ix,0,none⟩) (nb u) (nb u)]) (by simp) (by simp [Zae])
  simp [Zb1] at o8
  have K8:Zaa m m8 []:=K7.fresh k8 (by simp;omega)
  have C8:Ck3 m8 u vo bo so cb cb b1 b2 f1 f2 ix s.1 s.2.1 I:=⟨⟨C7.o1.keep k8 (by simpa using C7.n2),C7.o2.keep k8 (by simpa using C7.n3),o8,C7.n1,C7.n2,C7.n3⟩,hix.keep k8 (by simp;omega)⟩
  have hU8:=hU.keep K8 (by simp)
  have oU8:=(oU6.keep k7 (by simp)).keep k8 (by simp;omega)
  have x3:=oU8.load1 (off:=3) rfl
  have hRk:Rok u s.1 s.2.1 I:=⟨hSo.lb,hSo.lp,hIl,hSo.bb,hIi,hTm.up hOl⟩
  have hTk:=Z4k hz hsz hsa hsf hva hea hla
  obtain⟨_,m9,c9,rfl,k9⟩:=Zmh (m:=m8) (g:=41) (cb:=cb) (n:=nb u) hN.all (by omega) (Zia u s.1 s.2.1 I) (fun i mF hi kF=>by
   obtain⟨_,mG,cG,rfl,kG⟩:=Zx3 hN.t (hU8.keep kF (by simp)) (C8.keep0 kF) hRk (by omega) (by omega) (by omega) hTk hi
   exact⟨mG,cG,kG⟩)
  have hfin:R=Zdm (Zia u s.1 s.2.1 I) 0 (nb u):=by rw [← hR];unfold Zhy;rw [hpre];simp [hOl]
  rw [← hfin] at c9
  simp [-Int.natCast_add,c6,w3,hOle,wu,c7,e8,x3,c9]
  exact K8.trans k9
end Go.Proofs.YtcgmchechmbmeaaDoor.base
end
section
set_option maxRecDepth 100000
namespace Go.Proofs.YtcgmchechmbmeaaDoor.base
open Go.Sh gen
variable {S:Zb7}{m:Mem}
theorem Zib (hS:S 51=[])(k n:Int):Zaq Tryd.prog TT S 51 [.int .i64 k,.int .i64 n] m=some (.bool (Zat k n),m):=by
 refine Zlx 5 [] k51 hS rfl ?_
 by_cases h1:0≤k
 ·simp [h1,Zat]
 ·simp [h1,Zat]
def Zgl (op:Int):Bool:=decide (op < 19) || decide (op=21)
theorem Znk (hS:S 52=[])(op:Int):Zaq Tryd.prog TT S 52 [.int .i64 op] m=some (.bool (Zgl op),m):=by
 refine Zlx 3 [] k52 hS rfl ?_
 by_cases h1:op < 19
 ·simp [h1,Zgl]
 ·simp [h1,Zgl]
theorem Z6k {op:Int}(h:Zc9 op=true)(h20:op≠20):op=3∨op=4∨op=5∨op=6∨op=7∨op=10∨op=11∨op=12∨op=13∨op=14∨op=18∨op=19:=by
 simp [Zc9] at h;omega
theorem Z8e {op:Int}(h:Zgd op=true):op=8∨op=9∨op=15∨op=16∨op=17∨op=22:=by
 simp [Zgd] at h;omega
theorem Zp7 {m:Mem}{Q:Nat→Prop}(l:List Int)(hQ:Q m.next):Zag Q (m.new (ints l) 3) (some ⟨m.next,0,none⟩) l:=⟨m.next,Zpg (Z7t l l.length rfl),fun _=>hQ⟩
theorem Zag.mono {Q Q':Nat→Prop}{ao:Option Addr}{l:List Int}(h:Zag Q m ao l)(hq:∀ f,Q f→Q' f):Zag Q' m ao l:=by
 obtain⟨f,h1,h2⟩:=h
 exact⟨f,h1,fun hn=>hq _ (h2 hn)⟩
theorem Zag.nil {Q:Nat→Prop}:Zag Q m none []:=⟨0,Zpg (Sl.nil m 3 1 0).rs,fun h=>absurd rfl h⟩
def Yb8 (Q:Nat→Prop)(m m1:Mem)(l:List Int)(v:Value):Prop:=∃ ao,v=.slice ao l.length l.length∧Zag (fun f=>Q f∨m.next≤f) m1 ao l
set_option maxHeartbeats 4000000 in
theorem Zqh (hS:S 17=[]){Q:Nat→Prop}{op a b n st:Int}{l:List Int}{ao:Option Addr}(hl:l.length≤9223372036854775807)(hr:Zag Q m ao l) :
  ∃ v m1,Zaq Tryd.prog TT S 17 [.agg #[.int .i64 op,.int .i64 a,.int .i64 b,.int .i64 n,.slice ao l.length l.length,.int .i64 st]] m=some (v,m1)∧Yb8 Q m m1 (Zcs op a b l) v∧Zaa m m1 []:=by
 obtain⟨N,hN⟩:∃ N,l.length=N:=⟨_,rfl⟩
 rw [hN] at hl ⊢
 obtain⟨o1,k1,n1⟩:=Zas (m:=m) (cs:=[.int .i64 op,.int .i64 a,.int .i64 b,.int .i64 n,.slice ao N N,.int .i64 st]) (e:=43) rfl
 obtain⟨m1,hm1⟩:∃ m1,m.new [.int .i64 op,.int .i64 a,.int .i64 b,.int .i64 n,.slice ao N N,.int .i64 st] 43=m1:=⟨_,rfl⟩
 obtain⟨vb,hvb⟩:∃ vb,m.next=vb:=⟨_,rfl⟩
 rw [hm1] at k1
 rw [hm1,hvb] at o1 n1
 have l0:=o1.load1 (off:=0) rfl
 have l1:=o1.load1 (off:=1) rfl
 have l2:=o1.load1 (off:=2) rfl
 have l4:=o1.load1 (off:=4) rfl
 have kn:=k1.1
 have two:∃ m2,m1.new (ints [a,b]) 3=m2∧Zag (fun f=>Q f∨m.next≤f) m2 (some ⟨m1.next,0,none⟩) [a,b]∧Zaa m m2 []:=by
  obtain⟨o2,k2,n2⟩:=Zas (m:=m1) (cs:=ints [a,b]) (e:=3) rfl
  exact⟨_,rfl,Zp7 [a,b] (Or.inr (by omega)),k1.trans k2⟩
 obtain⟨m2,hm2,i2,k2⟩:=two
 have one:∃ m3,m1.new (ints [a]) 3=m3∧Zag (fun f=>Q f∨m.next≤f) m3 (some ⟨m1.next,0,none⟩) [a]∧Zaa m m3 []:=by
  obtain⟨o2,k2,n2⟩:=Zas (m:=m1) (cs:=ints [a]) (e:=3) rfl
  exact⟨_,rfl,Zp7 [a] (Or.inr (by omega)),k1.trans k2⟩
 obtain⟨m3,hm3,i3,k3⟩:=one
 obtain⟨bb,hbb⟩:∃ bb,m1.next=bb:=⟨_,rfl⟩
 rw [hbb] at i2 i3
 simp only [ints,List.map_cons,List.map_nil] at hm2 hm3
 refine Zho 5 [5,5,5,5,5,5,5,5,5,5,5,5,23,23,23,23,23,23,33,38,53] k17 hS rfl ?_
 by_cases h20:op=20
 ·subst h20
  by_cases hl0:N=0
  ·subst hl0
   have el:l=[]:=List.length_eq_zero_iff.1 hN
   have eu:Zcs 20 a b l=[a,b]:=by rw [el];rfl
   rw [eu]
   simp [-Int.natCast_add,Zbw b43,Za u22 bs3 rfl,hm1,hvb,l0,l1,l2,l4,hm2,hbb]
   exact⟨⟨_,rfl,i2⟩,k2⟩
  ·have hl0':¬ (N:Int)=0:=by omega
   have hl1:(0:Int) < N:=by omega
   have hl2:0 < N:=by omega
   obtain⟨rb,rfl,ld⟩:=(hr.keep k1 (by simp)).get (show 0 < l.length by omega)
   obtain⟨x,r,hxr⟩:∃ x r,l=x::r:=by
    cases l with
    | nil=>exact absurd hN.symm hl0
    | cons x r=>exact⟨x,r,rfl⟩
   have ex:l.getD 0 0=x:=by rw [hxr];rfl
   rw [ex,Nat.add_zero] at ld
   have eu:Zcs 20 a b l=[a,b,x]:=by rw [hxr];rfl
   rw [eu]
   obtain⟨o4,k4,n4⟩:=Zas (m:=m1) (cs:=ints [a,b,x]) (e:=3) rfl
   have i4:Zag (fun f=>Q f∨m.next≤f) (m1.new (ints [a,b,x]) 3) (some ⟨m1.next,0,none⟩) [a,b,x]:=Zp7 [a,b,x] (Or.inr (by omega))
   obtain⟨m4,hm4⟩:∃ m4,m1.new (ints [a,b,x]) 3=m4:=⟨_,rfl⟩
   rw [hm4,hbb] at i4
   rw [hm4] at k4
   simp only [ints,List.map_cons,List.map_nil] at hm4
   have hl3:(N:Int)≤9223372036854775807:=by omega
   simp [-Int.natCast_add,Zbw b43,Za u22 bs3 rfl,hm1,hvb,l0,l1,l2,l4,hl2,hm4,hbb,ld,hl0]
   exact⟨⟨_,rfl,i4⟩,k1.trans k4⟩
 by_cases h2:Zc9 op=true
 ·have eu:Zcs op a b l=[a,b]:=by
   unfold Zcs;rw [if_pos h2,if_neg h20,if_neg (fun h=>by subst h;simp [Zc9] at h2)];rfl
  rw [eu]
  rcases Z6k h2 h20 with h | h | h | h | h | h | h | h | h | h | h | h
  all_goals
   subst h
   simp [-Int.natCast_add,Zbw b43,Za u22 bs3 rfl,hm1,hvb,l0,l1,l2,hm2,hbb]
   exact⟨⟨_,rfl,i2⟩,k2⟩
 by_cases h1:Zgd op=true
 ·have eu:Zcs op a b l=[a]:=by
   unfold Zcs;rw [if_neg h2,if_pos h1,if_neg h20,if_neg (fun h=>by subst h;simp [Zgd] at h1)];rfl
  rw [eu]
  rcases Z8e h1 with h | h | h | h | h | h
  all_goals
   subst h
   simp [-Int.natCast_add,Zbw b43,Za u22 bs3 rfl,hm1,hvb,l0,l1,hm3,hbb]
   exact⟨⟨_,rfl,i3⟩,k3⟩
 have t1:op≠3∧op≠4∧op≠5∧op≠6∧op≠7∧op≠10∧op≠11∧op≠12∧op≠13∧op≠14∧op≠18∧op≠19:=by
  simp [Zc9] at h2;omega
 have t2:op≠8∧op≠9∧op≠15∧op≠16∧op≠17∧op≠22:=by
  simp [Zgd] at h1;omega
 obtain⟨a1,a2,a3,a4,a5,a6,a7,a8,a9,a10,a11,a12⟩:=t1
 obtain⟨c1,c2,c3,c4,c5,c6⟩:=t2
 by_cases h21:op=21
 ·subst h21
  have eu:Zcs 21 a b l=l:=rfl
  rw [eu]
  simp [-Int.natCast_add,Zbw b43,hm1,hvb,l0,l4]
  exact⟨⟨_,by rw [hN],(hr.keep k1 (by simp)).mono (fun f h=>Or.inl h)⟩,k1⟩
 have eu:Zcs op a b l=[]:=by
  unfold Zcs;rw [if_neg h2,if_neg h1,if_neg h20,if_neg h21];rfl
 rw [eu]
 simp [-Int.natCast_add,Zbw b43,hm1,hvb,l0,a1,a2,a3,a4,a5,a6,a7,a8,a9,a10,a11,a12,c1,c2,c3,c4,c5,c6,h20,h21]
 exact⟨⟨none,rfl,Zag.nil⟩,k1⟩
def Zgp (a b:List Int):Bool:=decide (a=b)
set_option maxHeartbeats 4000000 in
theorem Zx8 (hS:S 28=[]){Q Q2:Nat→Prop}{a b:List Int}{ao bo:Option Addr}(ha:Zag Q m ao a)(hb:Zag Q2 m bo b)(hl:a.length≤9000000000000000000)(hl2:b.length≤9000000000000000000) :
  Zaq Tryd.prog TT S 28 [.slice ao a.length a.length,.slice bo b.length b.length] m=some (.bool (Zgp a b),m):=by
 refine Zlx 6 [10,14,25] k28 hS rfl ?_
 by_cases hn:a.length=b.length
 case neg =>
  have hn':¬ (a.length:Int)=b.length:=by omega
  have e:Zgp a b=false:=by
   unfold Zgp;rw [decide_eq_false_iff_not];intro h;exact hn (by rw [h])
  rw [e]
  simp [-Int.natCast_add,hn']
 have hn':(a.length:Int)=b.length:=by omega
 obtain⟨R,hRe⟩:∃ R,Zgp a b=R:=⟨_,rfl⟩
 rw [hRe]
 simp [-Int.natCast_add,hn]
 refine Zah 6 [10,14,25] (fun d E mF=>∃ (i:Nat),a.length - i=d∧i≤a.length∧mF=m∧Zgp (a.drop i) (b.drop i)=R∧
  E=[(0,.slice ao a.length a.length),(1,.slice bo b.length b.length),(5,.int .i64 (i:Int))]) _ ⟨_,⟨0,rfl,by omega,rfl,by rw [List.drop_zero,List.drop_zero];exact hRe,rfl⟩,⟨by simp [Zby,hn],by rfl,by rfl,trivial⟩⟩ ?_
 rintro d E mF ih ⟨i,hd,hi,rfl,hr,rfl⟩
 have im:(i:Int)≤9223372036854775807:=by omega
 by_cases hlt:i < a.length
 ·have i1:(i:Int) < a.length:=by omega
  have i2:i < b.length:=by omega
  have i3:(i:Int) < b.length:=by omega
  have wi:IntKind.i64.wrap ((i:Int)+1)=((i+1:Nat):Int):=by rw [Zab (by omega) (by omega)];omega
  obtain⟨ab,rfl,la⟩:=ha.get hlt
  obtain⟨bb,rfl,lb⟩:=hb.get i2
  rw [Za9 hlt,Za9 i2] at hr
  generalize a.getD i 0=x at *
  generalize b.getD i 0=y at *
  by_cases hxy:x=y
  ·subst hxy
   simp [-Int.natCast_add,i1,i2,im,hlt,la,lb,wi]
   exact ih _ _ _ _ ⟨i+1,rfl,by omega,rfl,by rw [← hr];simp [Zgp],rfl⟩ (by omega) ⟨by rfl,by rfl,by rfl,trivial⟩
  ·have:R=false:=by rw [← hr];simp [Zgp,hxy]
   rw [this]
   simp [-Int.natCast_add,i1,i2,im,hlt,la,lb,hxy]
 have i1:¬ (i:Int) < a.length:=by omega
 have:R=true:=by rw [← hr,List.drop_of_length_le (by omega),List.drop_of_length_le (by omega)];rfl
 rw [this]
 simp [-Int.natCast_add,i1]
end Go.Proofs.YtcgmchechmbmeaaDoor.base
end
section
set_option maxRecDepth 100000
namespace Go.Proofs.YtcgmchechmbmeaaDoor.base
open Go.Sh gen
section
variable {P:Program}{ρ:Operand→Value}{m:Mem}
def ldS (m:Mem)(v:Value)(z:Nat):Option (List Value × Nat):=match v with
 | .slice (some a) k _=>if k=0 then some ([],0) else (loadRow m a (k * z)).map fun l=>(l,k)
 | .slice none 0 0=>some ([],0)
 | _=>none
theorem Zdh {ty tx e2:TypeId}{z:Nat}(htx:P.underlying tx=some (.slice e2))(hz:Zaj P e2=some z)(s x:Operand):Zez P ρ #[s,x] #[ty,tx] m=match ldS m (ρ x) z with
  | some (news,k)=>Zal P ty m (ρ s) news k
  | none=>apF P ρ #[s,x] #[ty,tx] m:=by
 cases h:ldS m (ρ x) z with
 | none=>rfl
 | some r =>
  obtain⟨news,k⟩:=r
  rw [Zbf htx hz]
  cases hx:ρ x with
  | slice a q c =>
   rw [hx] at h
   cases a with
   | some a =>
    by_cases hk:q=0
    ·subst hk;simp [ldS] at h;simp [← h.1,← h.2]
    ·simp only [ldS,if_neg hk] at h
     cases hl:loadRow m a (q * z) with
     | none=>rw [hl] at h;simp at h
     | some w=>rw [hl] at h;simp at h;obtain⟨rfl,rfl⟩:=h;simp [hk,hl]
   | none =>
    cases q with
    | zero =>
     cases c with
     | zero=>simp [ldS] at h;simp [← h.1,← h.2]
     | succ c=>simp [ldS] at h
    | succ q=>simp [ldS] at h
  | _=>rw [hx] at h;simp [ldS] at h
theorem Z28 {ao:Option Addr}{n:Nat}{cells:List Value}{e z fam:Nat}(h:Rs m ao n cells e z fam):ldS m (.slice ao n n) z=some (cells,n):=by
 by_cases hn:n=0
 ·subst hn
  have hc:cells=[]:=List.length_eq_zero_iff.1 (by rw [← h.1];simp)
  subst hc
  cases ao <;> simp [ldS]
 ·obtain⟨b,rfl,r⟩:=h.rdo hn
  simp only [ldS,if_neg hn]
  rw [r.load (n * z) (by rw [h.1];omega)]
  have e:Zap cells 0 (n * z)=cells:=by rw [h.1];simp [Zap]
  rw [e];rfl
theorem Zre {ao:Option Addr}{n:Nat}{cells:List Value}{e fam:Nat}(h:RsI m ao n cells e fam):ldS m (.slice ao n n) 1=some (cells,n):=by
 have hlen:=h.1
 by_cases hn:n=0
 ·subst hn
  have hc:cells=[]:=List.length_eq_zero_iff.1 hlen.symm
  subst hc
  cases ao <;> simp [ldS]
 ·obtain⟨b,rfl,r⟩:=h.rdo hn
  simp only [ldS,if_neg hn,Nat.mul_one]
  rw [r n (Nat.le_refl _),List.take_of_length_le (by omega)]
  rfl
end
variable {S:Zb7}{m:Mem}
theorem Zx5 {Q:Nat→Prop}{fs:List Zei.D}{fo:Option Addr}(h:AtI Q m (Ty.slice 52 (Ty.pair (Ty.int .i64) (Ty.pair (Ty.int .i64) (Ty.pair (Ty.slice 3 (Ty.int .i64)) (Ty.pair (Ty.slice 3 (Ty.int .i64)) Ty.unit))))) fs [.slice fo fs.length fs.length]){i:Nat}(hi:i < fs.length) :
  ∃ (b:Nat) (lo so:Option Addr),fo=some ⟨b,0,none⟩∧∀ (m':Mem) (gs:List Nat),Zaa m m' gs→(∀ f∈gs,¬ Q f)→loadRow m' ⟨b,i * 4,none⟩ 4=some (frC fs[i] lo so)∧Zag Q m' lo (fs[i]).2.2.1∧Zag Q m' so (fs[i]).2.2.2.1:=by
 obtain⟨vb,c,e,hc,hl⟩:=Zfu h hi
 obtain⟨_,_,e1,rfl,_,_,e2,rfl,_,_,e3,h3,_,_,e4,h4,h5⟩:=hc
 simp only [AtI] at h5
 subst h5
 obtain⟨ao3,f3,rfl,hr3,hqf3⟩:=Zd h3
 obtain⟨ao4,f4,rfl,hr4,hqf4⟩:=Zd h4
 refine⟨vb,ao3,ao4,e,fun m' gs k hf=>?_⟩
 have hl':=hl m' gs k hf
 rw [e1,e2,e3,e4] at hl'
 have i3:Zag Q m ao3 (fs[i]).2.2.1:=⟨f3,hr3,hqf3⟩
 have i4:Zag Q m ao4 (fs[i]).2.2.2.1:=⟨f4,hr4,hqf4⟩
 exact⟨hl',i3.keep k hf,i4.keep k hf⟩
def Zty (f:Zei.D):List Int:=(show List Int from f.2.2.1)++(show List Int from f.2.2.2.1)
def Zbl (fs:List Zei.D):List Int:=fs.flatMap Zty
theorem Zi7 {fs:List Zei.D}(h:∀ f∈fs,List.length f.2.2.1≤1000∧List.length f.2.2.2.1≤1000):(Zbl fs).length≤2000 * fs.length:=by
 induction fs with
 | nil=>simp [Zbl]
 | cons f r ih =>
  have h1:=h f (by simp)
  have h2:=ih (fun x hx=>h x (by simp [hx]))
  have h3:(Zty f).length=List.length f.2.2.1+List.length f.2.2.2.1:=by unfold Zty;exact List.length_append
  unfold Zbl at h2 ⊢
  rw [List.flatMap_cons,List.length_append,h3,List.length_cons]
  omega
set_option maxHeartbeats 4000000 in
theorem Zoj (hS:S 50=[]){Q:Nat→Prop}(hQ:∀ f,Q f→f < m.next){fs:List Zei.D}{fo:Option Addr}(hA:AtI Q m (Ty.slice 52 (Ty.pair (Ty.int .i64) (Ty.pair (Ty.int .i64) (Ty.pair (Ty.slice 3 (Ty.int .i64)) (Ty.pair (Ty.slice 3 (Ty.int .i64)) Ty.unit))))) fs [.slice fo fs.length fs.length])(hl:fs.length≤1000)(hf:∀ f∈fs,List.length f.2.2.1≤1000∧List.length f.2.2.2.1≤1000) :
  ∃ v m1,Zaq Tryd.prog TT S 50 [.agg #[.slice fo fs.length fs.length]] m=some (v,m1)∧(∃ ao,v=.slice ao (Zbl fs).length (Zbl fs).length∧Zag (fun f=>m.next≤f) m1 ao (Zbl fs))∧Zaa m m1 []:=by
 obtain⟨oU,kU,nU⟩:=Zas (m:=m) (cs:=[.slice fo fs.length fs.length]) (e:=41) rfl
 obtain⟨mB,hmB⟩:∃ mB,m.new [.slice fo fs.length fs.length] 41=mB:=⟨_,rfl⟩
 obtain⟨pb,hpb⟩:∃ pb,m.next=pb:=⟨_,rfl⟩
 rw [hmB,hpb] at oU nU
 rw [hmB] at kU
 have hlen:=Zi7 hf
 obtain⟨L,hL⟩:∃ L,Zbl fs=L:=⟨_,rfl⟩
 rw [hL] at hlen ⊢
 refine Zho 5 [9] k50 hS rfl ?_
 simp [-Int.natCast_add,Zbw b41,hmB,hpb]
 refine Zah 5 [9] (fun d E mF=>∃ (j:Nat) (ao:Option Addr) (n:Nat) (l:List Int) (fam:Nat),fs.length - j=d∧j≤fs.length∧l++Zbl (fs.drop j)=L∧n=l.length∧Sl mF ao n (ints l) 3 1 fam∧pb < fam∧Zaa m mF []∧Own mF pb [.slice fo fs.length fs.length] 41 pb∧
  E=[(1,.pointer (some ⟨pb,0,none⟩)),(3,.slice ao n n),(4,.int .i64 (j:Int))]) _ ⟨_,⟨0,none,0,[],pb+1,rfl,by omega,by rw [List.drop_zero];exact hL,rfl,Sl.nil _ _ _ _,by omega,kU,oU,rfl⟩,⟨by rfl,by rfl,by rfl,trivial⟩⟩ ?_
 rintro d E mF ih ⟨j,ao,n,l,fam,hd,hj,hl',hn,hs,hfam,kF,oF,rfl⟩
 have jm:(j:Int)≤9223372036854775807:=by omega
 have l1:=oF.load1 (off:=0) rfl
 by_cases hlt:j < fs.length
 ·have j1:(j:Int) < fs.length:=by omega
  have wj:IntKind.i64.wrap ((j:Int)+1)=((j+1:Nat):Int):=by rw [Zab (by omega) (by omega)];omega
  have hlj:=hf _ (List.getElem_mem hlt)
  rw [List.drop_eq_getElem_cons hlt] at hl'
  have hFA:=hA.keep kF (by simp)
  obtain⟨fb,la,sa,hfb,rows⟩:=Zx5 hFA hlt
  obtain⟨ldf,hla,hsa⟩:=rows mF [] (Zaa.refl _ _) (by simp)
  generalize fs[j]=F at *
  have q2:=Zbr (k:=2) ldf rfl
  have q3:=Zbr (k:=3) ldf rfl
  subst hfb
  obtain⟨f1,r1,_⟩:=hla
  have z1:=Zre r1
  obtain⟨n1,hn1⟩:∃ n1:Nat,List.length F.2.2.1=n1:=⟨_,rfl⟩
  obtain⟨n2,hn2⟩:∃ n2:Nat,List.length F.2.2.2.1=n2:=⟨_,rfl⟩
  rw [hn1] at z1 q2
  rw [hn2] at q3
  have hlL:l.length≤2000 * fs.length:=by rw [← hl',List.length_append] at hlen;omega
  simp [-Int.natCast_add,Zdh u22 sz3,j1,jm,hlt,l1,q2,z1]
  generalize hra:Zal _ _ _ _ _ _=ra
  obtain⟨mG,ao1,fam1,rfl,hs1,k1,c1⟩:=Z20 hra u22 ap3 hs (by simp;omega) (by simp [List.all_eq_true,Zau]) (by omega) (by omega)
  have oG:=oF.keep k1 (by simp;omega)
  have l1G:=oG.load1 (off:=0) rfl
  obtain⟨ldfG,hlaG,hsaG⟩:=rows mG [fam] k1 (fun g h hq=>by have:=hQ g hq;simp at h;omega)
  have q2G:=Zbr (k:=2) ldfG rfl
  have q3G:=Zbr (k:=3) ldfG rfl
  obtain⟨f1',r1',_⟩:=hlaG
  have z1G:=Zre r1'
  obtain⟨f2,r2,_⟩:=hsaG
  have z2G:=Zre r2
  obtain⟨f2',r2',_⟩:=hsa
  have z2:=Zre r2'
  rw [hn1] at z1G q2G
  rw [hn2] at z2G q3G z2
  simp [-Int.natCast_add,Zdh u22 sz3,jm,hlt,l1G,q3G,z2G]
  generalize hrb:Zal _ _ _ _ _ _=rb
  have fam1p:pb < fam1:=by have:=k1.1;have:=kF.1;have:=oF.flt;omega
  obtain⟨mH,ao2,fam2,rfl,hs2,k2,c2⟩:=Z20 hrb u22 ap3 hs1 (by simp;omega) (by simp [List.all_eq_true,Zau]) (by omega) (by omega)
  have oH:=oG.keep k2 (by simp;omega)
  have l1H:=oH.load1 (off:=0) rfl
  simp [-Int.natCast_add,l1,q2,q3,l1G,q3G,wj]
  have hc:ints l++F.2.2.1.map (Value.int .i64)++F.2.2.2.1.map (Value.int .i64)=ints (l++Zty F):=by unfold Zty;simp
  have K2:Zaa m mH []:=(kF.fresh k1 (fun g h=>by simp at h;omega)).fresh k2 (fun g h=>by simp at h;omega)
  rw [hc] at hs2
  exact ih _ _ _ _ ⟨j+1,ao2,n+n1+n2,l++Zty F,fam2,rfl,by omega,by rw [← hl'];simp [Zbl],by rw [List.length_append,hn,← hn1,← hn2];unfold Zty;rw [List.length_append];exact Nat.add_assoc _ _ _,hs2,by have:=k1.1;have:=oF.flt;omega,K2,oH,rfl⟩ (by omega) ⟨by rfl,by rfl,by rfl,trivial⟩
 have j1:¬ (j:Int) < fs.length:=by omega
 rw [List.drop_of_length_le (by omega)] at hl'
 have e:l=L:=by rw [← hl'];simp [Zbl]
 rw [e] at hs hn
 simp [-Int.natCast_add,j1,l1]
 exact⟨⟨ao,by rw [hn];exact⟨rfl,rfl⟩,fam,by rw [← hn];exact Zpg hs.rs,fun _=>by omega⟩,kF⟩
end Go.Proofs.YtcgmchechmbmeaaDoor.base
end
section
set_option maxRecDepth 100000
namespace Go.Proofs.YtcgmchechmbmeaaDoor.base
open Go.Sh gen
variable {S:Zb7}{m:Mem}
inductive Wo (L:List (List Int)) (a:Nat):Nat→Prop
 | z:a≠0→Wo L a 0
 | s {p b:Nat}:Wo L a p→p < L.length→b < L.length→(b:Int)∈L.getD p []→b≠a→Wo L a b
structure Zqg (Q:Nat→Prop)(m:Mem)(nx fx:Nat)(ao:Nat→Option Addr)(L:List (List Int)):Prop where
 own:Own m nx (Zhf ao L) 22 fx
 row:∀ i < L.length,Zag Q m (ao i) (L.getD i [])
theorem Zqg.keep {Q:Nat→Prop}{m1:Mem}{nx fx:Nat}{ao:Nat→Option Addr}{L:List (List Int)}{fs:List Nat}(h:Zqg Q m nx fx ao L)(k:Zaa m m1 fs)(hf:∀ f∈fs,¬ Q f)(hx:fx∉fs):Zqg Q m1 nx fx ao L:=
 ⟨h.own.keep k hx,fun i hi=>(h.row i hi).keep k hf⟩
structure WoI (L:List (List Int))(a:Nat)(but:Int)(sn:List Bool)(T:List Int):Prop where
 len:sn.length=L.length
 td:∀ t∈T,(0:Int)≤t∧t < L.length∧sn.getD t.toNat false=true
 wo:∀ k < L.length,sn.getD k false=true→Wo L a k
 z:sn.getD 0 false=true
def Cl (L:List (List Int))(but:Int)(sn:List Bool)(k:Nat):Prop:=∀ t∈L.getD k [],t≠but→sn.getD t.toNat false=true
theorem Zbt {sn:List Bool}{k i:Nat}(hk:k < sn.length):(sn.set k true).getD i false=(decide (i=k) || sn.getD i false):=by
 by_cases e:i=k
 ·subst e;simp [List.getD_eq_getElem?_getD,hk]
 ·simp [List.getD_eq_getElem?_getD,Ne.symm e,e]
theorem Cl.set {L:List (List Int)}{but:Int}{sn:List Bool}{k t:Nat}(ht:t < sn.length)(h:Cl L but sn k):Cl L but (sn.set t true) k:=fun x hx hb=>by
 rw [Zbt ht,h x hx hb,Bool.or_true]
theorem Zvu {l:List Bool}{k:Nat}(hk:k < l.length)(h:l.getD k false=false):(l.set k true).count false+1=l.count false:=by
 induction l generalizing k with
 | nil=>simp at hk
 | cons a r ih =>
  cases k with
  | zero=>simp at h;subst h;simp
  | succ k =>
   simp at hk h
   have:=ih (k:=k) hk (by simpa using h)
   simp only [List.set_cons_succ,List.count_cons]
   omega
theorem Zz4 (t:Int)(T:List Int):ints (t::T)=.int .i64 t::ints T:=rfl
theorem Z1b (T:List Int)(t:Int):ints (T++[t])=ints T++[.int .i64 t]:=by simp [ints]
def WoP (m m1:Mem)(L:List (List Int))(a:Nat)(v:Value):Prop:=∃ sb sn,v=.slice (some ⟨sb,0,none⟩) L.length L.length∧sn.length=L.length∧Own m1 sb (Zdk sn) 4 sb∧m.next≤sb∧∀ k < L.length,sn.getD k false=true↔Wo L a k
set_option maxHeartbeats 8000000 in
theorem Zna (hS:S 29=[]){Q:Nat→Prop}{nx fx:Nat}{ao:Nat→Option Addr}{L:List (List Int)}(hN:Zqg Q m nx fx ao L)(hQ:∀ f,Q f→f < m.next)(hl0:0 < L.length)(hl:L.length≤1000000)
  (hrow:∀ i < L.length,(L.getD i []).length≤1000000∧∀ t∈L.getD i [],(0:Int)≤t∧t < L.length) {a:Nat} {but:Int} (hb:∀ t:Nat,t < L.length→((t:Int)=but↔t=a)) :
  ∃ v m1,Zaq Tryd.prog TT S 29 [.slice (some ⟨nx,0,none⟩) L.length L.length,.int .i64 0,.int .i64 but] m=some (v,m1)∧WoP m m1 L a v∧Zaa m m1 []:=by
 obtain⟨n,hn⟩:∃ n,L.length=n:=⟨_,rfl⟩
 rw [hn] at hl0 hl ⊢
 have fxl:=hN.own.flt
 obtain⟨oS,kS,nS⟩:=Zas (m:=m) (cs:=Zdk (List.replicate n false)) (e:=4) rfl
 obtain⟨sb,hsb⟩:∃ sb,m.next=sb:=⟨_,rfl⟩
 obtain⟨mA,hmA⟩:∃ mA,m.new (Zdk (List.replicate n false)) 4=mA:=⟨_,rfl⟩
 rw [hmA,hsb] at oS nS
 rw [hmA] at kS
 have hz:=Zig n (by omega)
 have hzb:List.replicate n (Value.bool false)=Zdk (List.replicate n false):=by simp [Zdk]
 rw [hzb] at hz
 have n1:(n:Int)≤9223372036854775807:=by omega
 have n2:n≤281474976710656:=by omega
 refine Zho 12 [17,26,38,57] k29 hS rfl ?_
 have h0b:=hb 0 (by omega)
 by_cases h0:(0:Int)=but
 ·have ha:a=0:=by have:=h0b.1 (by simpa using h0);omega
  subst h0
  simp [-Int.natCast_add,-List.map_replicate,Zfa u60 ap4,hz,n1,n2,hmA,hsb]
  refine⟨⟨sb,List.replicate n false,by rw [hn],by simp [hn],oS,by omega,fun k hk=>?_⟩,kS⟩
  rw [hn] at hk
  have e1:(List.replicate n false).getD k false=false:=by simp [List.getD_eq_getElem?_getD,hk]
  rw [e1]
  refine⟨fun h=>by simp at h,fun h=>?_⟩
  exfalso
  have:∀ k,Wo L a k→False:=by
   intro k h
   induction h with
   | z hh=>exact hh ha
   | s _ _ _ _ _ ih=>exact ih
  exact this k h
 have ha:a≠0:=fun h=>h0 (h0b.2 (by omega))
 obtain⟨mB,eB,oB,kB⟩:=Ziq oS (i:=0) (by simp;omega) true
 obtain⟨oT,kT,nT⟩:=Zas (m:=mB) (cs:=[.int .i64 0]) (e:=3) rfl
 obtain⟨tb,htb⟩:∃ tb,mB.next=tb:=⟨_,rfl⟩
 obtain⟨mC,hmC⟩:∃ mC,mB.new [.int .i64 0] 3=mC:=⟨_,rfl⟩
 rw [hmC,htb] at oT nT
 rw [hmC] at kT
 have hne:sb≠tb:=by have:=oB.flt;omega
 have oC:=oB.keep kT (by simp)
 have KC:Zaa m mC []:=(kS.fresh kB (by simp;omega)).trans kT
 have tbm:m.next≤tb:=by have:=kS.1;have:=kB.1;omega
 simp [-Int.natCast_add,-List.map_replicate,Zfa u60 ap4,Za u22 bs3 rfl,hz,n1,n2,hmA,hsb,h0,eB,hmC,htb,hl0]
 have I0:WoI L a but ((List.replicate n false).set 0 true) [0]:=by
  refine⟨by simpa using hn.symm,?_,?_,?_⟩
  ·intro t ht
   simp at ht
   subst ht
   refine⟨by omega,by omega,?_⟩
   rw [Zbt (by simp;omega)];simp
  ·intro k hk h
   rw [Zbt (by simp;omega)] at h
   simp [List.getD_eq_getElem?_getD] at h
   rcases h with rfl | h
   ·exact .z ha
   ·rw [List.getElem?_replicate] at h;split at h <;> simp at h
  ·rw [Zbt (by simp;omega)];simp
 have C0:∀ k < n,((List.replicate n false).set 0 true).getD k false=true→(k:Int)∉[(0:Int)]→Cl L but ((List.replicate n false).set 0 true) k:=by
  intro k hk h hT
  exfalso
  rw [Zbt (by simp;omega)] at h
  simp [List.getD_eq_getElem?_getD] at h
  rcases h with rfl | h
  ·simp at hT
  ·rw [List.getElem?_replicate] at h;split at h <;> simp at h
 have D0:2 * ((List.replicate n false).set 0 true).count false+[(0:Int)].length≤2 * n+1:=by
  have:((List.replicate n false).set 0 true).count false≤((List.replicate n false).set 0 true).length:=List.count_le_length
  simp at this ⊢;omega
 have Q0:Qu mC tb 0 (ints [0]) 3 tb:=⟨[],rfl,by simpa [ints] using oT⟩
 refine Zah 12 [17,26,38,57] (fun d E mF=>∃ (sn:List Bool) (T:List Int) (b of N:Nat),2 * sn.count false+T.length=d∧d≤2 * n+1∧T.length=N∧WoI L a but sn T∧(∀ k < n,sn.getD k false=true→(k:Int)∉T→Cl L but sn k)∧Own mF sb (Zdk sn) 4 sb∧Qu mF b of (ints T) 3 tb∧Zaa m mF []∧
  E=[(0,.slice (some ⟨nx,0,none⟩) n n),(2,.int .i64 but),(7,.slice (some ⟨sb,0,none⟩) n n),(8,.slice (some ⟨b,of,none⟩) N N)]) _
  ⟨_,⟨(List.replicate n false).set 0 true,[0],tb,0,1,rfl,D0,rfl,I0,C0,oC,Q0,KC,rfl⟩,(by repeat' constructor)⟩ ?_
 clear oT kT nT oC KC oB kB oS kS nS hz hzb
 rintro d E mF ih ⟨sn,T,b,of,N,hd,hdn,hTN,hI,hC,oF,qF,kF,rfl⟩
 have lsn:sn.length=n:=by rw [hI.len,hn]
 have hcn:sn.count false≤n:=by rw [← lsn];exact List.count_le_length
 cases T with
 | nil =>
  clear ih
  simp at hTN
  subst hTN
  simp [-Int.natCast_add]
  refine⟨⟨sb,sn,by rw [hn],hI.len,oF,by omega,fun k hk=>⟨hI.wo k (by omega),fun h=>?_⟩⟩,kF⟩
  have:∀ k,Wo L a k→sn.getD k false=true:=by
   intro k h
   induction h with
   | z _=>exact hI.z
   | s hp hpl hbl hm hne ih =>
    have:=hC _ (by omega) ih (by simp) _ hm (fun e=>hne ((hb _ (by omega)).1 e))
    simpa using this
  exact this k h
 | cons t T =>
  obtain⟨ht0,htl,hts⟩:=hI.td t (by simp)
  obtain⟨k,rfl⟩:∃ k:Nat,t=(k:Int):=⟨t.toNat,by omega⟩
  have hk:k < n:=by omega
  simp only [List.length_cons] at hTN hd
  subst hTN
  have hT1:T.length≤3 * n:=by omega
  rw [Zz4] at qF
  have ldh:=qF.head
  have el:Zfe mF b 3=true:=by obtain⟨pre,_,o⟩:=qF;simp [Zfe,o.blk]
  have k1:(k:Int) < n:=by omega
  have k2:(k:Int)≤9223372036854775807:=by omega
  have t1:(0:Int) < ((T.length+1:Nat):Int):=by omega
  have t2:((T.length+1:Nat):Int)≤9223372036854775807:=by omega
  have hr:=hrow k (by omega)
  obtain⟨l,hle⟩:∃ l,L.getD k []=l:=⟨_,rfl⟩
  have hll:l.length≤1000000:=by rw [← hle];exact hr.1
  have I1:WoI L a but sn T:=⟨hI.len,fun t ht=>hI.td t (by simp [ht]),hI.wo,hI.z⟩
  have C1:∀ k' < n,sn.getD k' false=true→k'≠k→(k':Int)∉T→Cl L but sn k':=fun k' h1 h2 h3 h4=>hC k' h1 h2 (by simp;exact⟨by omega,h4⟩)
  simp [-Int.natCast_add,Zcd u22 sz3,ldh,el]
  have K1:Zqg Q mF nx fx ao L:=hN.keep kF (by simp) (by simp)
  refine Zah 12 [17,26,38,57] (fun d2 E mG=>∃ (j:Nat) (sn:List Bool) (T:List Int) (b of N:Nat),l.length - j=d2∧j≤l.length∧2 * sn.count false+T.length < d∧T.length=N∧WoI L a but sn T∧(∀ k' < n,sn.getD k' false=true→k'≠k→(k':Int)∉T→Cl L but sn k')∧(∀ t∈l.take j,t≠but→sn.getD t.toNat false=true)∧sn.getD k false=true∧Own mG sb (Zdk sn) 4 sb∧Qu mG b of (ints T) 3 tb∧Zaa m mG []∧
   E=[(0,.slice (some ⟨nx,0,none⟩) n n),(2,.int .i64 but),(7,.slice (some ⟨sb,0,none⟩) n n),(8,.slice (some ⟨b,of,none⟩) N N),(9,.int .i64 (k:Int)),(10,.int .i64 (j:Int))]) _
   ⟨_,⟨0,sn,T,b,of+1,T.length,rfl,by omega,by omega,rfl,I1,C1,by simp,by simpa using hts,oF,qF.tail,kF,rfl⟩,(by repeat' constructor)⟩ ?_
  clear hI hC hts ldh el qF oF I1 C1 hd
  rintro d2 E mG ih2 ⟨j,sn,T,b,of,N,hd2,hj,hdT,hTN,hI,hC,hJ,hsk,oG,qG,kG,rfl⟩
  have lsn:sn.length=n:=by rw [hI.len,hn]
  have jm:(j:Int)≤9223372036854775807:=by omega
  have KG:Zqg Q mG nx fx ao L:=hN.keep kG (by simp) (by simp)
  have lrow:=KG.own.load1 (off:=k) (Zdx ao (by omega))
  have hrk:=KG.row k (by omega)
  rw [hle] at lrow hrk
  by_cases hjl:j < l.length
  ·have j1:(j:Int) < l.length:=by omega
   have wj:IntKind.i64.wrap ((j:Int)+1)=((j+1:Nat):Int):=by rw [Zab (by omega) (by omega)];omega
   obtain⟨rb,hao,lj⟩:=hrk.get hjl
   rw [hao] at lrow
   obtain⟨ht0,htl⟩:=hr.2 _ (by rw [hle];exact Za4 hjl)
   have hgl:l.take (j+1)=l.take j++[l.getD j 0]:=by rw [List.take_succ_eq_append_getElem hjl,List.getD_eq_getElem?_getD,List.getElem?_eq_getElem hjl];rfl
   have hmem:l.getD j 0∈L.getD k []:=by rw [hle];exact Za4 hjl
   obtain⟨t,ht⟩:∃ t:Nat,l.getD j 0=(t:Int):=⟨(l.getD j 0).toNat,by omega⟩
   rw [ht] at lj ht0 htl hgl hmem
   have t1:(t:Int) < n:=by omega
   have t2:(t:Int)≤9223372036854775807:=by omega
   have t3:t < n:=by omega
   have hbt:=hb t (by omega)
   have lsb:=oG.load1 (off:=t) (Zg3 (by omega))
   by_cases hx:(t:Int)=but
   ·simp [-Int.natCast_add,-List.getD_eq_getElem?_getD,k2,hk,lrow,j1,jm,hjl,lj,hx,wj]
    exact ih2 _ _ _ _ ⟨j+1,sn,T,b,of,N,rfl,by omega,hdT,hTN,hI,hC,fun x hx' hxb=>by
     rw [hgl] at hx'
     rcases List.mem_append.1 hx' with h | h
     ·exact hJ x h hxb
     ·simp at h;subst h;exact absurd hx hxb,hsk,oG,qG,kG,rfl⟩ (by omega) (by repeat' constructor)
   by_cases hst:sn.getD t false=true
   ·simp [-Int.natCast_add,-List.getD_eq_getElem?_getD,k2,hk,lrow,j1,jm,hjl,lj,hx,t2,t3,lsb,hst,wj]
    exact ih2 _ _ _ _ ⟨j+1,sn,T,b,of,N,rfl,by omega,hdT,hTN,hI,hC,fun x hx' hxb=>by
     rw [hgl] at hx'
     rcases List.mem_append.1 hx' with h | h
     ·exact hJ x h hxb
     ·simp at h;subst h;rw [Int.toNat_natCast];exact hst,hsk,oG,qG,kG,rfl⟩ (by omega) (by repeat' constructor)
   have hst':sn.getD t false=false:=by simpa using hst
   obtain⟨mH,eH,oH,kH⟩:=Ziq oG (i:=t) (by omega) true
   simp [-Int.natCast_add,-List.getD_eq_getElem?_getD,Za u22 bs3 rfl,Zbf u22 sz3,k2,hk,lrow,j1,jm,hjl,lj,hx,t2,t3,lsb,hst',eH]
   generalize hra:Zal _ _ _ _ _ _=ra
   have hcs:(sn.set t true).count false+1=sn.count false:=Zvu (by omega) hst'
   have hNb:N≤4000000:=by have:sn.count false≤sn.length:=List.count_le_length;omega
   obtain⟨m1,b',of',rfl,q1,kA⟩:=Z61 hra u22 ap3 (by kernel_rfl) ((qG.keep kH (by simp;exact Ne.symm hne)).keep (Za5 mH [.int .i64 (t:Int)] 3 []) (by simp)) (by simp [hTN]) (by simp [Zau]) (by omega) (by omega)
   have kB:=((Za5 mH [.int .i64 (t:Int)] 3 [tb])).trans kA
   rw [← Z1b] at q1
   simp [-Int.natCast_add,-List.getD_eq_getElem?_getD,wj]
   have hln:(sn.set t true).length=n:=by simpa using lsn
   refine ih2 _ _ _ _ ⟨j+1,sn.set t true,T++[(t:Int)],b',of',N+1,rfl,by omega,by rw [List.length_append];simp only [List.length_cons,List.length_nil];omega,by rw [List.length_append];simp only [List.length_cons,List.length_nil];omega,⟨by rw [hln,hn],?_,?_,?_⟩,?_,?_,?_,oH.keep kB (by simp;exact hne),q1,(kG.fresh kH (by simp;omega)).fresh kB (by simp;omega),rfl⟩ (by omega) (by repeat' constructor)
   ·intro x hx'
    rcases List.mem_append.1 hx' with h | h
    ·have:=hI.td x h
     refine⟨this.1,this.2.1,?_⟩
     rw [Zbt (by omega),this.2.2,Bool.or_true]
    ·simp at h
     subst h
     refine⟨by omega,by omega,?_⟩
     rw [Zbt (by omega)];simp
   ·intro x hx1 hx2
    rw [Zbt (by omega)] at hx2
    by_cases e:x=t
    ·subst e
     exact .s (hI.wo k (by omega) hsk) (by omega) hx1 hmem (fun e=>hx (hbt.2 e))
    ·simp [e] at hx2
     exact hI.wo x hx1 (by simpa using hx2)
   ·rw [Zbt (by omega),hI.z,Bool.or_true]
   ·intro x hx1 hx2 hx3 hx4
    rw [Zbt (by omega)] at hx2
    have e:x≠t:=fun e=>hx4 (by subst e;simp)
    simp [e] at hx2
    exact (hC x hx1 (by simpa using hx2) hx3 (fun h=>hx4 (by simp [h]))).set (by omega)
   ·intro x hx' hxb
    rw [hgl] at hx'
    rcases List.mem_append.1 hx' with h | h
    ·rw [Zbt (by omega),hJ x h hxb,Bool.or_true]
    ·simp at h;subst h;rw [Zbt (by omega)];simp
   ·rw [Zbt (by omega),hsk,Bool.or_true]
  clear ih2
  have j1:¬ (j:Int) < l.length:=by omega
  simp [-Int.natCast_add,-List.getD_eq_getElem?_getD,k2,hk,lrow,j1]
  refine ih _ _ _ _ ⟨sn,T,b,of,N,rfl,by omega,hTN,hI,fun x hx1 hx2 hx3=>?_,oG,qG,kG,rfl⟩ (by omega) (by repeat' constructor)
  by_cases e:x=k
  ·subst e
   intro y hy hyb
   rw [hle] at hy
   exact hJ y (by rw [List.take_of_length_le (by omega)];exact hy) hyb
  ·exact hC x hx1 hx2 e hx3
end Go.Proofs.YtcgmchechmbmeaaDoor.base
end
