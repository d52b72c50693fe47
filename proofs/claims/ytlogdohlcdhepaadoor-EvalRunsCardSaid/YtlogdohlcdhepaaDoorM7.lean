/- This text proves what ssa.Order answers, Zbr the abstract run. Condition: nothing is known of the calls ahead ('S f = []'). -/
import Derived.Test.YtlogdohlcdhepaaDoorM6
set_option linter.unusedVariables false
set_option linter.unusedSimpArgs false
section
set_option maxRecDepth 100000
namespace Go.Proofs.YtlogdohlcdhepaaDoor.base
open Go.Sh gen
variable {S:Zb2}{m:Mem}
abbrev OSt:=List Bool × List Int × List (Nat × Nat)
def Zl3 (u:UnT.D):OSt→OSt
 | (sn,pl,[])=>(sn,pl,[])
 | (sn,pl,(b,i)::r) =>
  if i=(nxD u b).length then (sn,pl++[(b:Int)],r) else
  if sn.getD ((nxD u b).getD i 0).toNat false=true then (sn,pl,(b,i+1)::r) else
  (sn.set ((nxD u b).getD i 0).toNat true,pl,(((nxD u b).getD i 0).toNat,0)::(b,i+1)::r)
def Zlg (u:UnT.D):Nat→OSt→Option (List Int)
 | 0,(_,pl,[])=>some pl
 | 0,(_,_,_::_)=>none
 | _+1,(_,_,[])=>none
 | d+1,(sn,pl,p::r)=>Zlg u d (Zl3 u (sn,pl,p::r))
def stC (st:List (Nat × Nat)):List Value:=st.reverse.flatMap fun p=>[.int .i64 (p.1:Int),.int .i64 (p.2:Int)]
theorem Zet (p:Nat × Nat)(r:List (Nat × Nat)):stC (p::r)=stC r++[.int .i64 (p.1:Int),.int .i64 (p.2:Int)]:=by simp [stC]
theorem Zoy (st:List (Nat × Nat)):(stC st).length=st.length * 2:=by
 induction st with
 | nil=>rfl
 | cons p r ih=>rw [Zet,List.length_append,ih,List.length_cons];simp only [List.length_cons,List.length_nil];omega
theorem Zhp {l:List Bool}{k:Nat}(hk:k < l.length)(h:l.getD k false=false):(l.set k true).count true=l.count true+1:=by
 induction l generalizing k with
 | nil=>simp at hk
 | cons a r ih =>
  cases k with
  | zero =>
   simp at h
   subst h
   simp
  | succ k =>
   rw [List.set_cons_succ,List.count_cons,List.count_cons,ih (by simpa using hk) (by simpa using h)]
   omega
structure OAt (m0 m:Mem)(u:UnT.D)(vo bo so:Option Addr)(ub sb:Nat)(po to:Option Addr)(pf tf:Nat)(s:OSt):Prop where
 own:Own m ub (Zbw u vo bo so) 34 ub
 sn:Own m sb (Zm5 s.1) 4 sb
 pl:Sl m po s.2.1.length (ints s.2.1) 3 1 pf
 st:Sr m to s.2.2.length (stC s.2.2) 124 2 tf
 k:Zaa m0 m []
 fr:m0.next≤ub∧m0.next≤sb∧ub < m.next∧sb < m.next∧(po≠none→m0.next≤pf∧pf < m.next)∧(to≠none→m0.next≤tf∧tf < m.next)
 ne:ub≠sb∧(po≠none→pf≠ub∧pf≠sb)∧(to≠none→tf≠ub∧tf≠sb)∧(po≠none→to≠none→pf≠tf)
 sl:s.1.length=nb u
 cnt:s.2.1.length+s.2.2.length=s.1.count true
 ok:∀ p∈s.2.2,p.1 < nb u∧p.2≤(nxD u p.1).length
theorem Zh7 (l:List Bool):l.count true≤l.length:=List.count_le_length
theorem OAt.pop {m0:Mem}{u:UnT.D}{vo bo so:Option Addr}{ub sb:Nat}{po to:Option Addr}{pf tf:Nat}{sn:List Bool}{pl:List Int}{b i:Nat}{st:List (Nat × Nat)}(h:OAt m0 m u vo bo so ub sb po to pf tf (sn,pl,(b,i)::st))(hnb:nb u≤1000)
  {r:Option (Value × Mem)} (hr:Zan Tryd.prog 36 (m.new [.int .i64 (b:Int)] 3) (.slice po pl.length pl.length) [.int .i64 (b:Int)] 1=r) :
  ∃ m1 b' pf',r=some (.slice (some ⟨b',0,none⟩) (pl.length+1) (pl.length+1),m1)∧OAt m0 m1 u vo bo so ub sb (some ⟨b',0,none⟩) to pf' tf (sn,pl++[(b:Int)],st)∧∃ fs,(∀ f∈fs,m0.next≤f)∧Zaa m m1 fs:=by
 have hc:=h.cnt
 have hsl:=h.sl
 have hcl:=Zh7 sn
 simp only [List.length_cons] at hc hsl
 have hpl:pl.length≤1000:=by omega
 obtain⟨m1,b',pf',rfl,o1,k1,c1,c2,c3⟩:=Zg6 hr u36 ap3 h.pl (by omega) (by simp) (by simp [Zam]) (by omega) (by omega)
 obtain⟨f1,f2,f3,f4,f5,f6⟩:=h.fr
 obtain⟨n1,n2,n3,n4⟩:=h.ne
 have m1n:m.next≤m1.next:=k1.1
 have k0:m0.next≤m.next:=h.k.1
 have hp:pf'≠ub∧pf'≠sb∧m0.next≤pf'∧(to≠none→pf'≠tf):=by
  rcases c1 with⟨hn,e⟩ | c1
  ·rw [e];exact⟨(n2 hn).1,(n2 hn).2,(f5 hn).1,n4 hn⟩
  ·exact⟨by omega,by omega,by omega,fun hn=>by have:=(f6 hn).2;omega⟩
 have hf:∀ (x:Nat),(po≠none→x≠pf)→x∉(if po=none then [] else [pf]):=by
  intro x hx
  split
  ·simp
  ·rename_i hn;simpa using hx hn
 have st1:=h.st.keep k1 (fun hn=>hf tf (fun hp=>Ne.symm (n4 hp hn)))
 have htn:to≠none:=by
  rcases h.st.2 with⟨_,h0⟩ | ⟨_,_,h0,_⟩
  ·simp at h0
  ·rw [h0];simp
 refine⟨m1,b',pf',rfl,⟨h.own.keep k1 (hf _ fun hp=>Ne.symm (n2 hp).1),h.sn.keep k1 (hf _ fun hp=>Ne.symm (n2 hp).2),Sl.of (by simpa using o1) (by simp),?_,?_,⟨f1,f2,by omega,by omega,fun _=>⟨hp.2.2.1,c2⟩,fun hn=>⟨(f6 hn).1,by have:=(f6 hn).2;omega⟩⟩,⟨n1,fun _=>⟨hp.1,hp.2.1⟩,n3,fun _=>hp.2.2.2⟩,hsl,?_,fun p hp=>h.ok p (by simp [hp])⟩,_,?_,k1⟩
 ·have st2:=st1
  simp only at st2
  rw [Zet] at st2
  exact Sr.cut st2 (Zoy st).symm (fun e=>absurd e htn)
 ·refine h.k.fresh k1 fun f hf=>?_
  split at hf
  ·simp at hf
  ·rename_i hn;simp at hf;rw [hf];exact (f5 hn).1
 ·simp only [List.length_append,List.length_cons,List.length_nil];omega
 ·intro f hf
  split at hf
  ·simp at hf
  ·rename_i hn;simp at hf;rw [hf];exact (f5 hn).1
theorem Zx (P rest:List Value)(y y':Value):Zbr (P++y::rest) P.length [y']=P++y'::rest:=by simp [Zbr]
theorem OAt.inc {m0:Mem}{u:UnT.D}{vo bo so:Option Addr}{ub sb:Nat}{po to:Option Addr}{pf tf:Nat}{sn:List Bool}{pl:List Int}{b i:Nat}{st:List (Nat × Nat)}(h:OAt m0 m u vo bo so ub sb po to pf tf (sn,pl,(b,i)::st))(hi:i < (nxD u b).length) :
  ∃ tb m1,to=some ⟨tb,0,none⟩∧loadRow m ⟨tb,st.length * 2,none⟩ 1=some [.int .i64 (b:Int)]∧loadRow m ⟨tb,st.length * 2+1,none⟩ 1=some [.int .i64 (i:Int)]∧
   Zaf m ⟨tb,st.length * 2+1,none⟩ [.int .i64 ((i+1:Nat):Int)]=some m1∧OAt m0 m1 u vo bo so ub sb po to pf tf (sn,pl,(b,i+1)::st)∧∃ fs,(∀ f∈fs,m0.next≤f)∧Zaa m m1 fs:=by
 obtain⟨tb,rest,e,o⟩:=h.st.own (by simp)
 simp only at o
 have hl:=Zoy st
 obtain⟨m1,e1,o1,k1⟩:=Zaj (r:=_) rfl o (off:=st.length * 2+1) (vs:=[.int .i64 ((i+1:Nat):Int)]) (by rw [Zet];simp only [List.length_append,List.length_cons,List.length_nil];omega) (by simp [Zam])
 have eo:Zbr (stC ((b,i)::st)++rest) (st.length * 2+1) [.int .i64 ((i+1:Nat):Int)]=stC ((b,i+1)::st)++rest:=by
  rw [Zet,Zet,← hl]
  have e2:=Zx (stC st++[.int .i64 (b:Int)]) rest (.int .i64 (i:Int)) (.int .i64 ((i+1:Nat):Int))
  rw [List.length_append] at e2
  simpa using e2
 rw [eo] at o1
 obtain⟨f1,f2,f3,f4,f5,f6⟩:=h.fr
 obtain⟨n1,n2,n3,n4⟩:=h.ne
 have htn:to≠none:=by rw [e];simp
 have m1n:m.next≤m1.next:=k1.1
 have hk:∀ f∈[tf],m0.next≤f:=fun f hf=>by simp at hf;rw [hf];exact (f6 htn).1
 have a0:(stC ((b,i)::st)++rest)[st.length * 2]?=some (.int .i64 (b:Int)):=by rw [Zet,← hl];simp
 have a1:(stC ((b,i)::st)++rest)[st.length * 2+1]?=some (.int .i64 (i:Int)):=by rw [Zet,← hl];simp
 refine⟨tb,m1,e,o.load1 a0,o.load1 a1,e1,⟨h.own.keep k1 (by simpa using Ne.symm (n3 htn).1),h.sn.keep k1 (by simpa using Ne.symm (n3 htn).2),h.pl.keepz k1 (fun hn=>by simpa using n4 hn htn),⟨by rw [Zoy];first | done | rfl,Or.inr ⟨tb,rest,e,o1⟩⟩,h.k.fresh k1 hk,⟨f1,f2,by omega,by omega,fun hn=>⟨(f5 hn).1,by have:=(f5 hn).2;omega⟩,fun hn=>⟨(f6 hn).1,by have:=(f6 hn).2;omega⟩⟩,⟨n1,n2,n3,n4⟩,h.sl,h.cnt,?_⟩,[tf],hk,k1⟩
 intro p hp
 rcases List.mem_cons.1 hp with rfl | hp
 ·exact⟨(h.ok (b,i) (by simp)).1,by dsimp only;omega⟩
 ·exact h.ok p (by simp [hp])
theorem OAt.push {m0:Mem}{u:UnT.D}{vo bo so:Option Addr}{ub sb:Nat}{po to:Option Addr}{pf tf:Nat}{sn:List Bool}{pl:List Int}{st:List (Nat × Nat)}{k:Nat}(h:OAt m0 m u vo bo so ub sb po to pf tf (sn,pl,st))(hnb:nb u≤1000)(hk:k < nb u)(hs:sn.getD k false=false) :
  ∃ m1,Zaf m ⟨sb,k,none⟩ [.bool true]=some m1∧∀ r,Zan Tryd.prog 122 (m1.new [.int .i64 (k:Int),.int .i64 0] 124) (.slice to st.length st.length) [.int .i64 (k:Int),.int .i64 0] 1=r→
   ∃ m2 to' tf',r=some (.slice to' (st.length+1) (st.length+1),m2)∧OAt m0 m2 u vo bo so ub sb po to' pf tf' (sn.set k true,pl,(k,0)::st)∧∃ fs,(∀ f∈fs,m0.next≤f)∧Zaa m m2 fs:=by
 have hc:=h.cnt
 have hsl:=h.sl
 have hcl:=Zh7 sn
 simp only at hc hsl
 obtain⟨m1,e1,o1,k1⟩:=Ztf h.sn (i:=k) (by simp only;omega) true
 refine⟨m1,e1,fun r hr=>?_⟩
 obtain⟨f1,f2,f3,f4,f5,f6⟩:=h.fr
 obtain⟨n1,n2,n3,n4⟩:=h.ne
 have st1:=h.st.keep k1 (fun hn=>by simpa using (n3 hn).2)
 obtain⟨m2,to',tf',rfl,s2,k2,c1,c2,c3⟩:=Zj1 hr Z03 Z7a st1 (by omega) (by simp) (by simp [Zam]) (by omega) (by omega)
 have m1n:m.next≤m1.next:=k1.1
 have m2n:m1.next≤m2.next:=k2.1
 have k0:m0.next≤m.next:=h.k.1
 have hp:tf'≠ub∧tf'≠sb∧m0.next≤tf'∧(po≠none→pf≠tf'):=by
  rcases c1 with⟨hn,e⟩ | c1
  ·rw [e];exact⟨(n3 hn).1,(n3 hn).2,(f6 hn).1,fun hq=>n4 hq hn⟩
  ·exact⟨by omega,by omega,by omega,fun hn=>by have:=(f5 hn).2;omega⟩
 have hf:∀ (x:Nat),(to≠none→x≠tf)→x∉(if to=none then [] else [tf]):=by
  intro x hx
  split
  ·simp
  ·rename_i hn;simpa using hx hn
 have hg:∀ f∈(if to=none then [] else [tf]),m0.next≤f:=by
  intro f hf
  split at hf
  ·simp at hf
  ·rename_i hn;simp at hf;rw [hf];exact (f6 hn).1
 refine⟨m2,to',tf',rfl,⟨(h.own.keep k1 (by simpa using n1)).keep k2 (hf _ fun hn=>Ne.symm (n3 hn).1),o1.keep k2 (hf _ fun hn=>Ne.symm (n3 hn).2),(h.pl.keepz k1 (fun hn=>by simpa using (n2 hn).2)).keepz k2 (fun hn=>hf _ fun ht=>n4 hn ht),?_,(h.k.fresh k1 (by simpa using f2)).fresh k2 hg,⟨f1,f2,by omega,by omega,fun hn=>⟨(f5 hn).1,by have:=(f5 hn).2;omega⟩,fun hn=>⟨hp.2.2.1,(s2.flt hn)⟩⟩,⟨n1,n2,fun _=>⟨hp.1,hp.2.1⟩,fun hn _=>hp.2.2.2 hn⟩,by simpa using hsl,?_,?_⟩,sb::(if to=none then [] else [tf]),?_,(k1.mono (by simp)).trans (k2.mono (fun x hx=>by simp [hx]))⟩
 ·rw [Zet];exact s2
 ·simp only [List.length_cons]
  rw [Zhp (by omega) hs];omega
 ·intro p hp
  rcases List.mem_cons.1 hp with rfl | hp
  ·exact⟨hk,by dsimp only;omega⟩
  ·exact h.ok p hp
 ·intro f hf
  rcases List.mem_cons.1 hf with rfl | hf
  ·exact f2
  ·exact hg f hf
end Go.Proofs.YtlogdohlcdhepaaDoor.base
end
section
set_option maxRecDepth 100000
namespace Go.Proofs.YtlogdohlcdhepaaDoor.base
open Go.Sh gen
variable {S:Zb2}{m:Mem}
def Zpq (u:UnT.D):OSt:=((List.replicate (nb u) false).set 0 true,[],[(0,0)])
theorem OAt.open {m0:Mem}{u:UnT.D}{vo bo so:Option Addr}{ub sb:Nat}{sn:List Bool}(h:OAt m0 m u vo bo so ub sb none none 0 0 (sn,[],[]))(hb0:0 < nb u)(hs:sn.getD 0 false=false)(r:Option (Value × Mem))
  (hr:Zan Tryd.prog 122 (m.new [.int .i64 0,.int .i64 0] 124) (.slice none 0 0) [.int .i64 0,.int .i64 0] 1=r) :
  ∃ m1 to' tf' m2,r=some (.slice to' 1 1,m1)∧Zaf m1 ⟨sb,0,none⟩ [.bool true]=some m2∧OAt m0 m2 u vo bo so ub sb none to' 0 tf' (sn.set 0 true,[],[(0,0)]):=by
 have hc:=h.cnt
 have hsl:=h.sl
 simp only [List.length_nil] at hc hsl
 obtain⟨m1,to',tf',rfl,s2,k2,c1,c2,c3⟩:=Zj1 hr Z03 Z7a h.st (by omega) (by simp) (by simp [Zam]) (by simp) (by simp)
 have c4:m.next≤tf':=by
  rcases c1 with⟨hn,_⟩ | c1
  ·exact absurd rfl hn
  ·exact c1
 rw [if_pos rfl] at k2
 obtain⟨m2,e2,o2,k3⟩:=Ztf (h.sn.keep k2 (by simp)) (i:=0) (by simp only;omega) true
 obtain⟨f1,f2,f3,f4,f5,f6⟩:=h.fr
 obtain⟨n1,n2,n3,n4⟩:=h.ne
 have m1n:m.next≤m1.next:=k2.1
 have m2n:m1.next≤m2.next:=k3.1
 have k0:m0.next≤m.next:=h.k.1
 refine⟨m1,to',tf',m2,rfl,e2,⟨(h.own.keep k2 (by simp)).keep k3 (by simpa using n1),o2,Sl.nil _ _ _ _,s2.keep k3 (fun hn=>by simp;omega),(h.k.trans k2).fresh k3 (by simpa using f2),⟨f1,f2,by omega,by omega,fun hn=>absurd rfl hn,fun hn=>⟨by omega,by have:=s2.flt hn;omega⟩⟩,⟨n1,n2,fun _=>⟨by omega,by omega⟩,fun hn=>absurd rfl hn⟩,by simpa using hsl,?_,?_⟩⟩
 ·simp only [List.length_cons,List.length_nil]
  rw [Zhp (by omega) hs];omega
 ·intro p hp
  simp at hp
  subst hp
  exact⟨hb0,by dsimp only;omega⟩
def Ya8 (m m1:Mem)(l:List Int)(v:Value):Prop:=∃ po pf,v=.slice po l.length l.length∧Sl m1 po l.length (ints l) 3 1 pf∧(po≠none→m.next≤pf)
set_option maxHeartbeats 8000000 in
theorem Zrd (hS:S 72=[])(hB:S 65=[])(hR:S 82=[]){Q:Nat→Prop}{u:UnT.D}{vo bo so:Option Addr}(hU:UAt Q m u vo bo so)(hQ:∀ f,Q f→f < m.next)(hb0:0 < nb u)(hnb:nb u≤1000)(hnx:Ztg u)
  {D:Nat} {O:List Int} (hO:Zlg u D (Zpq u)=some O) :
  ∃ v m1,Zag Tryd.prog TT S 72 [.agg (Zbw u vo bo so).toArray] m=some (v,m1)∧Ya8 m m1 O.reverse v∧Zaa m m1 []:=by
 obtain⟨oU,kU,nU⟩:=Zat (m:=m) (cs:=Zbw u vo bo so) (e:=34) rfl
 obtain⟨mB,hmB⟩:∃ mB,m.new (Zbw u vo bo so) 34=mB:=⟨_,rfl⟩
 obtain⟨ub,hub⟩:∃ ub,m.next=ub:=⟨_,rfl⟩
 rw [hmB,hub] at oU nU
 rw [hmB] at kU
 have u3:=oU.load1 (off:=3) rfl
 have hz:=Zvq (nb u) (by omega)
 rw [Zwk] at hz
 have n1:(nb u:Int)≤9223372036854775807:=by omega
 have n2:nb u * 1≤281474976710656:=by omega
 have n3:nb u≤281474976710656:=by omega
 have n4:(0:Int) < nb u:=by omega
 obtain⟨oW,kW,nW⟩:=Zat (m:=mB) (cs:=Zm5 (List.replicate (nb u) false)) (e:=4) rfl
 obtain⟨sb,hsb⟩:∃ ob,mB.next=ob:=⟨_,rfl⟩
 obtain⟨mD,hmD⟩:∃ mD,mB.new (Zm5 (List.replicate (nb u) false)) 4=mD:=⟨_,rfl⟩
 rw [hmD,hsb] at oW nW
 rw [hmD] at kW
 have u3D:=(oU.keep kW (by simp)).load1 (off:=3) rfl
 have A0:OAt m mD u vo bo so ub sb none none 0 0 (List.replicate (nb u) false,[],[]):=⟨oU.keep kW (by simp),oW,Sl.nil _ _ _ _,Sr.nil _ _ _ _,kU.trans kW,⟨by omega,by omega,by omega,by omega,fun h=>absurd rfl h,fun h=>absurd rfl h⟩,⟨by omega,fun h=>absurd rfl h,fun h=>absurd rfl h,fun h=>absurd rfl h⟩,by simp,by simp [List.count_replicate],fun p hp=>by simp at hp⟩
 have hop:=A0.open hb0 (by simp [List.getD_eq_getElem?_getD,hb0])
 refine Zfi 9 [16,25,46,83] k72 hS rfl ?_
 simp [-Int.natCast_add,-List.map_replicate,Zcu b34,Zkl Z94 ap4,Zau Z72,Za Z03 Z8d rfl,Za0 Z03 Z1e,hmB,hub,u3,hz,n1,n3,hmD,hsb,u3D,hb0]
 generalize hra:Zan _ _ _ _ _ _=ra
 obtain⟨mE,to0,tf0,mF0,rfl,eF,A1⟩:=hop ra hra
 simp [-Int.natCast_add,-List.map_replicate,hb0,eF]
 refine Zai 9 [16,25,46,83] (fun d E mF=>∃ (sn:List Bool) (pl:List Int) (st:List (Nat × Nat)) (po to:Option Addr) (pf tf:Nat),OAt m mF u vo bo so ub sb po to pf tf (sn,pl,st)∧Zlg u d (sn,pl,st)=some O∧
  E=[(1,.pointer (some ⟨ub,0,none⟩)),(3,.slice (some ⟨sb,0,none⟩) (nb u) (nb u)),(4,.slice po pl.length pl.length),(5,.slice to st.length st.length)]) D ⟨_,⟨_,_,_,_,_,_,_,A1,hO,rfl⟩,(by repeat' constructor)⟩ ?_
 clear A0 A1 hop hra eF
 rintro d E mF ih ⟨sn,pl,st,po,to,pf,tf,A,hd,rfl⟩
 match st,d,A,hd with
 | [],d,A,hd =>
  clear ih
  have hd':O=pl:=by
   cases d with
   | zero=>simp only [Zlg,Option.some.injEq] at hd;exact hd.symm
   | succ d=>simp only [Zlg] at hd;cases hd
  subst hd'
  have hcl:=Zh7 sn
  have hc:=A.cnt
  have hsl:=A.sl
  simp only [List.length_nil] at hc hsl
  obtain⟨v,mR,cR,sR,kR⟩:=Z4v hR A.pl (by dsimp only;omega)
  dsimp only at cR sR kR
  simp [-Int.natCast_add,-List.map_reverse,cR]
  refine⟨⟨po,pf,by simp,by simpa using sR,fun hn=>(A.fr.2.2.2.2.1 hn).1⟩,A.k.fresh kR fun f hf=>?_⟩
  split at hf
  ·simp at hf
  ·rename_i hn;simp at hf;rw [hf];exact (A.fr.2.2.2.2.1 hn).1
 | (b,i)::st,0,A,hd=>simp only [Zlg] at hd;cases hd
 | (b,i)::st,d+1,A,hd =>
  have hbi:=A.ok (b,i) (by simp)
  simp only at hbi
  have hcl:=Zh7 sn
  have hc:=A.cnt
  have hsl:=A.sl
  simp only [List.length_cons] at hc hsl
  have s1:((st.length:Int)+1 > 0):=by omega
  have s2:(0:Int) < ((st.length+1:Nat):Int):=by omega
  have ws:IntKind.i64.wrap (((st.length+1:Nat):Int) - 1)=(st.length:Int):=by rw [Zab (by omega) (by omega)];omega
  have s3:(st.length:Int) < ((st.length+1:Nat):Int):=by omega
  have s4:(st.length:Int)≤9223372036854775807:=by omega
  have s5:st.length < st.length+1:=by omega
  obtain⟨tb,rest,hto,oT⟩:=A.st.own (by simp)
  subst hto
  simp only [List.length_cons] at ih oT ⊢
  have hl:=Zoy st
  have a0:(stC ((b,i)::st)++rest)[st.length * 2]?=some (.int .i64 (b:Int)):=by rw [Zet,← hl];simp
  have a1:(stC ((b,i)::st)++rest)[st.length * 2+1]?=some (.int .i64 (i:Int)):=by rw [Zet,← hl];simp
  have t0:=oT.load1 a0
  have t1:=oT.load1 a1
  obtain⟨bb,vo',no',po',hbo,ldb,_,hno',_⟩:=Zgf (hU.keep A.k (by simp)) hbi.1
  have ldn:=Zb8 (k:=3) ldb rfl
  have hbx:=hnx _ (List.getElem_mem hbi.1)
  have eb:nxD u b=(u.2.2.2.1[b]'hbi.1).2.2.2.1:=congrArg (fun x:Zfk.D=>x.2.2.2.1) (Zci hbi.1)
  have hbx2:(nxD u b).length≤2∧∀ k∈nxD u b,(0:Int)≤k∧k < (nb u:Int):=by rw [eb];exact hbx
  rw [← eb] at ldn hno'
  have u3F:=A.own.load1 (off:=3) rfl
  have b1:(b:Int) < nb u:=by omega
  have b2:(b:Int)≤9223372036854775807:=by omega
  have hst:Zl3 u (sn,pl,(b,i)::st)=if i=(nxD u b).length then (sn,pl++[(b:Int)],st) else
   if sn.getD ((nxD u b).getD i 0).toNat false=true then (sn,pl,(b,i+1)::st) else
   (sn.set ((nxD u b).getD i 0).toNat true,pl,(((nxD u b).getD i 0).toNat,0)::(b,i+1)::st):=rfl
  rw [Zlg,hst] at hd
  obtain⟨l,hll⟩:∃ l,nxD u b=l:=⟨_,rfl⟩
  rw [hll] at ldn hno' hbx2 hd
  rw [hbo] at u3F
  have hpop:=fun r=>A.pop hnb (r:=r)
  by_cases hil:i=l.length
  ·have hil':(i:Int)=l.length:=by omega
   rw [if_pos hil] at hd
   simp [-Int.natCast_add,Za u36 bs3 rfl,Za0 u36 sz3,ws,s4,s5,t0,t1,u3F,b2,hbi.1,ldn,hil']
   generalize hra:Zan _ _ _ _ _ _=ra
   obtain⟨mG,b',pf',rfl,A2,_⟩:=hpop ra hra
   simp [-Int.natCast_add,Zc2 Z03 Z1e,ws,s4]
   exact ih _ _ _ _ ⟨sn,_,st,some ⟨b',0,none⟩,_,pf',tf,A2,hd,rfl⟩ (by omega) ⟨by rfl,by rfl,by simp [Zbu],by rfl,trivial⟩
  ·have hil':¬ (i:Int)=l.length:=by omega
   have hlt:i < l.length:=by have:=hbi.2;rw [hll] at this;omega
   have hlt1:(i:Int) < l.length:=by omega
   have i3:(i:Int)≤9223372036854775807:=by omega
   have wi:IntKind.i64.wrap ((i:Int)+1)=((i+1:Nat):Int):=by rw [Zab (by omega) (by omega)];omega
   rw [if_neg hil] at hd
   obtain⟨xb,rfl,li⟩:=hno'.get hlt
   have hkb:=hbx2.2 _ (Zas hlt)
   obtain⟨k,hk⟩:∃ k:Nat,l.getD i 0=(k:Int):=⟨(l.getD i 0).toNat,by omega⟩
   rw [hk,Int.toNat_natCast] at hd
   rw [hk] at li hkb
   have hkn:k < nb u:=by omega
   have k1:(k:Int) < nb u:=by omega
   have k2:(k:Int)≤9223372036854775807:=by omega
   have hbt:Zc (k:Int) (nb u)=true:=by unfold Zc;simp;omega
   obtain⟨tb',mG,hto',_,_,eG,A2,_⟩:=A.inc (by rw [hll];exact hlt)
   have htb:tb'=tb:=by simpa using hto'.symm
   rw [htb] at eG
   have br:=Zgh (m:=mG) hB k (nb u)
   rw [hbt] at br
   have lsn:=A2.sn.load1 (off:=k) (Z1o (by rw [A2.sl];exact hkn))
   dsimp only at lsn
   obtain⟨q,hq⟩:∃ q,sn.getD k false=q:=⟨_,rfl⟩
   rw [hq] at lsn hd
   cases q
   ·rw [if_neg (by simp)] at hd
    obtain⟨mH,eH,hpush⟩:=A2.push hnb hkn hq
    simp only [List.length_cons] at hpush
    simp [-Int.natCast_add,-List.getD_eq_getElem?_getD,Zau Z72,Za Z03 Z8d rfl,Za0 Z03 Z1e,ws,s4,s5,t0,t1,u3F,b2,hbi.1,ldn,hil',li,hlt,i3,wi,eG,br,lsn,k2,hkn,eH]
    generalize hra:Zan _ _ _ _ _ _=ra
    obtain⟨mI,to',tf',rfl,A3,_⟩:=hpush ra hra
    simp [-Int.natCast_add]
    exact ih _ _ _ _ ⟨_,pl,_,po,to',pf,tf',A3,hd,rfl⟩ (by omega) (by repeat' constructor)
   ·rw [if_pos rfl] at hd
    simp [-Int.natCast_add,-List.getD_eq_getElem?_getD,ws,s4,s5,t0,t1,u3F,b2,hbi.1,ldn,hil',li,hlt,i3,wi,eG,br,lsn,k2,hkn]
    exact ih _ _ _ _ ⟨sn,pl,_,po,_,pf,tf,A2,hd,rfl⟩ (by omega) (by repeat' constructor)
end Go.Proofs.YtlogdohlcdhepaaDoor.base
end
section
set_option maxRecDepth 100000
namespace Go.Proofs.YtlogdohlcdhepaaDoor.base
open Go.Sh gen
variable {S:Zb2}{m:Mem}
def Zdw (P I:List Int):Nat→Nat→Nat→Option Nat
 | 0,a,b=>if a=b then some a else none
 | d+1,a,b=>if a=b then none else if P.getD b 0 < P.getD a 0 then Zdw P I d (I.getD a 0).toNat b else Zdw P I d a (I.getD b 0).toNat
structure DAt (m:Mem)(n ib pb ix px:Nat)(I P:List Int):Prop where
 vi:Own m ib [.slice (some ⟨ix,0,none⟩) n n] 36 ib
 vp:Own m pb [.slice (some ⟨px,0,none⟩) n n] 36 pb
 oi:Own m ix (ints I) 3 ix
 op:Own m px (ints P) 3 px
 li:I.length=n
 lp:P.length=n
 ne:ib≠pb∧ib≠ix∧ib≠px∧pb≠ix∧pb≠px∧ix≠px
theorem DAt.keep {m1:Mem}{n ib pb ix px:Nat}{I P:List Int}{fs:List Nat}(h:DAt m n ib pb ix px I P)(k:Zaa m m1 fs)(h1:ib∉fs)(h2:pb∉fs)(h3:ix∉fs)(h4:px∉fs):DAt m1 n ib pb ix px I P:=
 ⟨h.vi.keep k h1,h.vp.keep k h2,h.oi.keep k h3,h.op.keep k h4,h.li,h.lp,h.ne⟩
theorem DAt.seti {n ib pb ix px:Nat}{I P:List Int}(h:DAt m n ib pb ix px I P){i:Nat}(hi:i < n)(v:Int) :
  ∃ m1,Zaf m ⟨ix,i,none⟩ [.int .i64 v]=some m1∧DAt m1 n ib pb ix px (I.set i v) P∧Zaa m m1 [ix]:=by
 obtain⟨m1,e1,o1,k1⟩:=Zhx h.oi (i:=i) (by rw [h.li];exact hi) v
 obtain⟨n1,n2,n3,n4,n5,n6⟩:=h.ne
 exact⟨m1,e1,⟨h.vi.keep k1 (by simpa using n2),h.vp.keep k1 (by simpa using n4),o1,h.op.keep k1 (by simpa using Ne.symm n6),by simpa using h.li,h.lp,h.ne⟩,k1⟩
theorem DAt.setp {n ib pb ix px:Nat}{I P:List Int}(h:DAt m n ib pb ix px I P){i:Nat}(hi:i < n)(v:Int) :
  ∃ m1,Zaf m ⟨px,i,none⟩ [.int .i64 v]=some m1∧DAt m1 n ib pb ix px I (P.set i v)∧Zaa m m1 [px]:=by
 obtain⟨m1,e1,o1,k1⟩:=Zhx h.op (i:=i) (by rw [h.lp];exact hi) v
 obtain⟨n1,n2,n3,n4,n5,n6⟩:=h.ne
 exact⟨m1,e1,⟨h.vi.keep k1 (by simpa using n3),h.vp.keep k1 (by simpa using n5),h.oi.keep k1 (by simpa using n6),o1,h.li,by simpa using h.lp,h.ne⟩,k1⟩
def Z9u (n:Nat)(I:List Int):Prop:=∀ x < n,0≤I.getD x 0→I.getD x 0 < n∧0≤I.getD (I.getD x 0).toNat 0
set_option maxHeartbeats 4000000 in
theorem Z1x (hS:S 73=[]){n ib pb ix px:Nat}{I P:List Int}(h:DAt m n ib pb ix px I P)(hn:n≤1000000)(hI:Z9u n I){a b c D:Nat}(ha:a < n)(hb:b < n)(ha0:0≤I.getD a 0)(hb0:0≤I.getD b 0)(hm:Zdw P I D a b=some c) :
  Zag Tryd.prog TT S 73 [.int .i64 (a:Int),.int .i64 (b:Int),.pointer (some ⟨pb,0,none⟩),.pointer (some ⟨ib,0,none⟩)] m=some (.int .i64 (c:Int),m):=by
 have vi:=h.vi.load1 (off:=0) rfl
 have vp:=h.vp.load1 (off:=0) rfl
 refine Zb3 7 [9,18] k73 hS rfl ?_
 simp [-Int.natCast_add]
 refine Zai 7 [9,18] (fun d E mF=>∃ (a b:Nat),mF=m∧a < n∧b < n∧0≤I.getD a 0∧0≤I.getD b 0∧Zdw P I d a b=some c∧
  E=[(0,.int .i64 (a:Int)),(1,.int .i64 (b:Int)),(2,.pointer (some ⟨pb,0,none⟩)),(3,.pointer (some ⟨ib,0,none⟩))]) D ⟨_,⟨a,b,rfl,ha,hb,ha0,hb0,hm,rfl⟩,(by repeat' constructor)⟩ ?_
 clear ha hb ha0 hb0 hm
 rintro d E mF ih ⟨a,b,rfl,ha,hb,ha0,hb0,hm,rfl⟩
 have a1:(a:Int) < n:=by omega
 have b1:(b:Int) < n:=by omega
 have a2:(a:Int)≤9223372036854775807:=by omega
 have b2:(b:Int)≤9223372036854775807:=by omega
 have pa:=h.op.load1 (off:=a) (Zce (by rw [h.lp];exact ha))
 have pb':=h.op.load1 (off:=b) (Zce (by rw [h.lp];exact hb))
 have ia:=h.oi.load1 (off:=a) (Zce (by rw [h.li];exact ha))
 have ib':=h.oi.load1 (off:=b) (Zce (by rw [h.li];exact hb))
 by_cases e:a=b
 ·subst e
  have:c=a:=by
   cases d with
   | zero=>simp only [Zdw,if_true,Option.some.injEq] at hm;exact hm.symm
   | succ d=>simp only [Zdw,if_true] at hm;cases hm
  subst this
  simp [-Int.natCast_add,-List.getD_eq_getElem?_getD]
 have e1:¬ (a:Int)=b:=by omega
 cases d with
 | zero=>simp only [Zdw,if_neg e] at hm;cases hm
 | succ d =>
  rw [Zdw,if_neg e] at hm
  have ua:=hI a ha ha0
  have ub:=hI b hb hb0
  obtain⟨a',ea⟩:∃ a':Nat,I.getD a 0=(a':Int):=⟨(I.getD a 0).toNat,by omega⟩
  obtain⟨b',eb⟩:∃ b':Nat,I.getD b 0=(b':Int):=⟨(I.getD b 0).toNat,by omega⟩
  rw [ea] at ua hm ia ha0
  rw [eb] at ub hm ib' hb0
  rw [Int.toNat_natCast] at ua ub
  rw [Int.toNat_natCast,Int.toNat_natCast] at hm
  obtain⟨x,hx⟩:∃ x,P.getD a 0=x:=⟨_,rfl⟩
  obtain⟨y,hy⟩:∃ x,P.getD b 0=x:=⟨_,rfl⟩
  rw [hx] at pa hm
  rw [hy] at pb' hm
  by_cases hxy:y < x
  ·rw [if_pos hxy] at hm
   simp [-Int.natCast_add,-List.getD_eq_getElem?_getD,e1,vp,vi,a2,b2,ha,hb,pa,pb',ia,hxy]
   exact ih _ _ _ _ ⟨a',b,rfl,by omega,hb,ua.2,by rw [eb];omega,hm,rfl⟩ (by omega) (by repeat' constructor)
  ·rw [if_neg hxy] at hm
   simp [-Int.natCast_add,-List.getD_eq_getElem?_getD,e1,vp,vi,a2,b2,ha,hb,pa,pb',ib',hxy]
   exact ih _ _ _ _ ⟨a,b',rfl,ha,by omega,by rw [ea];omega,ub.2,hm,rfl⟩ (by omega) (by repeat' constructor)
end Go.Proofs.YtlogdohlcdhepaaDoor.base
end
