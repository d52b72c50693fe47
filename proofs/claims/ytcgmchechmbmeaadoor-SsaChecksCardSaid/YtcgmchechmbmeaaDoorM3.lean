/- This text proves what ssa.checker's 'stand' answers and leaves, Zb1 the abstract run. Condition: nothing is known of the calls ahead ('S f = []'). -/
import Derived.Test.YtcgmchechmbmeaaDoorM2
set_option linter.unusedVariables false
set_option linter.unusedSimpArgs false
section
set_option maxRecDepth 100000
namespace Go.Proofs.YtcgmchechmbmeaaDoor.base
open Go.Sh gen
variable {S:Zb7}{m:Mem}
abbrev StS:=List Int × List Int × Bool × Nat
def Zaw (op:Int):Bool:=decide (op=21) || decide (op=1)
def Ze8 (u:UnT.D)(b k:Nat)(s:StS)(v:Int):Option StS:=
 if !Zat v (nv u) || decide (0≤s.1.getD v.toNat 0) then none else
 if (Zaw (Za0 u v).1 && !s.2.2.1) || ((decide ((Za0 u v).1=1) != decide (b=0)) && Zaw (Za0 u v).1) then none else
 some (s.1.set v.toNat b,s.2.1.set v.toNat k,Zaw (Za0 u v).1,s.2.2.2+1)
def Zcm (u:UnT.D)(b:Nat):Nat→List Int→StS→Option StS
 | _,[],s=>some s
 | k,v::r,s=>(Ze8 u b k s v).bind (Zcm u b (k+1) r)
def Zci (u:UnT.D):Nat→List Zcj.D→StS→Option StS
 | _,[],s=>some s
 | b,x::r,s=>(Zcm u b 0 x.1 (s.1,s.2.1,true,s.2.2.2)).bind (Zci u (b+1) r)
def Zcf (u:UnT.D):Option StS:=(Zci u 0 u.2.2.2.1 (List.replicate (nv u) (-1),List.replicate (nv u) 0,true,0)).filter fun s=>s.2.2.2=nv u
structure Zop (m1:Mem)(u:UnT.D)(vo bo so:Option Addr)(r3:Value)(cb cf b1 b2 f1 f2:Nat)(bl pl:List Int):Prop where
 o1:Own m1 b1 (ints bl) 3 f1
 o2:Own m1 b2 (ints pl) 3 f2
 c:Own m1 cb (ckC u vo bo so (.slice (some ⟨b1,0,none⟩) (nv u) (nv u)) (.slice (some ⟨b2,0,none⟩) (nv u) (nv u)) r3) 70 cf
 n1:f1≠f2
 n2:f1≠cf
 n3:f2≠cf
def Z3e (m m1:Mem)(u:UnT.D)(vo bo so:Option Addr)(r3:Value)(cb cf:Nat)(v:Value):Prop:=
 v=.bool (Zcf u).isSome∧∀ s,Zcf u=some s→∃ b1 b2 f1 f2,Zop m1 u vo bo so r3 cb cf b1 b2 f1 f2 s.1 s.2.1∧m.next≤f1∧m.next≤f2
theorem Zjy {m m1:Mem}{u:UnT.D}{vo bo so:Option Addr}{r3:Value}{cb cf:Nat}(h:Zcf u=none):Z3e m m1 u vo bo so r3 cb cf (.bool false):=
 ⟨by rw [h];rfl,fun s hs=>by rw [h] at hs;cases hs⟩
theorem Zop.keep {m m1:Mem}{u:UnT.D}{vo bo so:Option Addr}{r3:Value}{cb cf b1 b2 f1 f2:Nat}{bl pl:List Int}{fs:List Nat}(h:Zop m u vo bo so r3 cb cf b1 b2 f1 f2 bl pl)(k:Zaa m m1 fs)(h1:f1∉fs)(h2:f2∉fs)(h3:cf∉fs):Zop m1 u vo bo so r3 cb cf b1 b2 f1 f2 bl pl:=
 ⟨h.o1.keep k h1,h.o2.keep k h2,h.c.keep k h3,h.n1,h.n2,h.n3⟩
theorem Zop.keep0 {m m1:Mem}{u:UnT.D}{vo bo so:Option Addr}{r3:Value}{cb cf b1 b2 f1 f2:Nat}{bl pl:List Int}(h:Zop m u vo bo so r3 cb cf b1 b2 f1 f2 bl pl)(k:Zaa m m1 []):Zop m1 u vo bo so r3 cb cf b1 b2 f1 f2 bl pl:=h.keep k (by simp) (by simp) (by simp)
theorem Zop.set1 {u:UnT.D}{vo bo so:Option Addr}{r3:Value}{cb cf b1 b2 f1 f2:Nat}{bl pl:List Int}(h:Zop m u vo bo so r3 cb cf b1 b2 f1 f2 bl pl){i:Nat}(hi:i < bl.length)(v:Int) :
  ∃ m1,Zad m ⟨b1,i,none⟩ [.int .i64 v]=some m1∧Zop m1 u vo bo so r3 cb cf b1 b2 f1 f2 (bl.set i v) pl∧Zaa m m1 [f1]:=by
 obtain⟨m1,e1,o1,k1⟩:=Zgb h.o1 hi v
 have:=h.n1;have:=h.n2
 exact⟨m1,e1,⟨o1,h.o2.keep k1 (by simp;omega),h.c.keep k1 (by simp;omega),h.n1,h.n2,h.n3⟩,k1⟩
theorem Zop.set2 {u:UnT.D}{vo bo so:Option Addr}{r3:Value}{cb cf b1 b2 f1 f2:Nat}{bl pl:List Int}(h:Zop m u vo bo so r3 cb cf b1 b2 f1 f2 bl pl){i:Nat}(hi:i < pl.length)(v:Int) :
  ∃ m1,Zad m ⟨b2,i,none⟩ [.int .i64 v]=some m1∧Zop m1 u vo bo so r3 cb cf b1 b2 f1 f2 bl (pl.set i v)∧Zaa m m1 [f2]:=by
 obtain⟨m1,e1,o1,k1⟩:=Zgb h.o2 hi v
 have:=h.n1;have:=h.n3
 exact⟨m1,e1,⟨h.o1.keep k1 (by simp;omega),o1,h.c.keep k1 (by simp;omega),h.n1,h.n2,h.n3⟩,k1⟩
set_option maxHeartbeats 8000000 in
theorem Zys (hS:S 35=[])(hB:S 54=[]){Q:Nat→Prop}{u:UnT.D}{vo bo so:Option Addr}(hU:UAt Q m u vo bo so)(hQ:∀ f,Q f→f < m.next)(hnu:nv u≤1000000)(hnb:nb u≤1000){cb cf:Nat}{r1 r2 r3:Value}(hC:Own m cb (ckC u vo bo so r1 r2 r3) 70 cf)(hq:¬ Q cf)
  (hbl:∀ b∈u.2.2.2.1,List.length b.1≤20000000000000) :
  ∃ v m1,Zaq Tryd.prog TT S 35 [.pointer (some ⟨cb,0,none⟩)] m=some (v,m1)∧
   Z3e m m1 u vo bo so r3 cb cf v∧Zaa m m1 [cf]:=by
 have l2:=hC.load1 (off:=2) rfl
 have z1:=Zmn (nv u) hnu
 rw [Zqr] at z1
 have z2:(nv u:Int)≤9223372036854775807:=by omega
 have z3:nv u * 8≤281474976710656:=by omega
 obtain⟨oA,kA,nA⟩:=Zas (m:=m) (cs:=ints (List.replicate (nv u) 0)) (e:=3) rfl
 obtain⟨b1,hb1⟩:∃ b1,m.next=b1:=⟨_,rfl⟩
 obtain⟨mA,hmA⟩:∃ mA,m.new (ints (List.replicate (nv u) 0)) 3=mA:=⟨_,rfl⟩
 rw [hmA,hb1] at oA nA
 rw [hmA] at kA
 have hCA:=hC.keep kA (by simp)
 have lA:=hCA.load1 (off:=2) rfl
 obtain⟨mB,eB,oB,kB⟩:=Zao (r:=_) rfl hCA (off:=5) (vs:=[.slice (some ⟨b1,0,none⟩) (nv u) (nv u)]) (by simp) (by simp [Zae])
 simp [Zb1] at oB
 have lB:=oB.load1 (off:=2) rfl
 obtain⟨oC,kC,nC⟩:=Zas (m:=mB) (cs:=ints (List.replicate (nv u) 0)) (e:=3) rfl
 obtain⟨b2,hb2⟩:∃ b2,mB.next=b2:=⟨_,rfl⟩
 obtain⟨mC,hmC⟩:∃ mC,mB.new (ints (List.replicate (nv u) 0)) 3=mC:=⟨_,rfl⟩
 rw [hmC,hb2] at oC nC
 rw [hmC] at kC
 have hCC:=oB.keep kC (by simp)
 have lC:=hCC.load1 (off:=2) rfl
 obtain⟨mD,eD,oD,kD⟩:=Zao (r:=_) rfl hCC (off:=6) (vs:=[.slice (some ⟨b2,0,none⟩) (nv u) (nv u)]) (by simp) (by simp [Zae])
 simp [Zb1] at oD
 have lD:=oD.load1 (off:=2) rfl
 have l5:=oD.load1 (off:=5) rfl
 have l3:=oD.load1 (off:=3) rfl
 have fA:=oA.flt
 have fC:=hC.flt
 have b12:b1 < b2:=by have:=kB.1;omega
 have K0:Zaa m mD [cf]:=Zcx (Zcx (Zcx kA.nil kB (by simp)) kC (by simp)) kD (by simp)
 have C0:Zop mD u vo bo so r3 cb cf b1 b2 b1 b2 (List.replicate (nv u) 0) (List.replicate (nv u) 0):=
  ⟨((oA.keep kB (by simp;omega)).keep kC (by simp)).keep kD (by simp;omega),oC.keep kD (by simp;omega),oD,by omega,by omega,by omega⟩
 have hm1:m.next≤b1:=by omega
 have hm2:m.next≤b2:=by omega
 have cfm:cf < m.next:=hC.flt
 refine Zho 62 [62,84,114] k35 hS rfl ?_
 simp [-Int.natCast_add,-List.map_replicate,Zfa u22 ap3,l2,z1,z2,z3,hmA,hb1,lA,eB,hmC,hb2,eD,l5]
 clear oA kA nA hCA lA eB oB kB lB oC kC nC hCC lC eD kD hC l2
 refine Zah 62 [62,84,114] (fun d E mF=>∃ (i:Nat),nv u - i=d∧i≤nv u∧Zop mF u vo bo so r3 cb cf b1 b2 b1 b2 (List.replicate i (-1)++List.replicate (nv u - i) 0) (List.replicate (nv u) 0)∧Zaa m mF [cf]∧
  E=[(0,.pointer (some ⟨cb,0,none⟩)),(36,.int .i64 (nv u)),(37,.int .i64 (i:Int))]) _ ⟨_,⟨0,rfl,by omega,by simpa using C0,K0,rfl⟩,⟨by rfl,by rfl,by rfl,trivial⟩⟩ ?_
 rintro d E mF ih ⟨i,hd,hi,hF,kF,rfl⟩
 have im:(i:Int)≤9223372036854775807:=by omega
 have l5:=hF.c.load1 (off:=5) rfl
 by_cases hlt:i < nv u
 ·have i1:(i:Int) < nv u:=by omega
  have wi:IntKind.i64.wrap ((i:Int)+1)=((i+1:Nat):Int):=by rw [Zab (by omega) (by omega)];omega
  obtain⟨mG,eG,hG,kG⟩:=hF.set1 (i:=i) (by simp;omega) (-1)
  rw [Zuo _ _ _ _ hlt] at hG
  simp [-Int.natCast_add,i1,im,hlt,l5,eG,wi]
  exact ih _ _ _ _ ⟨i+1,rfl,by omega,hG,Zcx kF kG (by simp;omega),rfl⟩ (by omega) ⟨by rfl,by rfl,by rfl,trivial⟩
 clear ih
 have i1:¬ (i:Int) < nv u:=by omega
 have ei:i=nv u:=by omega
 rw [ei,Nat.sub_self,List.replicate_zero,List.append_nil] at hF
 have l3:=hF.c.load1 (off:=3) rfl
 have hs0:Zcf u=(Zci u 0 u.2.2.2.1 (List.replicate (nv u) (-1),List.replicate (nv u) 0,true,0)).filter fun s=>s.2.2.2=nv u:=rfl
 have hlen0:(List.replicate (nv u) (-1:Int)).length=nv u:=by simp
 have hlen1:(List.replicate (nv u) (0:Int)).length=nv u:=by simp
 simp [-Int.natCast_add,-List.map_replicate,i1,l3]
 generalize List.replicate (nv u) (-1:Int)=bl0 at *
 generalize List.replicate (nv u) (0:Int)=pl0 at *
 obtain⟨LL,hLL⟩:∃ LL:Nat,LL=20000000000000:=⟨_,rfl⟩
 generalize hB0:Zci u 0 u.2.2.2.1 (bl0,pl0,true,0)=R0 at *
 refine Zah 62 [62,84,114] (fun d E mG=>∃ (b:Nat) (bl pl:List Int) (fst:Bool) (met:Nat),nb u - b=d∧b≤nb u∧Zop mG u vo bo so r3 cb cf b1 b2 b1 b2 bl pl∧bl.length=nv u∧pl.length=nv u∧Zaa m mG [cf]∧met≤b * LL∧Zci u b (u.2.2.2.1.drop b) (bl,pl,fst,met)=R0∧
  E=[(0,.pointer (some ⟨cb,0,none⟩)),(4,.int .i64 (met:Int)),(51,.slice bo (nb u) (nb u)),(52,.int .i64 (nb u)),(53,.int .i64 (b:Int))]) _ ⟨_,⟨0,bl0,pl0,true,0,rfl,by omega,hF,hlen0,hlen1,kF,by omega,by rw [List.drop_zero];exact hB0,rfl⟩,(by repeat' constructor)⟩ ?_
 clear hF l3 kF hlen0 hlen1 l5
 rintro d E mG ih ⟨b,bl,pl,fst,met,hd,hb,hG,hbll,hpll,kG,hmet,hR,rfl⟩
 have bm:(b:Int)≤9223372036854775807:=by omega
 by_cases hlt:b < nb u
 ·have b1':(b:Int) < nb u:=by omega
  have wb:IntKind.i64.wrap ((b:Int)+1)=((b+1:Nat):Int):=by rw [Zab (by omega) (by omega)];omega
  have hUG:=hU.keep kG (by simpa using hq)
  obtain⟨bb,vo',no',po',hbo,ldb,hvo',hno',hpo'⟩:=Zf6 hUG hlt
  have hbx:=hbl _ (List.getElem_mem hlt)
  rw [List.drop_eq_getElem_cons hlt,Zci] at hR
  generalize u.2.2.2.1[b]=X at *
  obtain⟨l,hl⟩:∃ l:List Int,X.1=l:=⟨_,rfl⟩
  rw [hl] at hR hbx hvo'
  unfold Zw1 at ldb
  rw [hl] at ldb
  rw [hbo] at ih ⊢
  obtain⟨oZ,kZ,nZ⟩:=Zas (m:=mG) (cs:=[.slice none 0 0,.int .i64 0,.int .i64 0,.slice none 0 0,.slice none 0 0,.int .i64 0]) (e:=36) rfl
  obtain⟨bx,hbx'⟩:∃ bx,mG.next=bx:=⟨_,rfl⟩
  obtain⟨m3,e3,oX,kX⟩:=Zao (r:=_) rfl oZ (off:=0) (vs:=[.slice vo' l.length l.length,.int .i64 X.2.1,.int .i64 X.2.2.1,.slice no' X.2.2.2.1.length X.2.2.2.1.length,.slice po' X.2.2.2.2.1.length X.2.2.2.2.1.length,.int .i64 X.2.2.2.2.2.1]) (by simp) (by simp [Zau,Zae])
  simp [Zb1] at oX
  have k3:=kZ.fresh kX (by simp)
  rw [hbx'] at oX nZ e3
  have x0:=oX.load1 (off:=0) rfl
  simp [-Int.natCast_add,b1',bm,hlt,ldb,hbx',e3,x0]
  have hGX:=hG.keep0 k3
  have K3:Zaa m m3 [cf]:=kG.trans k3.nil
  have eR0:R0=none→Zcf u=none:=fun h=>by rw [hs0,h];rfl
  refine Zah 62 [62,84,114] (fun d2 E mH=>∃ (k:Nat) (bl pl:List Int) (fst:Bool) (met:Nat),l.length - k=d2∧k≤l.length∧Zop mH u vo (some ⟨bb,0,none⟩) so r3 cb cf b1 b2 b1 b2 bl pl∧bl.length=nv u∧pl.length=nv u∧Zaa m mH [cf]∧Zaa m3 mH [cf,b1,b2]∧met≤b * LL+k∧(Zcm u b k (l.drop k) (bl,pl,fst,met)).bind (Zci u (b+1) (u.2.2.2.1.drop (b+1)))=R0∧
   E=[(0,.pointer (some ⟨cb,0,none⟩)),(4,.int .i64 (met:Int)),(5,.int .i64 (b:Int)),(7,.bool fst),(51,.slice (some ⟨bb,0,none⟩) (nb u) (nb u)),(52,.int .i64 (nb u)),(53,.int .i64 (b:Int)),(59,.slice vo' l.length l.length),(60,.int .i64 l.length),(61,.int .i64 (k:Int))]) _ ⟨_,⟨0,bl,pl,true,met,rfl,by omega,by rw [← hbo];exact hGX,hbll,hpll,K3,.refl _ _,by omega,by rw [List.drop_zero];exact hR,rfl⟩,(by repeat' constructor)⟩ ?_
  clear hR hG hGX hbll hpll hmet bl pl fst met
  rintro d2 E mH ih2 ⟨k,bl,pl,fst,met,hd2,hk,hH,hbll,hpll,kH,k3H,hmet,hR,rfl⟩
  have km:(k:Int)≤9223372036854775807:=by omega
  by_cases hkt:k < l.length
  ·have k1:(k:Int) < l.length:=by omega
   have wk:IntKind.i64.wrap ((k:Int)+1)=((k+1:Nat):Int):=by rw [Zab (by omega) (by omega)];omega
   have wm:IntKind.i64.wrap ((met:Int)+1)=((met+1:Nat):Int):=by
    have:b * LL≤1000 * LL:=Nat.mul_le_mul_right _ (by omega)
    rw [Zab (by omega) (by omega)];omega
   obtain⟨vb,hvb,lk0⟩:=((hvo'.keep k3 (by simp)).keep k3H (by simp;exact⟨hq,fun h=>by have:=hQ _ h;omega,fun h=>by have:=hQ _ h;omega⟩)).get hkt
   rw [hvb] at ih2 ⊢
   obtain⟨v,hv⟩:∃ v,l.getD k 0=v:=⟨_,rfl⟩
   rw [hv] at lk0
   have hdrop:l.drop k=v::l.drop (k+1):=by
    rw [List.drop_eq_getElem_cons hkt,← hv,List.getD_eq_getElem?_getD,List.getElem?_eq_getElem hkt];rfl
   rw [hdrop,Zcm] at hR
   have br:=fun k n=>Zgo (m:=mH) hB k n
   have hc2:=hH.c.load1 (off:=2) rfl
   have hc5:=hH.c.load1 (off:=5) rfl
   have hc6:=hH.c.load1 (off:=6) rfl
   by_cases hbv:Zat v (nv u)=true
   case neg =>
    have hbv':Zat v (nv u)=false:=by simpa using hbv
    have hno:Zcf u=none:=eR0 (by rw [← hR];simp [Ze8,hbv'])
    simp [-Int.natCast_add,k1,km,hkt,lk0,hc2,br,hbv']
    exact⟨Zjy hno,kH⟩
   have hbv2:=hbv
   unfold Zat at hbv2
   simp only [Bool.and_eq_true,decide_eq_true_eq] at hbv2
   obtain⟨n,rfl⟩:∃ n:Nat,v=(n:Int):=⟨v.toNat,by omega⟩
   have hn:n < nv u:=by omega
   have hn1:(n:Int) < nv u:=by omega
   have hn2:(n:Int)≤9223372036854775807:=by omega
   have lb1:=hH.o1.load1 (off:=n) (Zcq (by omega))
   obtain⟨w,hw⟩:∃ w,bl.getD n 0=w:=⟨_,rfl⟩
   rw [hw] at lb1
   by_cases hw0:0≤w
   ·have hno:Zcf u=none:=eR0 (by rw [← hR];simp [Ze8,hbv,hw,hw0,-List.getD_eq_getElem?_getD])
    simp [-Int.natCast_add,-List.getD_eq_getElem?_getD,k1,km,hkt,lk0,hc2,hc5,br,hbv,hn2,hn,lb1,hw0]
    exact⟨Zjy hno,kH⟩
   have hno1:Zaw (Za0 u (n:Int)).1 && !fst=true∨(decide ((Za0 u (n:Int)).1=1) != decide (b=0)) && Zaw (Za0 u (n:Int)).1=true→Zcf u=none:=fun h=>eR0 (by
    rw [← hR,Ze8,if_neg (by simp [hbv,hw,hw0,-List.getD_eq_getElem?_getD]),if_pos (by simpa using h)];rfl)
   have hgo:¬ (Zaw (Za0 u (n:Int)).1 && !fst=true∨(decide ((Za0 u (n:Int)).1=1) != decide (b=0)) && Zaw (Za0 u (n:Int)).1=true)→(Zcm u b (k+1) (l.drop (k+1)) (bl.set n b,pl.set n k,Zaw (Za0 u (n:Int)).1,met+1)).bind (Zci u (b+1) (u.2.2.2.1.drop (b+1)))=R0:=fun h=>by
    rw [← hR,Ze8,if_neg (by simp [hbv,hw,hw0,-List.getD_eq_getElem?_getD]),if_neg (by simpa using h)];rfl
   obtain⟨xb,ao',fa,hxv,ldx,_,_⟩:=Zi2 (hU.keep kH (by simpa using hq)) hn
   have lop:=Zbr (k:=0) ldx rfl
   rw [Nat.add_zero] at lop
   rw [Zdb hn] at hno1 hgo
   obtain⟨o,ho⟩:∃ o:Int,(u.2.2.1[n]).1=o:=⟨_,rfl⟩
   rw [ho] at lop
   rw [show (u.2.2.1[n]).1=o from ho] at hno1 hgo
   obtain⟨mI,eI,hI,kI⟩:=hH.set1 (i:=n) (by omega) b
   obtain⟨mJ,eJ,hJ,kJ⟩:=hI.set2 (i:=n) (by omega) k
   have ic5:=hI.c.load1 (off:=5) rfl
   have ic6:=hI.c.load1 (off:=6) rfl
   have ic2:=hI.c.load1 (off:=2) rfl
   rw [hxv] at hc2 ic2
   clear hv hdrop hbx' nZ
   have hgoal:∀ (hd:Bool),Zaw o=hd→(¬ (Zaw o && !fst=true∨(decide (o=1) != decide (b=0)) && Zaw o=true))→∃ (k':Nat) (bl pl:List Int) (fst:Bool) (met':Nat),l.length - k'=l.length - (k+1)∧k'≤l.length∧Zop mJ u vo (some ⟨bb,0,none⟩) so r3 cb cf b1 b2 b1 b2 bl pl∧bl.length=nv u∧pl.length=nv u∧Zaa m mJ [cf]∧Zaa m3 mJ [cf,b1,b2]∧met'≤b * LL+k'∧(Zcm u b k' (l.drop k') (bl,pl,fst,met')).bind (Zci u (b+1) (u.2.2.2.1.drop (b+1)))=R0∧
     [(0,Value.pointer (some ⟨cb,0,none⟩)),(4,.int .i64 ((met+1:Nat):Int)),(5,.int .i64 (b:Int)),(7,.bool hd),(51,.slice (some ⟨bb,0,none⟩) (nb u) (nb u)),(52,.int .i64 (nb u)),(53,.int .i64 (b:Int)),(59,.slice (some ⟨vb.1,vb.2,none⟩) l.length l.length),(60,.int .i64 l.length),(61,.int .i64 ((k+1:Nat):Int))]=[(0,Value.pointer (some ⟨cb,0,none⟩)),(4,.int .i64 (met':Int)),(5,.int .i64 (b:Int)),(7,.bool fst),(51,.slice (some ⟨bb,0,none⟩) (nb u) (nb u)),(52,.int .i64 (nb u)),(53,.int .i64 (b:Int)),(59,.slice (some ⟨vb.1,vb.2,none⟩) l.length l.length),(60,.int .i64 l.length),(61,.int .i64 (k':Int))]:=by
    intro hd e hn
    exact⟨k+1,_,_,hd,met+1,rfl,by omega,hJ,by simpa using hbll,by simpa using hpll,Zcx (Zcx kH kI (by simp;omega)) kJ (by simp;omega),(k3H.trans (kI.mono (by simp))).trans (kJ.mono (by simp)),by omega,by rw [← e];exact hgo hn,rfl⟩
   by_cases c21:o=21
   case' pos=>have c1:¬ o=1:=by omega
   case' neg=>by_cases c1:o=1
   all_goals
    by_cases c0:b=0
    case' pos=>have c0':b=0↔True:=⟨fun _=>trivial,fun _=>c0⟩
    case' neg=>have c0':=c0
    all_goals
     cases fst
     all_goals
      simp [-Int.natCast_add,-List.getD_eq_getElem?_getD,Zuw u4 .neq (Or.inr rfl),k1,km,hkt,lk0,hc2,hc5,hc6,br,hbv,hn2,hn,lb1,hw0,lop,c21,c1,c0',eI,eJ,wm,wk]
      first
       | exact⟨Zjy (hno1 (by simp [Zaw,c21,c1,c0])),kH⟩
       | exact ih2 _ _ _ _ (hgoal true (by simp [Zaw,c21,c1]) (by simp [Zaw,c21,c1,c0])) (by omega) ⟨by rfl,by rfl,by rfl,by rfl,by rfl,by rfl,by rfl,by rfl,by rfl,by rfl,trivial⟩
       | exact ih2 _ _ _ _ (hgoal false (by simp [Zaw,c21,c1]) (by simp [Zaw,c21,c1,c0])) (by omega) ⟨by rfl,by rfl,by rfl,by rfl,by rfl,by rfl,by rfl,by rfl,by rfl,by rfl,trivial⟩
  ·clear ih2
   have k1:¬ (k:Int) < l.length:=by omega
   have ek:k=l.length:=by omega
   rw [List.drop_of_length_le (by omega),Zcm,Option.bind_some] at hR
   simp [-Int.natCast_add,-List.getD_eq_getElem?_getD,k1,wb]
   have hmm:met≤(b+1) * LL:=by rw [Nat.add_mul];omega
   exact ih _ _ _ _ ⟨b+1,bl,pl,fst,met,rfl,by omega,hH,hbll,hpll,kH,hmm,hR,rfl⟩ (by omega) (by repeat' constructor)
 clear ih
 have b1':¬ (b:Int) < nb u:=by omega
 have hc2:=hG.c.load1 (off:=2) rfl
 rw [List.drop_of_length_le (Nat.not_lt.1 hlt),Zci] at hR
 rw [← hR] at hs0
 simp [-Int.natCast_add,-List.getD_eq_getElem?_getD,b1',hc2]
 refine⟨?_,kG⟩
 by_cases hme:met=nv u
 ·have:Zcf u=some (bl,pl,fst,met):=by rw [hs0];simp [Option.filter,hme]
  refine⟨by rw [this];simp [hme],fun s hs=>?_⟩
  rw [this,Option.some.injEq] at hs
  subst hs
  exact⟨b1,b2,b1,b2,hG,hm1,hm2⟩
 ·have:Zcf u=none:=by rw [hs0];simp [Option.filter,hme]
  have hne:¬ (met:Int)=nv u:=by omega
  simp only [hne,decide_false]
  exact Zjy this
end Go.Proofs.YtcgmchechmbmeaaDoor.base
end
section
set_option maxRecDepth 100000
namespace Go.Proofs.YtcgmchechmbmeaaDoor.base
open Go.Sh gen
variable {S:Zb7}{m:Mem}
def lvs (op:Int):Bool:=decide (op=22) || decide (op=23)
theorem Zpm (hS:S 55=[])(op:Int):Zaq Tryd.prog TT S 55 [.int .i64 op] m=some (.bool (lvs op),m):=by
 refine Zlx 3 [] k55 hS rfl ?_
 unfold lvs
 by_cases h:op=22
 ·simp [h]
 ·simp [h]
def Zji (n:Int)(x:Zb.D):Bool:=decide (x.1=1) && decide ((show Int from x.2.2.2.1)=n)
theorem Z0v (hS:S 57=[]){x y:Zb.D}{ao ay:Option Addr}{vb vf:Nat}(hv:Own m vb (Zl4 y ay) 43 vf) :
  ∃ v m1,Zaq Tryd.prog TT S 57 [.agg (Zl4 x ao).toArray,.pointer (some ⟨vb,0,none⟩)] m=some (v,m1)∧v=.bool (Zji (show Int from y.2.2.2.1) x)∧Zaa m m1 []:=by
 unfold Zji
 obtain⟨o,ho⟩:∃ o:Int,x.1=o:=⟨_,rfl⟩
 obtain⟨n,hn⟩:∃ n:Int,x.2.2.2.1=n:=⟨_,rfl⟩
 obtain⟨n',hn'⟩:∃ n:Int,y.2.2.2.1=n:=⟨_,rfl⟩
 rw [show (show Int from x.2.2.2.1)=n from hn,show (show Int from y.2.2.2.1)=n' from hn']
 unfold Zl4
 rw [ho,hn]
 obtain⟨oZ,kZ,nZ⟩:=Zas (m:=m) (cs:=[.int .i64 o,.int .i64 x.2.1,.int .i64 x.2.2.1,.int .i64 n,.slice ao x.2.2.2.2.1.length x.2.2.2.2.1.length,.int .i64 x.2.2.2.2.2.1]) (e:=43) rfl
 obtain⟨bx,hbx⟩:∃ bx,m.next=bx:=⟨_,rfl⟩
 rw [hbx] at oZ nZ
 have l0:=oZ.load1 (off:=0) rfl
 have l3:=oZ.load1 (off:=3) rfl
 have f3:=(hv.keep kZ (by simp)).load1 (off:=3) rfl
 rw [show y.2.2.2.1=n' from hn'] at f3
 refine Zho 4 [] k57 hS rfl ?_
 by_cases h1:o=1
 ·subst h1
  simp [Zbw b43,hbx,l0,l3,f3]
  exact kZ
 ·simp [Zbw b43,hbx,l0,h1]
  exact kZ
set_option maxHeartbeats 4000000 in
theorem Z1l (hS:S 68=[])(h1:S 57=[]){Q:Nat→Prop}{u:UnT.D}{vo bo so:Option Addr}(hU:UAt Q m u vo bo so)(hnu:nv u≤1000000){y:Zb.D}{ay:Option Addr}{vb vf:Nat}(hv:Own m vb (Zl4 y ay) 43 vf){k c:Nat}(hk:k≤nv u) :
  ∃ v m1,Zaq Tryd.prog TT S 68 [.slice vo k c,.func (.func 57) #[] #[.pointer (some ⟨vb,0,none⟩)]] m=some (v,m1)∧(∃ r:Int,v=.int .i64 r∧decide (0≤r)=((show List Zb.D from u.2.2.1).take k).any (Zji (show Int from y.2.2.2.1)))∧Zaa m m1 []:=by
 refine Zho 9 [9,16] k68 hS rfl ?_
 obtain⟨P,hP⟩:∃ P,Zji (show Int from y.2.2.2.1)=P:=⟨_,rfl⟩
 rw [hP]
 have hkm:k≤1000000:=by omega
 simp [-Int.natCast_add,-List.any_eq_true]
 obtain⟨L,hL⟩:∃ L:List Zb.D,L=u.2.2.1.take k:=⟨_,rfl⟩
 have hLl:L.length=k:=by rw [hL,List.length_take];exact Nat.min_eq_left hk
 rw [show (List.take k u.2.2.1:List Zb.D)=L from hL.symm]
 obtain⟨A,hA⟩:∃ A,L.any P=A:=⟨_,rfl⟩
 rw [hA]
 refine Zah 9 [9,16] (fun d E mF=>∃ (i:Nat),k - i=d∧i≤k∧Zaa m mF []∧(L.drop i).any P=A∧
  E=[(0,.slice vo k c),(1,.func (.func 57) #[] #[.pointer (some ⟨vb,0,none⟩)]),(7,.int .i64 (k:Int)),(8,.int .i64 (i:Int))]) _ ⟨_,⟨0,rfl,by omega,.refl _ _,by rw [List.drop_zero];exact hA,rfl⟩,(by repeat' constructor)⟩ ?_
 rintro d E mF ih ⟨i,hd,hi,kF,ha,rfl⟩
 have im:(i:Int)≤9223372036854775807:=by omega
 by_cases hlt:i < k
 ·have i1:(i:Int) < k:=by omega
  have wi:IntKind.i64.wrap ((i:Int)+1)=((i+1:Nat):Int):=by rw [Zab (by omega) (by omega)];omega
  have hiu:i < u.2.2.1.length:=Nat.lt_of_lt_of_le hlt hk
  obtain⟨xb,ao,fa,hxv,ldx,_,_⟩:=Zi2 (hU.keep kF (by simp)) hiu
  have hLi:L.drop i=u.2.2.1[i]::L.drop (i+1):=by
   rw [List.drop_eq_getElem_cons (by omega)]
   congr 1
   simp only [hL,List.getElem_take]
  rw [hLi,List.any_cons] at ha
  rw [hxv] at ih ⊢
  obtain⟨_,mG,cG,rfl,kG⟩:=Z0v (x:=u.2.2.1[i]) (ao:=ao) h1 (hv.keep kF (by simp))
  rw [hP] at cG
  generalize u.2.2.1[i]=X at *
  cases hp:P X
  ·rw [hp] at cG ha
   simp [-Int.natCast_add,-List.any_eq_true,i1,im,hlt,ldx,cG,wi]
   exact ih _ _ _ _ ⟨i+1,rfl,by omega,kF.trans kG,by rw [← ha];rfl,rfl⟩ (by omega) (by repeat' constructor)
  ·rw [hp,Bool.true_or] at ha
   rw [hp] at cG
   simp [-Int.natCast_add,-List.any_eq_true,i1,im,hlt,ldx,cG]
   exact⟨ha.symm,kF.trans kG⟩
 clear ih
 have i1:¬ (i:Int) < k:=by omega
 rw [List.drop_of_length_le (by omega),List.any_nil] at ha
 simp [-Int.natCast_add,-List.any_eq_true,i1]
 exact⟨ha.symm,kF⟩
theorem Zz8 (hS:S 56=[])(hI:S 68=[])(h1:S 57=[]){Q:Nat→Prop}{u:UnT.D}{vo bo so:Option Addr}(hU:UAt Q m u vo bo so)(hnu:nv u≤1000000){y:Zb.D}{ay:Option Addr}{vb vf:Nat}(hv:Own m vb (Zl4 y ay) 43 vf){k c:Nat}(hk:k≤nv u) :
  ∃ v m1,Zaq Tryd.prog TT S 56 [.slice vo k c,.func (.func 57) #[] #[.pointer (some ⟨vb,0,none⟩)]] m=some (v,m1)∧v=.bool (((show List Zb.D from u.2.2.1).take k).any (Zji (show Int from y.2.2.2.1)))∧Zaa m m1 []:=by
 obtain⟨_,m1,e1,⟨r,rfl,hr⟩,k1⟩:=Z1l (c:=c) hI h1 hU hnu hv hk
 refine Zho 5 [] k56 hS rfl ?_
 rw [← hr]
 simp [-Int.natCast_add,-List.any_eq_true,e1]
 exact k1
end Go.Proofs.YtcgmchechmbmeaaDoor.base
end
section
set_option maxRecDepth 100000
namespace Go.Proofs.YtcgmchechmbmeaaDoor.base
open Go.Sh gen
variable {S:Zb7}{m:Mem}
def Zpq (op:Int):Bool:=decide (1≤op) && decide (op≤23)
def Yam (S:Zb7):Prop:=∀ (m:Mem) (op:Int),∃ s:List UInt8,Zaq Tryd.prog TT S 15 [.int .i64 op] m=some (.string ⟨s.toArray⟩,m)∧(s=[]↔Zpq op=false)
def Zlj (u:UnT.D)(b:Int):Nat:=List.length (Zcl u b.toNat).2.2.2.2.1
def Zva (u:UnT.D)(bl:List Int)(i:Nat):Bool:=
  Zpq (Za0 u i).1 && Zc u (Zfj (Za0 u i)) && (!lvs (Za0 u i).1 || Zat (show Int from (Za0 u i).2.2.2.2.2.1) (ns u)) &&
  (if (Za0 u i).1=20 then decide (List.length (Za0 u i).2.2.2.2.1=1) else
   if (Za0 u i).1=21 then decide (List.length (Za0 u i).2.2.2.2.1=Zlj u (bl.getD i 0)) else
   if (Za0 u i).1=1 then decide (0≤(show Int from (Za0 u i).2.2.2.1)) && decide ((show Int from (Za0 u i).2.2.2.1) < 40) && !((show List Zb.D from u.2.2.1).take i).any (Zji (show Int from (Za0 u i).2.2.2.1)) else true)
theorem Zj5 (op a b:Int)(l:List Int):(Zcs op a b l).length≤l.length+2:=by
 rw [Zo7,List.length_append]
 have h1:([a,b].take (Zcb op)).length≤2:=by simp;omega
 have h2:(if op=20 then l.take 1 else if op=21 then l else []).length≤l.length:=by
  split
  ·simp;omega
  ·split <;> simp
 omega
structure Nc (S:Zb7):Prop where
 name:Yam S
 uses:S 13=[]
 parts:S 42=[]
 there:S 53=[]
 below:S 54=[]
 leaves:S 55=[]
 cont:S 56=[]
 idx:S 68=[]
 val1:S 57=[]
 val:S 36=[]
set_option maxHeartbeats 8000000 in
theorem Z4x (hN:Nc S){Q:Nat→Prop}{u:UnT.D}{vo bo so:Option Addr}(hU:UAt Q m u vo bo so)(hnu:nv u≤1000000)(hnb:nb u≤1000)(hns:ns u≤1000000){r3:Value}{cb cf b1 b2 f1 f2:Nat}{bl pl:List Int}(hC:Zop m u vo bo so r3 cb cf b1 b2 f1 f2 bl pl)
  (hbl:bl.length=nv u) (hbb:∀ i < nv u,0≤bl.getD i 0∧bl.getD i 0 < nb u) {i:Nat} (hi:i < nv u) (hal:(Za0 u i).2.2.2.2.1.length * 8≤140737488351232) :
  ∃ v m1,Zaq Tryd.prog TT S 36 [.pointer (some ⟨cb,0,none⟩),.int .i64 (i:Int)] m=some (v,m1)∧v=.bool (Zva u bl i)∧Zaa m m1 []:=by
 obtain⟨xb,ao,fa,hvo,ldx,hra,hqa⟩:=Zi2 hU hi
 have hb1:=hbb i hi
 have hvi:=Zdb hi
 unfold Zva
 rw [hvi] at hal ⊢
 rw [← hvi] at ldx hra hqa hal ⊢
 obtain⟨X,hX⟩:∃ X,Za0 u (i:Int)=X:=⟨_,rfl⟩
 rw [hX] at ldx hra hqa hal ⊢
 obtain⟨o,ho⟩:∃ o:Int,X.1=o:=⟨_,rfl⟩
 obtain⟨a,ha⟩:∃ o:Int,X.2.1=o:=⟨_,rfl⟩
 obtain⟨b,hb⟩:∃ o:Int,X.2.2.1=o:=⟨_,rfl⟩
 obtain⟨n,hn⟩:∃ o:Int,X.2.2.2.1=o:=⟨_,rfl⟩
 obtain⟨l,hl⟩:∃ o:List Int,X.2.2.2.2.1=o:=⟨_,rfl⟩
 obtain⟨st,hst⟩:∃ o:Int,X.2.2.2.2.2.1=o:=⟨_,rfl⟩
 have hus:Zfj X=Zcs o a b l:=by unfold Zfj;rw [ho,ha,hb,hl]
 rw [hus,show (show Int from X.2.2.2.2.2.1)=st from hst,show (show Int from X.2.2.2.1)=n from hn,ho,show List.length X.2.2.2.2.1=l.length by rw [hl]]
 unfold Zl4 at ldx
 rw [ho,ha,hb,hn,hst,hl] at ldx
 rw [hl] at hra hqa hal
 have c2:=hC.c.load1 (off:=2) rfl
 rw [hvo] at c2
 have i1:(i:Int) < nv u:=by omega
 have i2:(i:Int)≤9223372036854775807:=by omega
 obtain⟨oZ,kZ,nZ⟩:=Zas (m:=m) (cs:=[.int .i64 0,.int .i64 0,.int .i64 0,.int .i64 0,.slice none 0 0,.int .i64 0]) (e:=43) rfl
 obtain⟨bx,hbx⟩:∃ bx,m.next=bx:=⟨_,rfl⟩
 obtain⟨m3,e3,oX,kX⟩:=Zao (r:=_) rfl oZ (off:=0) (vs:=[.int .i64 o,.int .i64 a,.int .i64 b,.int .i64 n,.slice ao l.length l.length,.int .i64 st]) (by simp) (by simp [Zau,Zae])
 simp [Zb1] at oX
 have k3:=kZ.fresh kX (by simp)
 rw [hbx] at oX nZ e3
 have lx:=oX.load (off:=0) 6 (by simp)
 simp [Zap] at lx
 have x0:=oX.load1 (off:=0) rfl
 have x3:=oX.load1 (off:=3) rfl
 have x4:=oX.load1 (off:=4) rfl
 have x5:=oX.load1 (off:=5) rfl
 obtain⟨s,nm,hs⟩:=hN.name m3 o
 have hC3:=hC.keep0 k3
 have hU3:=hU.keep k3 (by simp)
 obtain⟨v4,m4,c4,⟨uo,uf,rfl,hru⟩,k4⟩:=Zuy (m:=m3) hN.uses hN.parts (op:=o) (a:=a) (b:=b) (n:=n) (st:=st) hal (hra.keep k3 (by simp))
 have hC4:=hC3.keep0 k4
 have hU4:=hU3.keep k4 (by simp)
 have hul:=Zj5 o a b l
 obtain⟨L,hL⟩:∃ L,Zcs o a b l=L:=⟨_,rfl⟩
 rw [hL] at hul
 have hLl:L.length≤20000000000000:=by omega
 rw [hL] at c4 hru ⊢
 have t4:=Zj3 (m:=m4) (Q2:=fun _=>True) hN.there hN.below hU4 hnu (hC4.c.load1 (off:=2) rfl) hLl ⟨uf,Zpg hru,fun _=>trivial⟩
 have br:=fun k n=>Zgo (m:=m4) hN.below k n
 have lv3:=Zpm (m:=m3) hN.leaves o
 have lv4:=Zpm (m:=m4) hN.leaves o
 have oX4:=oX.keep k4 (by simp)
 have y0:=oX4.load1 (off:=0) rfl
 have y3:=oX4.load1 (off:=3) rfl
 have y4:=oX4.load1 (off:=4) rfl
 have y5:=oX4.load1 (off:=5) rfl
 have ly:=oX4.load (off:=0) 6 (by simp)
 simp [Zap] at ly
 have c4':=hC4.c.load1 (off:=4) rfl
 have c43:=hC3.c.load1 (off:=4) rfl
 refine Zho 44 [44,50,72] k36 hN.val rfl ?_
 by_cases hop:Zpq o=true
 case neg =>
  have hop':Zpq o=false:=by simpa using hop
  have s0:=hs.2 hop'
  subst s0
  rw [hop']
  simp [-Int.natCast_add,c2,i2,hi,ldx,hbx,e3,x0,nm]
  exact k3
 have s0:s.isEmpty=false:=by
  cases hse:s.isEmpty
  ·rfl
  ·rw [hs.1 (List.isEmpty_iff.1 hse)] at hop;cases hop
 rw [hop,Bool.true_and]
 obtain⟨T,hT⟩:∃ T,Zc u L=T:=⟨_,rfl⟩
 rw [hT] at t4 ⊢
 cases T
 ·simp [-Int.natCast_add,c2,i2,hi,ldx,hbx,e3,x0,nm,s0,lx,c4,t4]
  exact k3.trans k4
 obtain⟨B,hB⟩:∃ B,Zat st (ns u)=B:=⟨_,rfl⟩
 obtain⟨V,hV⟩:∃ V,lvs o=V:=⟨_,rfl⟩
 rw [hB,hV]
 rw [hV] at lv3 lv4
 have br4:=br st (ns u)
 rw [hB] at br4
 by_cases hVB:V=true∧B=false
 case pos =>
  obtain⟨rfl,rfl⟩:=hVB
  simp [-Int.natCast_add,c2,i2,hi,ldx,hbx,e3,x0,nm,s0,lx,y0,y5,c4,t4,lv4,c4',br4]
  exact k3.trans k4
 have hVB':(!V || B)=true:=by cases V <;> cases B <;> simp_all
 rw [hVB',Bool.true_and,Bool.true_and]
 obtain⟨bi,hbi⟩:∃ bi:Nat,bl.getD i 0=(bi:Int):=⟨(bl.getD i 0).toNat,by omega⟩
 have hbin:bi < nb u:=by omega
 have lb1:=hC4.o1.load1 (off:=i) (Zcq (by omega))
 rw [hbi] at lb1 ⊢
 obtain⟨bb,vo',no',po',hbo,ldb,_,_,_⟩:=Zf6 hU4 hbin
 have ldp:=Zbr (k:=4) ldb rfl
 have hpN:Zlj u (bi:Int)=(u.2.2.2.1[bi]).2.2.2.2.1.length:=by unfold Zlj;rw [Int.toNat_natCast,Zb4 hbin]
 rw [hpN]
 obtain⟨pn,hpn⟩:∃ pn:Nat,(u.2.2.2.1[bi]).2.2.2.2.1.length=pn:=⟨_,rfl⟩
 rw [hpn] at ldp ⊢
 have c3':=hC4.c.load1 (off:=3) rfl
 rw [hbo] at c3'
 have c5':=hC4.c.load1 (off:=5) rfl
 have c2':=hC4.c.load1 (off:=2) rfl
 rw [hvo] at c2'
 have bi1:(bi:Int) < nb u:=by omega
 have bi2:(bi:Int)≤9223372036854775807:=by omega
 obtain⟨xf,hvX⟩:∃ xf,Own m4 bx (Zl4 X ao) 43 xf:=⟨_,by unfold Zl4;rw [ho,ha,hb,hn,hl,hst];exact oX4⟩
 obtain⟨W,hW⟩:∃ W,((show List Zb.D from u.2.2.1).take i).any (Zji n)=W:=⟨_,rfl⟩
 rw [hW]
 have ct:=fun c=>Zz8 (c:=c) hN.cont hN.idx hN.val1 hU4 hnu hvX (Nat.le_of_lt hi)
 rw [show (show Int from X.2.2.2.1)=n from hn,hW,hvo] at ct
 have iv:i≤nv u:=by omega
 obtain⟨_,m5,c5v,rfl,k5⟩:=ct i
 have q20:decide (l.length=1)=decide ((l.length:Int)=1):=decide_eq_decide.2 (by omega)
 have q21:decide (l.length=pn)=decide ((l.length:Int)=pn):=decide_eq_decide.2 (by omega)
 rw [q20,q21]
 generalize hR:(if o=20 then decide ((l.length:Int)=1) else if o=21 then decide ((l.length:Int)=pn) else if o=1 then decide (0≤n) && decide (n < 40) && !W else true)=R
 cases V
 case' true=>have hBt:B=true:=by simpa using hVB'
 case' true=>subst hBt
 all_goals
  simp [-Int.natCast_add,-w36_5,c2,i2,hi,ldx,hbx,e3,x0,nm,s0,lx,y0,y5,c4,t4,lv4,c4',br4]
  by_cases c20:o=20
  ·rw [if_pos c20] at hR
   subst hR
   simp [-Int.natCast_add,y4,c20]
   exact k3.trans k4
  by_cases c21:o=21
  ·rw [if_neg c20,if_pos c21] at hR
   subst hR
   simp [-Int.natCast_add,c21,y4,c3',c5',lb1,bi2,i2,hi,ldp,hbin]
   exact k3.trans k4
  rw [if_neg c20,if_neg c21] at hR
  by_cases c1:o=1
  ·rw [if_pos c1] at hR
   by_cases q1:0≤n
   case neg =>
    have hRf:R=false:=by rw [← hR];simp [q1]
    rw [hRf]
    simp [-Int.natCast_add,Zcd u25 Z4e,c1,y3,q1]
    exact k3.trans k4
   by_cases q2:n < 40
   case neg =>
    have hRf:R=false:=by rw [← hR];simp [q2]
    rw [hRf]
    simp [-Int.natCast_add,Zcd u25 Z4e,c1,y3,q1,q2]
    exact k3.trans k4
   have hRW:R=!W:=by rw [← hR];simp [q1,q2]
   rw [hRW]
   simp [-Int.natCast_add,Zcd u25 Z4e,c1,y3,q1,q2,c2',i2,iv,c5v]
   exact (k3.trans k4).trans k5
  rw [if_neg c1] at hR
  subst hR
  simp [-Int.natCast_add,c20,c21,c1]
  exact k3.trans k4
end Go.Proofs.YtcgmchechmbmeaaDoor.base
end
section
set_option maxRecDepth 100000
namespace Go.Proofs.YtcgmchechmbmeaaDoor.base
open Go.Sh gen
variable {S:Zb7}{m:Mem}
def eqF (a b:List Int):Bool:=decide (a=b)
theorem Za9 {l:List Int}{i:Nat}(h:i < l.length):l.drop i=l.getD i 0::l.drop (i+1):=by
 rw [List.drop_eq_getElem_cons h,List.getD_eq_getElem?_getD,List.getElem?_eq_getElem h];rfl
set_option maxHeartbeats 4000000 in
theorem Zy1 (hS:S 59=[]){Q Q2:Nat→Prop}{a b:List Int}{ao bo:Option Addr}(ha:Zag Q m ao a)(hb:Zag Q2 m bo b)(hal:a.length≤20000000000000)(hbl:b.length≤20000000000000) :
  Zaq Tryd.prog TT S 59 [.slice ao a.length a.length,.slice bo b.length b.length] m=some (.bool (eqF a b),m):=by
 refine Zlx 14 [14,24] k59 hS rfl ?_
 by_cases hl:a.length=b.length
 case neg =>
  have hl':¬ (a.length:Int)=b.length:=by omega
  have:eqF a b=false:=by unfold eqF;exact decide_eq_false fun e=>hl (by rw [e])
  simp [-Int.natCast_add,hl',this]
 have hl':(a.length:Int)=b.length↔True:=by simp;omega
 have hl2:(b.length:Int)=a.length↔True:=by simp;omega
 simp [-Int.natCast_add,hl']
 obtain⟨R,hR⟩:∃ R,eqF a b=R:=⟨_,rfl⟩
 rw [hR]
 have im2:(b.length:Int)≤9223372036854775807:=by omega
 refine Zah 14 [14,24] (fun d E mF=>∃ (i:Nat),a.length - i=d∧i≤a.length∧mF=m∧eqF (a.drop i) (b.drop i)=R∧
  E=[(0,.slice ao a.length a.length),(1,.slice bo b.length b.length),(12,.int .i64 a.length),(13,.int .i64 (i:Int))]) _ ⟨_,⟨0,rfl,by omega,rfl,by rw [List.drop_zero,List.drop_zero];exact hR,rfl⟩,(by repeat' constructor)⟩ ?_
 rintro d E mF ih ⟨i,hd,hi,rfl,hr,rfl⟩
 have im:(i:Int)≤9223372036854775807:=by omega
 by_cases hlt:i < a.length
 ·have i1:(i:Int) < a.length:=by omega
  have i2:(i:Int) < b.length:=by omega
  have hlt2:i < b.length:=by omega
  have wi:IntKind.i64.wrap ((i:Int)+1)=((i+1:Nat):Int):=by rw [Zab (by omega) (by omega)];omega
  obtain⟨xa,rfl,la⟩:=ha.get hlt
  obtain⟨xb,rfl,lb⟩:=hb.get hlt2
  rw [Za9 hlt,Za9 hlt2] at hr
  obtain⟨x,hx⟩:∃ x,a.getD i 0=x:=⟨_,rfl⟩
  obtain⟨y,hy⟩:∃ x,b.getD i 0=x:=⟨_,rfl⟩
  rw [hx] at la hr
  rw [hy] at lb hr
  by_cases hxy:x=y
  ·subst hxy
   simp [-Int.natCast_add,i1,im,hlt,hlt2,la,lb,wi]
   exact ih _ _ _ _ ⟨i+1,rfl,by omega,rfl,by rw [← hr];unfold eqF;simp,rfl⟩ (by omega) (by repeat' constructor)
  ·have:R=false:=by rw [← hr];unfold eqF;simp [hxy]
   simp [-Int.natCast_add,i1,im,hlt,hlt2,la,lb,hxy,this]
 clear ih
 have i1:¬ (i:Int) < a.length:=by omega
 rw [List.drop_of_length_le (by omega),List.drop_of_length_le (by omega)] at hr
 have:R=true:=by rw [← hr];rfl
 simp [-Int.natCast_add,i1,this]
end Go.Proofs.YtcgmchechmbmeaaDoor.base
end
section
set_option maxRecDepth 100000
namespace Go.Proofs.YtcgmchechmbmeaaDoor.base
open Go.Sh gen
variable {S:Zb7}{m:Mem}
def Zhf (ao:Nat→Option Addr)(L:List (List Int)):List Value:=(List.range L.length).map fun i=>.slice (ao i) (L.getD i []).length (L.getD i []).length
structure Rows (m0 m:Mem)(ob of:Nat)(ao:Nat→Option Addr)(fm:Nat→Nat)(L:List (List Int)):Prop where
 own:Own m ob (Zhf ao L) 22 of
 row:∀ i < L.length,Sl m (ao i) (L.getD i []).length (ints (L.getD i [])) 3 1 (fm i)
 fr:∀ i < L.length,ao i≠none→m0.next≤fm i∧fm i < m.next∧fm i≠of
 inj:∀ i < L.length,∀ j < L.length,i≠j→ao i≠none→ao j≠none→fm i≠fm j
 ofr:m0.next≤of
theorem Zfq (ao:Nat→Option Addr)(L:List (List Int)):(Zhf ao L).length=L.length:=by simp [Zhf]
theorem Zdx (ao:Nat→Option Addr){L:List (List Int)}{k:Nat}(h:k < L.length):(Zhf ao L)[k]?=some (.slice (ao k) (L.getD k []).length (L.getD k []).length):=by
 simp [Zhf,h]
theorem Zc5 {L:List (List Int)}{k i:Nat}{x:List Int}(h:i≠k):(L.set k x).getD i []=L.getD i []:=by
 simp [List.getD_eq_getElem?_getD,Ne.symm h]
theorem Zc8 {L:List (List Int)}{k:Nat}{x:List Int}(h:k < L.length):(L.set k x).getD k []=x:=by
 simp [List.getD_eq_getElem?_getD,h]
theorem Zz9 (ao:Nat→Option Addr){L:List (List Int)}{k:Nat}(h:k < L.length)(a:Option Addr)(x:List Int):Zb1 (Zhf ao L) k [.slice a x.length x.length]=Zhf (fun i=>if i=k then a else ao i) (L.set k x):=by
 have e:Zb1 (Zhf ao L) k [.slice a x.length x.length]=(Zhf ao L).set k (.slice a x.length x.length):=by simp [Zb1,List.set_eq_take_append_cons_drop,Zfq,h]
 rw [e]
 apply List.ext_getElem?
 intro i
 rw [List.getElem?_set,Zfq]
 by_cases hi:i < L.length
 ·have hi':i < (L.set k x).length:=by simpa using hi
  rw [Zdx _ hi',Zdx _ hi]
  by_cases e:i=k
  ·subst e
   rw [Zc8 hi];simp [hi]
  ·rw [Zc5 e,if_neg (Ne.symm e),if_neg e]
 ·rw [if_neg (by omega),List.getElem?_eq_none (by rw [Zfq];omega),List.getElem?_eq_none (by rw [Zfq];simpa using hi)]
theorem Rows.app {m0:Mem}{ob of:Nat}{ao:Nat→Option Addr}{fm:Nat→Nat}{L:List (List Int)}(h:Rows m0 m ob of ao fm L)(k0:Zaa m0 m []){k:Nat}(hk:k < L.length)(hl:(L.getD k []).length≤1000000)(v:Int){r:Option (Value × Mem)}
  (hr:Zal Tryd.prog 22 (m.new [.int .i64 v] 3) (.slice (ao k) (L.getD k []).length (L.getD k []).length) [.int .i64 v] 1=r) :
  ∃ m1 b' m2 fm',r=some (.slice (some ⟨b',0,none⟩) ((L.getD k []).length+1) ((L.getD k []).length+1),m1)∧Zad m1 ⟨ob,k,none⟩ [.slice (some ⟨b',0,none⟩) ((L.getD k []).length+1) ((L.getD k []).length+1)]=some m2∧
   Rows m0 m2 ob of (fun i=>if i=k then some ⟨b',0,none⟩ else ao i) fm' (L.set k (L.getD k []++[v]))∧Zaa m0 m2 []∧∃ fs,(∀ f∈fs,m0.next≤f)∧Zaa m m2 fs:=by
 have hs:=h.row k hk
 obtain⟨m1,b',fam',rfl,o1,k1,c1,c2,c3⟩:=Zsd hr u22 ap3 hs (by omega) (by simp) (by simp [Zau]) (by omega) (by omega)
 have hof:of∉(if ao k=none then [] else [fm k]):=by
  split
  ·simp
  ·rename_i hn;have:=(h.fr k hk hn).2.2;simp;omega
 have own1:=h.own.keep k1 hof
 have hx:(L.getD k []++[v]).length=(L.getD k []).length+1:=by simp
 obtain⟨m2,e2,o2,k2⟩:=Zao (r:=_) rfl own1 (off:=k) (vs:=[.slice (some ⟨b',0,none⟩) (L.getD k []++[v]).length (L.getD k []++[v]).length]) (by simp [Zfq];omega) (by simp [Zae])
 rw [Zz9 ao hk] at o2
 rw [hx] at e2
 have ofl:=h.own.flt
 have m01:m0.next≤m.next:=k0.1
 have mm1:m.next≤m1.next:=k1.1
 have m12:m1.next≤m2.next:=k2.1
 have hfr:fam'≠of∧m0.next≤fam'∧fam' < m2.next:=by
  rcases c1 with⟨hn,e⟩ | c1
  ·have:=h.fr k hk hn;rw [e];exact⟨this.2.2,this.1,by omega⟩
  ·exact⟨by omega,by omega,by omega⟩
 have hne:∀ j < L.length,j≠k→ao j≠none→fam'≠fm j:=by
  intro j hj hjk hjn
  rcases c1 with⟨hn,e⟩ | c1
  ·rw [e];exact h.inj k hk j hj (Ne.symm hjk) hn hjn
  ·have:=(h.fr j hj hjn).2.1;omega
 have hfs:∀ f∈of::(if ao k=none then [] else [fm k]),m0.next≤f:=by
  intro f hf
  rcases List.mem_cons.1 hf with rfl | hf
  ·exact h.ofr
  ·split at hf
   ·simp at hf
   ·rename_i hn
    simp at hf
    rw [hf];exact (h.fr k hk hn).1
 refine⟨m1,b',m2,fun i=>if i=k then fam' else fm i,rfl,e2,⟨o2,?_,?_,?_,h.ofr⟩,?_,_,hfs,(k1.mono (fun x hx=>by simp [hx])).trans (k2.mono (by simp))⟩
 ·intro i hi
  rw [List.length_set] at hi
  by_cases e:i=k
  ·subst e
   rw [Zc8 hi,if_pos rfl,if_pos rfl]
   have:=o1.keep k2 (by simp;exact hfr.1)
   exact Sl.of (by simpa using this) (by simp)
  ·rw [Zc5 e,if_neg e,if_neg e]
   have h1:=(h.row i hi).keepz k1 (fun hn=>by
    split
    ·simp
    ·rename_i hkn;simp;exact h.inj i hi k hk e hn hkn)
   exact h1.keepz k2 (fun hn=>by have:=(h.fr i hi hn).2.2;simp;exact this)
 ·intro i hi hn
  rw [List.length_set] at hi
  by_cases e:i=k
  ·subst e
   rw [if_pos rfl]
   exact⟨hfr.2.1,hfr.2.2,hfr.1⟩
  ·rw [if_neg e]
   rw [if_neg e] at hn
   have:=h.fr i hi hn
   exact⟨this.1,by omega,this.2.2⟩
 ·intro i hi j hj hij hin hjn
  rw [List.length_set] at hi hj
  by_cases e:i=k
  ·subst e
   rw [if_pos rfl,if_neg (Ne.symm hij)]
   rw [if_neg (Ne.symm hij)] at hjn
   exact hne j hj (Ne.symm hij) hjn
  ·rw [if_neg e]
   rw [if_neg e] at hin
   by_cases e2:j=k
   ·subst e2
    rw [if_pos rfl]
    exact Ne.symm (hne i hi e hin)
   ·rw [if_neg e2]
    rw [if_neg e2] at hjn
    exact h.inj i hi j hj hij hin hjn
 ·have h1:Zaa m0 m1 []:=k0.fresh k1 (fun f hf=>by
   split at hf
   ·simp at hf
   ·rename_i hn
    simp at hf
    rw [hf];exact (h.fr k hk hn).1)
  exact h1.fresh k2 (fun f hf=>by simp at hf;rw [hf];exact h.ofr)
def Zcy (i:Nat)(L:List (List Int))(k:Int):List (List Int):=L.set k.toNat (L.getD k.toNat []++[(i:Int)])
def Zc2:Nat→List Zcj.D→List (List Int)→List (List Int)
 | _,[],L=>L
 | i,b::r,L=>Zc2 (i+1) r ((show List Int from b.2.2.2.1).foldl (Zcy i) L)
def Zak (u:UnT.D):List (List Int):=Zc2 0 u.2.2.2.1 (List.replicate (nb u) [])
def Znc (u:UnT.D):Prop:=∀ b∈u.2.2.2.1,List.length b.2.2.2.1≤2∧∀ k∈(show List Int from b.2.2.2.1),(0:Int)≤k∧k < (nb u:Int)
theorem Zr5 (n:Nat):List.replicate n (Value.slice none 0 0)=Zhf (fun _=>none) (List.replicate n []):=by
 apply List.ext_getElem?
 intro i
 by_cases hi:i < n
 ·rw [Zdx _ (by simpa using hi),List.getElem?_replicate,if_pos hi]
  simp [List.getD_eq_getElem?_getD,hi]
 ·rw [List.getElem?_eq_none (by simp;omega),List.getElem?_eq_none (by rw [Zfq];simp;omega)]
theorem Zkm (k:Nat)(hk:k≤1000000):Zdy Tryd.prog 22 k=some (List.replicate k (Value.slice none 0 0)):=Zly (bt:=24) (by kernel_rfl) k (by omega)
def Z6t (m m1:Mem)(L:List (List Int))(v:Value):Prop:=∃ ob of ao fm,v=.slice (some ⟨ob,0,none⟩) L.length L.length∧Rows m m1 ob of ao fm L
set_option maxHeartbeats 8000000 in
theorem Zqv (hS:S 58=[])(hB:S 54=[]){Q:Nat→Prop}{u:UnT.D}{vo bo so:Option Addr}(hU:UAt Q m u vo bo so)(hQ:∀ f,Q f→f < m.next)(hnb:nb u≤1000)(hnx:Znc u) :
  ∃ v m1,Zaq Tryd.prog TT S 58 [.agg (Za3 u vo bo so).toArray] m=some (v,m1)∧Z6t m m1 (Zak u) v∧Zaa m m1 []:=by
 obtain⟨oU,kU,nU⟩:=Zas (m:=m) (cs:=Za3 u vo bo so) (e:=29) rfl
 obtain⟨mB,hmB⟩:∃ mB,m.new (Za3 u vo bo so) 29=mB:=⟨_,rfl⟩
 obtain⟨ub,hub⟩:∃ ub,m.next=ub:=⟨_,rfl⟩
 rw [hmB,hub] at oU nU
 rw [hmB] at kU
 have u3:=oU.load1 (off:=3) rfl
 have hz:=Zkm (nb u) (by omega)
 rw [Zr5] at hz
 have n1:(nb u:Int)≤9223372036854775807:=by omega
 have n2:nb u * 24≤281474976710656:=by omega
 obtain⟨oW,kW,nW⟩:=Zas (m:=mB) (cs:=Zhf (fun _=>none) (List.replicate (nb u) [])) (e:=22) rfl
 obtain⟨ob,hob⟩:∃ ob,mB.next=ob:=⟨_,rfl⟩
 obtain⟨mD,hmD⟩:∃ mD,mB.new (Zhf (fun _=>none) (List.replicate (nb u) [])) 22=mD:=⟨_,rfl⟩
 rw [hmD,hob] at oW nW
 rw [hmD] at kW
 have u3D:=(oU.keep kW (by simp)).load1 (off:=3) rfl
 refine Zho 24 [24,30] k58 hS rfl ?_
 simp [-Int.natCast_add,-List.map_replicate,Zbw b29,Zfa u57 Z86,hmB,hub,u3,hz,n1,n2,hmD,hob,u3D]
 have R0:Rows m mD ob ob (fun _=>none) (fun _=>0) (List.replicate (nb u) []):=⟨oW,fun i hi=>by
   rw [List.length_replicate] at hi
   rw [List.getD_eq_getElem?_getD,List.getElem?_replicate,if_pos hi]
   exact Sl.nil _ _ _ _,fun i _ h=>absurd rfl h,fun i _ j _ _ h=>absurd rfl h,by have:=kU.1;omega⟩
 have K0:Zaa m mD []:=kU.trans kW
 have hgd0:∀ k,((List.replicate (nb u) ([]:List Int)).getD k []).length≤2 * 0:=by
  intro k
  rw [List.getD_eq_getElem?_getD,List.getElem?_replicate]
  split <;> simp
 obtain⟨L0,hL0⟩:∃ L0:List (List Int),L0=List.replicate (nb u) []:=⟨_,rfl⟩
 have hlen0:L0.length=nb u:=by rw [hL0];simp
 have hA:Zc2 0 u.2.2.2.1 L0=Zak u:=by rw [hL0];rfl
 rw [← hL0] at R0 hgd0
 obtain⟨A,hA'⟩:∃ A,Zak u=A:=⟨_,rfl⟩
 rw [hA'] at hA ⊢
 refine Zah 24 [24,30] (fun d E mF=>∃ (i:Nat) (ao:Nat→Option Addr) (fm:Nat→Nat) (L:List (List Int)),nb u - i=d∧i≤nb u∧Rows m mF ob ob ao fm L∧L.length=nb u∧Zaa m mF []∧(∀ k,(L.getD k []).length≤2 * i)∧Zc2 i (u.2.2.2.1.drop i) L=A∧
  E=[(3,.slice (some ⟨ob,0,none⟩) (nb u) (nb u)),(13,.slice bo (nb u) (nb u)),(14,.int .i64 (nb u)),(15,.int .i64 (i:Int))]) _ ⟨_,⟨0,_,_,L0,rfl,by omega,R0,hlen0,K0,hgd0,by rw [List.drop_zero];exact hA,rfl⟩,(by repeat' constructor)⟩ ?_
 clear R0 K0 hgd0 hlen0 hA hL0
 rintro d E mF ih ⟨i,ao,fm,L,hd,hi,hF,hL,kF,hg,hr,rfl⟩
 have im:(i:Int)≤9223372036854775807:=by omega
 by_cases hlt:i < nb u
 ·have i1:(i:Int) < nb u:=by omega
  have wi:IntKind.i64.wrap ((i:Int)+1)=((i+1:Nat):Int):=by rw [Zab (by omega) (by omega)];omega
  obtain⟨bb,vo',no',po',hbo,ldb,_,hno',_⟩:=Zf6 (hU.keep kF (by simp)) hlt
  have hbx:=hnx _ (List.getElem_mem hlt)
  rw [List.drop_eq_getElem_cons hlt,Zc2] at hr
  generalize u.2.2.2.1[i]=X at *
  obtain⟨l,hl⟩:∃ l:List Int,X.2.2.2.1=l:=⟨_,rfl⟩
  rw [show (show List Int from X.2.2.2.1)=l from hl] at hr hbx
  rw [hl] at hno' hbx
  unfold Zw1 at ldb
  rw [hl] at ldb
  rw [hbo] at ih ⊢
  obtain⟨oZ,kZ,nZ⟩:=Zas (m:=mF) (cs:=[.slice none 0 0,.int .i64 0,.int .i64 0,.slice none 0 0,.slice none 0 0,.int .i64 0]) (e:=36) rfl
  obtain⟨bx,hbx'⟩:∃ bx,mF.next=bx:=⟨_,rfl⟩
  obtain⟨m3,e3,oX,kX⟩:=Zao (r:=_) rfl oZ (off:=0) (vs:=[.slice vo' X.1.length X.1.length,.int .i64 X.2.1,.int .i64 X.2.2.1,.slice no' l.length l.length,.slice po' X.2.2.2.2.1.length X.2.2.2.2.1.length,.int .i64 X.2.2.2.2.2.1]) (by simp) (by simp [Zau,Zae])
  simp [Zb1] at oX
  have k3:=kZ.fresh kX (by simp)
  rw [hbx'] at oX nZ e3
  have x3:=oX.load1 (off:=3) rfl
  simp [-Int.natCast_add,i1,im,hlt,ldb,hbx',e3,x3]
  have K3:Zaa m m3 []:=kF.trans k3
  have R3:Rows m m3 ob ob ao fm L:=⟨hF.own.keep k3 (by simp),fun i hi=>(hF.row i hi).keep k3 (by simp),fun i hi h=>⟨(hF.fr i hi h).1,by have:=(hF.fr i hi h).2.1;have:=k3.1;omega,(hF.fr i hi h).2.2⟩,hF.inj,hF.ofr⟩
  have hno3:=hno'.keep k3 (by simp)
  refine Zah 24 [24,30] (fun d2 E mG=>∃ (j:Nat) (ao:Nat→Option Addr) (fm:Nat→Nat) (L:List (List Int)),l.length - j=d2∧j≤l.length∧Rows m mG ob ob ao fm L∧L.length=nb u∧Zaa m mG []∧Zag Q mG no' l∧(∀ k,(L.getD k []).length≤2 * i+j)∧Zc2 (i+1) (u.2.2.2.1.drop (i+1)) ((l.drop j).foldl (Zcy i) L)=A∧
   E=[(3,.slice (some ⟨ob,0,none⟩) (nb u) (nb u)),(4,.int .i64 (i:Int)),(13,.slice (some ⟨bb,0,none⟩) (nb u) (nb u)),(14,.int .i64 (nb u)),(15,.int .i64 (i:Int)),(21,.slice no' l.length l.length),(22,.int .i64 l.length),(23,.int .i64 (j:Int))]) _ ⟨_,⟨0,ao,fm,L,rfl,by omega,R3,hL,K3,hno3,by simpa using hg,by rw [List.drop_zero];exact hr,rfl⟩,(by repeat' constructor)⟩ ?_
  clear R3 hF hL hg hr
  rintro d2 E mG ih2 ⟨j,ao,fm,L,hd2,hj,hG,hL,kG,k3G,hg,hr,rfl⟩
  have jm:(j:Int)≤9223372036854775807:=by omega
  by_cases hjt:j < l.length
  ·have j1:(j:Int) < l.length:=by omega
   have wj:IntKind.i64.wrap ((j:Int)+1)=((j+1:Nat):Int):=by rw [Zab (by omega) (by omega)];omega
   obtain⟨xb,rfl,lj⟩:=k3G.get hjt
   rw [Za9 hjt,List.foldl_cons] at hr
   have hkb:=hbx.2 _ (Za4 hjt)
   obtain⟨k,hk⟩:∃ k:Nat,l.getD j 0=(k:Int):=⟨(l.getD j 0).toNat,by omega⟩
   rw [hk] at lj hr hkb
   have hkn:k < nb u:=by omega
   have hkL:k < L.length:=by omega
   have k1:(k:Int) < nb u:=by omega
   have k2:(k:Int)≤9223372036854775807:=by omega
   have br:=Zgo (m:=mG) hB k (nb u)
   have hbt:Zat (k:Int) (nb u)=true:=by unfold Zat;simp;omega
   rw [hbt] at br
   have lrow:=hG.own.load1 (off:=k) (Zdx ao hkL)
   have lrow2:=(hG.own.new_other [.int .i64 (i:Int)] 3).load1 (off:=k) (Zdx ao hkL)
   have hgk:=hg k
   have eS:Zcy i L (k:Int)=L.set k (L.getD k []++[(i:Int)]):=by unfold Zcy;rw [Int.toNat_natCast]
   rw [eS] at hr
   have hap:=fun r=>hG.app kG hkL (by omega) (i:Int) (r:=r)
   have hgS:∀ k',((L.set k (L.getD k []++[(i:Int)])).getD k' []).length≤2 * i+(j+1):=by
    intro k'
    by_cases e:k'=k
    ·subst e
     rw [Zc8 hkL,List.length_append];simp only [List.length_cons,List.length_nil];omega
    ·rw [Zc5 e];have:=hg k';omega
   obtain⟨row,hrow⟩:∃ row,L.getD k []=row:=⟨_,rfl⟩
   rw [hrow] at lrow lrow2 hap hgk hgS hr
   simp [-Int.natCast_add,-List.getD_eq_getElem?_getD,Za u22 bs3 rfl,Zbf u22 sz3,j1,jm,hjt,lj,br,k2,hkn,lrow]
   generalize hra:Zal _ _ _ _ _ _=ra
   obtain⟨m1,b',m2,fm',rfl,e2,R2,K2,fs,hfs,kfs⟩:=hap ra hra
   simp [-Int.natCast_add,-List.getD_eq_getElem?_getD,k2,hkn,e2,wj]
   exact ih2 _ _ _ _ ⟨j+1,_,fm',_,rfl,by omega,R2,by simpa using hL,K2,k3G.keep kfs (fun f hf hq=>by have:=hQ f hq;have:=hfs f hf;omega),hgS,hr,rfl⟩ (by omega) (by repeat' constructor)
  clear ih2
  have j1:¬ (j:Int) < l.length:=by omega
  rw [List.drop_of_length_le (show l.length≤j by omega),List.foldl_nil] at hr
  simp [-Int.natCast_add,-List.getD_eq_getElem?_getD,j1,wi]
  exact ih _ _ _ _ ⟨i+1,ao,fm,L,rfl,by omega,hG,hL,kG,fun k=>by have:=hg k;have:=hbx.1;omega,hr,rfl⟩ (by omega) (by repeat' constructor)
 clear ih
 have i1:¬ (i:Int) < nb u:=by omega
 rw [List.drop_of_length_le (Nat.not_lt.1 hlt),Zc2] at hr
 simp [-Int.natCast_add,-List.getD_eq_getElem?_getD,i1]
 rw [← hr]
 exact⟨⟨ob,ob,ao,fm,by rw [hL],hF⟩,kF⟩
end Go.Proofs.YtcgmchechmbmeaaDoor.base
end
