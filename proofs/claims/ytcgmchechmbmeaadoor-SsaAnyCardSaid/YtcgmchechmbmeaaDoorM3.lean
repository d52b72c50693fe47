/- This text proves what ssa.checker's 'stand' answers and leaves, Zbx the abstract run. Condition: nothing is known of the calls ahead ('S f = []'). -/
import Derived.Test.YtcgmchechmbmeaaDoorM2
set_option linter.unusedVariables false
set_option linter.unusedSimpArgs false
section
set_option maxRecDepth 100000
namespace Go.Proofs.YtcgmchechmbmeaaDoor.base
open Go.Sh gen
variable {S:Zb4}{m:Mem}
abbrev StS:=List Int × List Int × Bool × Nat
def Zay (op:Int):Bool:=decide (op=21) || decide (op=1)
def Zey (u:UnT.D)(b k:Nat)(s:StS)(v:Int):Option StS:=
 if !Zas v (nv u) || decide (0≤s.1.getD v.toNat 0) then none else
 if (Zay (Za3 u v).1 && !s.2.2.1) || ((decide ((Za3 u v).1=1) != decide (b=0)) && Zay (Za3 u v).1) then none else
 some (s.1.set v.toNat b,s.2.1.set v.toNat k,Zay (Za3 u v).1,s.2.2.2+1)
def Zci (u:UnT.D)(b:Nat):Nat→List Int→StS→Option StS
 | _,[],s=>some s
 | k,v::r,s=>(Zey u b k s v).bind (Zci u b (k+1) r)
def Zcg (u:UnT.D):Nat→List Zct.D→StS→Option StS
 | _,[],s=>some s
 | b,x::r,s=>(Zci u b 0 x.1 (s.1,s.2.1,true,s.2.2.2)).bind (Zcg u (b+1) r)
def Zcd (u:UnT.D):Option StS:=(Zcg u 0 u.2.2.2.1 (List.replicate (nv u) (-1),List.replicate (nv u) 0,true,0)).filter fun s=>s.2.2.2=nv u
structure Znr (m1:Mem)(u:UnT.D)(vo bo so:Option Addr)(r3:Value)(cb cf b1 b2 f1 f2:Nat)(bl pl:List Int):Prop where
 o1:Own m1 b1 (ints bl) 3 f1
 o2:Own m1 b2 (ints pl) 3 f2
 c:Own m1 cb (ckC u vo bo so (.slice (some ⟨b1,0,none⟩) (nv u) (nv u)) (.slice (some ⟨b2,0,none⟩) (nv u) (nv u)) r3) 70 cf
 n1:f1≠f2
 n2:f1≠cf
 n3:f2≠cf
def Z2j (m m1:Mem)(u:UnT.D)(vo bo so:Option Addr)(r3:Value)(cb cf:Nat)(v:Value):Prop:=
 v=.bool (Zcd u).isSome∧∀ s,Zcd u=some s→∃ b1 b2 f1 f2,Znr m1 u vo bo so r3 cb cf b1 b2 f1 f2 s.1 s.2.1∧m.next≤f1∧m.next≤f2
theorem Zjw {m m1:Mem}{u:UnT.D}{vo bo so:Option Addr}{r3:Value}{cb cf:Nat}(h:Zcd u=none):Z2j m m1 u vo bo so r3 cb cf (.bool false):=
 ⟨by rw [h];rfl,fun s hs=>by rw [h] at hs;cases hs⟩
theorem Znr.keep {m m1:Mem}{u:UnT.D}{vo bo so:Option Addr}{r3:Value}{cb cf b1 b2 f1 f2:Nat}{bl pl:List Int}{fs:List Nat}(h:Znr m u vo bo so r3 cb cf b1 b2 f1 f2 bl pl)(k:Zaa m m1 fs)(h1:f1∉fs)(h2:f2∉fs)(h3:cf∉fs):Znr m1 u vo bo so r3 cb cf b1 b2 f1 f2 bl pl:=
 ⟨h.o1.keep k h1,h.o2.keep k h2,h.c.keep k h3,h.n1,h.n2,h.n3⟩
theorem Znr.keep0 {m m1:Mem}{u:UnT.D}{vo bo so:Option Addr}{r3:Value}{cb cf b1 b2 f1 f2:Nat}{bl pl:List Int}(h:Znr m u vo bo so r3 cb cf b1 b2 f1 f2 bl pl)(k:Zaa m m1 []):Znr m1 u vo bo so r3 cb cf b1 b2 f1 f2 bl pl:=h.keep k (by simp) (by simp) (by simp)
theorem Znr.set1 {u:UnT.D}{vo bo so:Option Addr}{r3:Value}{cb cf b1 b2 f1 f2:Nat}{bl pl:List Int}(h:Znr m u vo bo so r3 cb cf b1 b2 f1 f2 bl pl){i:Nat}(hi:i < bl.length)(v:Int) :
  ∃ m1,Zad m ⟨b1,i,none⟩ [.int .i64 v]=some m1∧Znr m1 u vo bo so r3 cb cf b1 b2 f1 f2 (bl.set i v) pl∧Zaa m m1 [f1]:=by
 obtain⟨m1,e1,o1,k1⟩:=Zfz h.o1 hi v
 have:=h.n1;have:=h.n2
 exact⟨m1,e1,⟨o1,h.o2.keep k1 (by simp;omega),h.c.keep k1 (by simp;omega),h.n1,h.n2,h.n3⟩,k1⟩
theorem Znr.set2 {u:UnT.D}{vo bo so:Option Addr}{r3:Value}{cb cf b1 b2 f1 f2:Nat}{bl pl:List Int}(h:Znr m u vo bo so r3 cb cf b1 b2 f1 f2 bl pl){i:Nat}(hi:i < pl.length)(v:Int) :
  ∃ m1,Zad m ⟨b2,i,none⟩ [.int .i64 v]=some m1∧Znr m1 u vo bo so r3 cb cf b1 b2 f1 f2 bl (pl.set i v)∧Zaa m m1 [f2]:=by
 obtain⟨m1,e1,o1,k1⟩:=Zfz h.o2 hi v
 have:=h.n1;have:=h.n3
 exact⟨m1,e1,⟨h.o1.keep k1 (by simp;omega),o1,h.c.keep k1 (by simp;omega),h.n1,h.n2,h.n3⟩,k1⟩
set_option maxHeartbeats 8000000 in
theorem Zx5 (hS:S 35=[])(hB:S 54=[]){Q:Nat→Prop}{u:UnT.D}{vo bo so:Option Addr}(hU:UAt Q m u vo bo so)(hQ:∀ f,Q f→f < m.next)(hnu:nv u≤1000000)(hnb:nb u≤1000){cb cf:Nat}{r1 r2 r3:Value}(hC:Own m cb (ckC u vo bo so r1 r2 r3) 70 cf)(hq:¬ Q cf)
  (hbl:∀ b∈u.2.2.2.1,List.length b.1≤20000000000000) :
  ∃ v m1,Zaq Tryd.prog TT S 35 [.pointer (some ⟨cb,0,none⟩)] m=some (v,m1)∧
   Z2j m m1 u vo bo so r3 cb cf v∧Zaa m m1 [cf]:=by
 have l2:=hC.load1 (off:=2) rfl
 have z1:=Zl8 (nv u) hnu
 rw [Zqg] at z1
 have z2:(nv u:Int)≤9223372036854775807:=by omega
 have z3:nv u * 8≤281474976710656:=by omega
 obtain⟨oA,kA,nA⟩:=Zar (m:=m) (cs:=ints (List.replicate (nv u) 0)) (e:=3) rfl
 obtain⟨b1,hb1⟩:∃ b1,m.next=b1:=⟨_,rfl⟩
 obtain⟨mA,hmA⟩:∃ mA,m.new (ints (List.replicate (nv u) 0)) 3=mA:=⟨_,rfl⟩
 rw [hmA,hb1] at oA nA
 rw [hmA] at kA
 have hCA:=hC.keep kA (by simp)
 have lA:=hCA.load1 (off:=2) rfl
 obtain⟨mB,eB,oB,kB⟩:=Zap (r:=_) rfl hCA (off:=5) (vs:=[.slice (some ⟨b1,0,none⟩) (nv u) (nv u)]) (by simp) (by simp [Zae])
 simp [Zbx] at oB
 have lB:=oB.load1 (off:=2) rfl
 obtain⟨oC,kC,nC⟩:=Zar (m:=mB) (cs:=ints (List.replicate (nv u) 0)) (e:=3) rfl
 obtain⟨b2,hb2⟩:∃ b2,mB.next=b2:=⟨_,rfl⟩
 obtain⟨mC,hmC⟩:∃ mC,mB.new (ints (List.replicate (nv u) 0)) 3=mC:=⟨_,rfl⟩
 rw [hmC,hb2] at oC nC
 rw [hmC] at kC
 have hCC:=oB.keep kC (by simp)
 have lC:=hCC.load1 (off:=2) rfl
 obtain⟨mD,eD,oD,kD⟩:=Zap (r:=_) rfl hCC (off:=6) (vs:=[.slice (some ⟨b2,0,none⟩) (nv u) (nv u)]) (by simp) (by simp [Zae])
 simp [Zbx] at oD
 have lD:=oD.load1 (off:=2) rfl
 have l5:=oD.load1 (off:=5) rfl
 have l3:=oD.load1 (off:=3) rfl
 have fA:=oA.flt
 have fC:=hC.flt
 have b12:b1 < b2:=by have:=kB.1;omega
 have K0:Zaa m mD [cf]:=Zcs (Zcs (Zcs kA.nil kB (by simp)) kC (by simp)) kD (by simp)
 have C0:Znr mD u vo bo so r3 cb cf b1 b2 b1 b2 (List.replicate (nv u) 0) (List.replicate (nv u) 0):=
  ⟨((oA.keep kB (by simp;omega)).keep kC (by simp)).keep kD (by simp;omega),oC.keep kD (by simp;omega),oD,by omega,by omega,by omega⟩
 have hm1:m.next≤b1:=by omega
 have hm2:m.next≤b2:=by omega
 have cfm:cf < m.next:=hC.flt
 refine Zhk 62 [62,84,114] k35 hS rfl ?_
 simp [-Int.natCast_add,-List.map_replicate,Ze7 u22 ap3,l2,z1,z2,z3,hmA,hb1,lA,eB,hmC,hb2,eD,l5]
 clear oA kA nA hCA lA eB oB kB lB oC kC nC hCC lC eD kD hC l2
 refine Zag 62 [62,84,114] (fun d E mF=>∃ (i:Nat),nv u - i=d∧i≤nv u∧Znr mF u vo bo so r3 cb cf b1 b2 b1 b2 (List.replicate i (-1)++List.replicate (nv u - i) 0) (List.replicate (nv u) 0)∧Zaa m mF [cf]∧
  E=[(0,.pointer (some ⟨cb,0,none⟩)),(36,.int .i64 (nv u)),(37,.int .i64 (i:Int))]) _ ⟨_,⟨0,rfl,by omega,by simpa using C0,K0,rfl⟩,⟨by rfl,by rfl,by rfl,trivial⟩⟩ ?_
 rintro d E mF ih ⟨i,hd,hi,hF,kF,rfl⟩
 have im:(i:Int)≤9223372036854775807:=by omega
 have l5:=hF.c.load1 (off:=5) rfl
 by_cases hlt:i < nv u
 ·have i1:(i:Int) < nv u:=by omega
  have wi:IntKind.i64.wrap ((i:Int)+1)=((i+1:Nat):Int):=by rw [Zab (by omega) (by omega)];omega
  obtain⟨mG,eG,hG,kG⟩:=hF.set1 (i:=i) (by simp;omega) (-1)
  rw [Zua _ _ _ _ hlt] at hG
  simp [-Int.natCast_add,i1,im,hlt,l5,eG,wi]
  exact ih _ _ _ _ ⟨i+1,rfl,by omega,hG,Zcs kF kG (by simp;omega),rfl⟩ (by omega) ⟨by rfl,by rfl,by rfl,trivial⟩
 clear ih
 have i1:¬ (i:Int) < nv u:=by omega
 have ei:i=nv u:=by omega
 rw [ei,Nat.sub_self,List.replicate_zero,List.append_nil] at hF
 have l3:=hF.c.load1 (off:=3) rfl
 have hs0:Zcd u=(Zcg u 0 u.2.2.2.1 (List.replicate (nv u) (-1),List.replicate (nv u) 0,true,0)).filter fun s=>s.2.2.2=nv u:=rfl
 have hlen0:(List.replicate (nv u) (-1:Int)).length=nv u:=by simp
 have hlen1:(List.replicate (nv u) (0:Int)).length=nv u:=by simp
 simp [-Int.natCast_add,-List.map_replicate,i1,l3]
 generalize List.replicate (nv u) (-1:Int)=bl0 at *
 generalize List.replicate (nv u) (0:Int)=pl0 at *
 obtain⟨LL,hLL⟩:∃ LL:Nat,LL=20000000000000:=⟨_,rfl⟩
 generalize hB0:Zcg u 0 u.2.2.2.1 (bl0,pl0,true,0)=R0 at *
 refine Zag 62 [62,84,114] (fun d E mG=>∃ (b:Nat) (bl pl:List Int) (fst:Bool) (met:Nat),nb u - b=d∧b≤nb u∧Znr mG u vo bo so r3 cb cf b1 b2 b1 b2 bl pl∧bl.length=nv u∧pl.length=nv u∧Zaa m mG [cf]∧met≤b * LL∧Zcg u b (u.2.2.2.1.drop b) (bl,pl,fst,met)=R0∧
  E=[(0,.pointer (some ⟨cb,0,none⟩)),(4,.int .i64 (met:Int)),(51,.slice bo (nb u) (nb u)),(52,.int .i64 (nb u)),(53,.int .i64 (b:Int))]) _ ⟨_,⟨0,bl0,pl0,true,0,rfl,by omega,hF,hlen0,hlen1,kF,by omega,by rw [List.drop_zero];exact hB0,rfl⟩,(by repeat' constructor)⟩ ?_
 clear hF l3 kF hlen0 hlen1 l5
 rintro d E mG ih ⟨b,bl,pl,fst,met,hd,hb,hG,hbll,hpll,kG,hmet,hR,rfl⟩
 have bm:(b:Int)≤9223372036854775807:=by omega
 by_cases hlt:b < nb u
 ·have b1':(b:Int) < nb u:=by omega
  have wb:IntKind.i64.wrap ((b:Int)+1)=((b+1:Nat):Int):=by rw [Zab (by omega) (by omega)];omega
  have hUG:=hU.keep kG (by simpa using hq)
  obtain⟨bb,vo',no',po',hbo,ldb,hvo',hno',hpo'⟩:=Zf0 hUG hlt
  have hbx:=hbl _ (List.getElem_mem hlt)
  rw [List.drop_eq_getElem_cons hlt,Zcg] at hR
  generalize u.2.2.2.1[b]=X at *
  obtain⟨l,hl⟩:∃ l:List Int,X.1=l:=⟨_,rfl⟩
  rw [hl] at hR hbx hvo'
  unfold Zwe at ldb
  rw [hl] at ldb
  rw [hbo] at ih ⊢
  obtain⟨oZ,kZ,nZ⟩:=Zar (m:=mG) (cs:=[.slice none 0 0,.int .i64 0,.int .i64 0,.slice none 0 0,.slice none 0 0,.int .i64 0]) (e:=36) rfl
  obtain⟨bx,hbx'⟩:∃ bx,mG.next=bx:=⟨_,rfl⟩
  obtain⟨m3,e3,oX,kX⟩:=Zap (r:=_) rfl oZ (off:=0) (vs:=[.slice vo' l.length l.length,.int .i64 X.2.1,.int .i64 X.2.2.1,.slice no' X.2.2.2.1.length X.2.2.2.1.length,.slice po' X.2.2.2.2.1.length X.2.2.2.2.1.length,.int .i64 X.2.2.2.2.2.1]) (by simp) (by simp [Zau,Zae])
  simp [Zbx] at oX
  have k3:=kZ.fresh kX (by simp)
  rw [hbx'] at oX nZ e3
  have x0:=oX.load1 (off:=0) rfl
  simp [-Int.natCast_add,b1',bm,hlt,ldb,hbx',e3,x0]
  have hGX:=hG.keep0 k3
  have K3:Zaa m m3 [cf]:=kG.trans k3.nil
  have eR0:R0=none→Zcd u=none:=fun h=>by rw [hs0,h];rfl
  refine Zag 62 [62,84,114] (fun d2 E mH=>∃ (k:Nat) (bl pl:List Int) (fst:Bool) (met:Nat),l.length - k=d2∧k≤l.length∧Znr mH u vo (some ⟨bb,0,none⟩) so r3 cb cf b1 b2 b1 b2 bl pl∧bl.length=nv u∧pl.length=nv u∧Zaa m mH [cf]∧Zaa m3 mH [cf,b1,b2]∧met≤b * LL+k∧(Zci u b k (l.drop k) (bl,pl,fst,met)).bind (Zcg u (b+1) (u.2.2.2.1.drop (b+1)))=R0∧
   E=[(0,.pointer (some ⟨cb,0,none⟩)),(4,.int .i64 (met:Int)),(5,.int .i64 (b:Int)),(7,.bool fst),(51,.slice (some ⟨bb,0,none⟩) (nb u) (nb u)),(52,.int .i64 (nb u)),(53,.int .i64 (b:Int)),(59,.slice vo' l.length l.length),(60,.int .i64 l.length),(61,.int .i64 (k:Int))]) _ ⟨_,⟨0,bl,pl,true,met,rfl,by omega,by rw [← hbo];exact hGX,hbll,hpll,K3,.refl _ _,by omega,by rw [List.drop_zero];exact hR,rfl⟩,(by repeat' constructor)⟩ ?_
  clear hR hG hGX hbll hpll hmet bl pl fst met
  rintro d2 E mH ih2 ⟨k,bl,pl,fst,met,hd2,hk,hH,hbll,hpll,kH,k3H,hmet,hR,rfl⟩
  have km:(k:Int)≤9223372036854775807:=by omega
  by_cases hkt:k < l.length
  ·have k1:(k:Int) < l.length:=by omega
   have wk:IntKind.i64.wrap ((k:Int)+1)=((k+1:Nat):Int):=by rw [Zab (by omega) (by omega)];omega
   have wm:IntKind.i64.wrap ((met:Int)+1)=((met+1:Nat):Int):=by
    have:b * LL≤1000 * LL:=Nat.mul_le_mul_right _ (by omega)
    rw [Zab (by omega) (by omega)];omega
   obtain⟨vb,hvb,lk0⟩:=((hvo'.keep k3 (by simp)).keep k3H (by simp;exact⟨hq,fun h=>by have:=hQ _ h;omega,fun h=>by have:=hQ _ h;omega⟩)).get hkt
   rw [hvb] at ih2 ⊢
   obtain⟨v,hv⟩:∃ v,l.getD k 0=v:=⟨_,rfl⟩
   rw [hv] at lk0
   have hdrop:l.drop k=v::l.drop (k+1):=by
    rw [List.drop_eq_getElem_cons hkt,← hv,List.getD_eq_getElem?_getD,List.getElem?_eq_getElem hkt];rfl
   rw [hdrop,Zci] at hR
   have br:=fun k n=>Zgm (m:=mH) hB k n
   have hc2:=hH.c.load1 (off:=2) rfl
   have hc5:=hH.c.load1 (off:=5) rfl
   have hc6:=hH.c.load1 (off:=6) rfl
   by_cases hbv:Zas v (nv u)=true
   case neg =>
    have hbv':Zas v (nv u)=false:=by simpa using hbv
    have hno:Zcd u=none:=eR0 (by rw [← hR];simp [Zey,hbv'])
    simp [-Int.natCast_add,k1,km,hkt,lk0,hc2,br,hbv']
    exact⟨Zjw hno,kH⟩
   have hbv2:=hbv
   unfold Zas at hbv2
   simp only [Bool.and_eq_true,decide_eq_true_eq] at hbv2
   obtain⟨n,rfl⟩:∃ n:Nat,v=(n:Int):=⟨v.toNat,by omega⟩
   have hn:n < nv u:=by omega
   have hn1:(n:Int) < nv u:=by omega
   have hn2:(n:Int)≤9223372036854775807:=by omega
   have lb1:=hH.o1.load1 (off:=n) (Zcp (by omega))
   obtain⟨w,hw⟩:∃ w,bl.getD n 0=w:=⟨_,rfl⟩
   rw [hw] at lb1
   by_cases hw0:0≤w
   ·have hno:Zcd u=none:=eR0 (by rw [← hR];simp [Zey,hbv,hw,hw0,-List.getD_eq_getElem?_getD])
    simp [-Int.natCast_add,-List.getD_eq_getElem?_getD,k1,km,hkt,lk0,hc2,hc5,br,hbv,hn2,hn,lb1,hw0]
    exact⟨Zjw hno,kH⟩
   have hno1:Zay (Za3 u (n:Int)).1 && !fst=true∨(decide ((Za3 u (n:Int)).1=1) != decide (b=0)) && Zay (Za3 u (n:Int)).1=true→Zcd u=none:=fun h=>eR0 (by
    rw [← hR,Zey,if_neg (by simp [hbv,hw,hw0,-List.getD_eq_getElem?_getD]),if_pos (by simpa using h)];rfl)
   have hgo:¬ (Zay (Za3 u (n:Int)).1 && !fst=true∨(decide ((Za3 u (n:Int)).1=1) != decide (b=0)) && Zay (Za3 u (n:Int)).1=true)→(Zci u b (k+1) (l.drop (k+1)) (bl.set n b,pl.set n k,Zay (Za3 u (n:Int)).1,met+1)).bind (Zcg u (b+1) (u.2.2.2.1.drop (b+1)))=R0:=fun h=>by
    rw [← hR,Zey,if_neg (by simp [hbv,hw,hw0,-List.getD_eq_getElem?_getD]),if_neg (by simpa using h)];rfl
   obtain⟨xb,ao',fa,hxv,ldx,_,_⟩:=Ziy (hU.keep kH (by simpa using hq)) hn
   have lop:=Zbo (k:=0) ldx rfl
   rw [Nat.add_zero] at lop
   rw [Zc6 hn] at hno1 hgo
   obtain⟨o,ho⟩:∃ o:Int,(u.2.2.1[n]).1=o:=⟨_,rfl⟩
   rw [ho] at lop
   rw [show (u.2.2.1[n]).1=o from ho] at hno1 hgo
   obtain⟨mI,eI,hI,kI⟩:=hH.set1 (i:=n) (by omega) b
   obtain⟨mJ,eJ,hJ,kJ⟩:=hI.set2 (i:=n) (by omega) k
   have ic5:=hI.c.load1 (off:=5) rfl
   have ic6:=hI.c.load1 (off:=6) rfl
   have ic2:=hI.c.load1 (off:=2) rfl
   rw [hxv] at hc2 ic2
   clear hv hdrop hbx' nZ
   have hgoal:∀ (hd:Bool),Zay o=hd→(¬ (Zay o && !fst=true∨(decide (o=1) != decide (b=0)) && Zay o=true))→∃ (k':Nat) (bl pl:List Int) (fst:Bool) (met':Nat),l.length - k'=l.length - (k+1)∧k'≤l.length∧Znr mJ u vo (some ⟨bb,0,none⟩) so r3 cb cf b1 b2 b1 b2 bl pl∧bl.length=nv u∧pl.length=nv u∧Zaa m mJ [cf]∧Zaa m3 mJ [cf,b1,b2]∧met'≤b * LL+k'∧(Zci u b k' (l.drop k') (bl,pl,fst,met')).bind (Zcg u (b+1) (u.2.2.2.1.drop (b+1)))=R0∧
     [(0,Value.pointer (some ⟨cb,0,none⟩)),(4,.int .i64 ((met+1:Nat):Int)),(5,.int .i64 (b:Int)),(7,.bool hd),(51,.slice (some ⟨bb,0,none⟩) (nb u) (nb u)),(52,.int .i64 (nb u)),(53,.int .i64 (b:Int)),(59,.slice (some ⟨vb.1,vb.2,none⟩) l.length l.length),(60,.int .i64 l.length),(61,.int .i64 ((k+1:Nat):Int))]=[(0,Value.pointer (some ⟨cb,0,none⟩)),(4,.int .i64 (met':Int)),(5,.int .i64 (b:Int)),(7,.bool fst),(51,.slice (some ⟨bb,0,none⟩) (nb u) (nb u)),(52,.int .i64 (nb u)),(53,.int .i64 (b:Int)),(59,.slice (some ⟨vb.1,vb.2,none⟩) l.length l.length),(60,.int .i64 l.length),(61,.int .i64 (k':Int))]:=by
    intro hd e hn
    exact⟨k+1,_,_,hd,met+1,rfl,by omega,hJ,by simpa using hbll,by simpa using hpll,Zcs (Zcs kH kI (by simp;omega)) kJ (by simp;omega),(k3H.trans (kI.mono (by simp))).trans (kJ.mono (by simp)),by omega,by rw [← e];exact hgo hn,rfl⟩
   by_cases c21:o=21
   case' pos=>have c1:¬ o=1:=by omega
   case' neg=>by_cases c1:o=1
   all_goals
    by_cases c0:b=0
    case' pos=>have c0':b=0↔True:=⟨fun _=>trivial,fun _=>c0⟩
    case' neg=>have c0':=c0
    all_goals
     cases fst
     all_goals
      simp [-Int.natCast_add,-List.getD_eq_getElem?_getD,Zgy u4 .neq (Or.inr rfl),k1,km,hkt,lk0,hc2,hc5,hc6,br,hbv,hn2,hn,lb1,hw0,lop,c21,c1,c0',eI,eJ,wm,wk]
      first
       | exact⟨Zjw (hno1 (by simp [Zay,c21,c1,c0])),kH⟩
       | exact ih2 _ _ _ _ (hgoal true (by simp [Zay,c21,c1]) (by simp [Zay,c21,c1,c0])) (by omega) ⟨by rfl,by rfl,by rfl,by rfl,by rfl,by rfl,by rfl,by rfl,by rfl,by rfl,trivial⟩
       | exact ih2 _ _ _ _ (hgoal false (by simp [Zay,c21,c1]) (by simp [Zay,c21,c1,c0])) (by omega) ⟨by rfl,by rfl,by rfl,by rfl,by rfl,by rfl,by rfl,by rfl,by rfl,by rfl,trivial⟩
  ·clear ih2
   have k1:¬ (k:Int) < l.length:=by omega
   have ek:k=l.length:=by omega
   rw [List.drop_of_length_le (by omega),Zci,Option.bind_some] at hR
   simp [-Int.natCast_add,-List.getD_eq_getElem?_getD,k1,wb]
   have hmm:met≤(b+1) * LL:=by rw [Nat.add_mul];omega
   exact ih _ _ _ _ ⟨b+1,bl,pl,fst,met,rfl,by omega,hH,hbll,hpll,kH,hmm,hR,rfl⟩ (by omega) (by repeat' constructor)
 clear ih
 have b1':¬ (b:Int) < nb u:=by omega
 have hc2:=hG.c.load1 (off:=2) rfl
 rw [List.drop_of_length_le (Nat.not_lt.1 hlt),Zcg] at hR
 rw [← hR] at hs0
 simp [-Int.natCast_add,-List.getD_eq_getElem?_getD,b1',hc2]
 refine⟨?_,kG⟩
 by_cases hme:met=nv u
 ·have:Zcd u=some (bl,pl,fst,met):=by rw [hs0];simp [Option.filter,hme]
  refine⟨by rw [this];simp [hme],fun s hs=>?_⟩
  rw [this,Option.some.injEq] at hs
  subst hs
  exact⟨b1,b2,b1,b2,hG,hm1,hm2⟩
 ·have:Zcd u=none:=by rw [hs0];simp [Option.filter,hme]
  have hne:¬ (met:Int)=nv u:=by omega
  simp only [hne,decide_false]
  exact Zjw this
end Go.Proofs.YtcgmchechmbmeaaDoor.base
end
section
set_option maxRecDepth 100000
namespace Go.Proofs.YtcgmchechmbmeaaDoor.base
open Go.Sh gen
variable {S:Zb4}{m:Mem}
def lvs (op:Int):Bool:=decide (op=22) || decide (op=23)
theorem Zov (hS:S 55=[])(op:Int):Zaq Tryd.prog TT S 55 [.int .i64 op] m=some (.bool (lvs op),m):=by
 refine Zlm 3 [] k55 hS rfl ?_
 unfold lvs
 by_cases h:op=22
 ·simp [h]
 ·simp [h]
def Zka (n:Int)(x:Za9.D):Bool:=decide (x.1=1) && decide ((show Int from x.2.2.2.1)=n)
theorem Zzy (hS:S 57=[]){x y:Za9.D}{ao ay:Option Addr}{vb vf:Nat}(hv:Own m vb (Zlt y ay) 43 vf) :
  ∃ v m1,Zaq Tryd.prog TT S 57 [.agg (Zlt x ao).toArray,.pointer (some ⟨vb,0,none⟩)] m=some (v,m1)∧v=.bool (Zka (show Int from y.2.2.2.1) x)∧Zaa m m1 []:=by
 unfold Zka
 obtain⟨o,ho⟩:∃ o:Int,x.1=o:=⟨_,rfl⟩
 obtain⟨n,hn⟩:∃ n:Int,x.2.2.2.1=n:=⟨_,rfl⟩
 obtain⟨n',hn'⟩:∃ n:Int,y.2.2.2.1=n:=⟨_,rfl⟩
 rw [show (show Int from x.2.2.2.1)=n from hn,show (show Int from y.2.2.2.1)=n' from hn']
 unfold Zlt
 rw [ho,hn]
 obtain⟨oZ,kZ,nZ⟩:=Zar (m:=m) (cs:=[.int .i64 o,.int .i64 x.2.1,.int .i64 x.2.2.1,.int .i64 n,.slice ao x.2.2.2.2.1.length x.2.2.2.2.1.length,.int .i64 x.2.2.2.2.2.1]) (e:=43) rfl
 obtain⟨bx,hbx⟩:∃ bx,m.next=bx:=⟨_,rfl⟩
 rw [hbx] at oZ nZ
 have l0:=oZ.load1 (off:=0) rfl
 have l3:=oZ.load1 (off:=3) rfl
 have f3:=(hv.keep kZ (by simp)).load1 (off:=3) rfl
 rw [show y.2.2.2.1=n' from hn'] at f3
 refine Zhk 4 [] k57 hS rfl ?_
 by_cases h1:o=1
 ·subst h1
  simp [Zbn b43,hbx,l0,l3,f3]
  exact kZ
 ·simp [Zbn b43,hbx,l0,h1]
  exact kZ
set_option maxHeartbeats 4000000 in
theorem Z16 (hS:S 68=[])(h1:S 57=[]){Q:Nat→Prop}{u:UnT.D}{vo bo so:Option Addr}(hU:UAt Q m u vo bo so)(hnu:nv u≤1000000){y:Za9.D}{ay:Option Addr}{vb vf:Nat}(hv:Own m vb (Zlt y ay) 43 vf){k c:Nat}(hk:k≤nv u) :
  ∃ v m1,Zaq Tryd.prog TT S 68 [.slice vo k c,.func (.func 57) #[] #[.pointer (some ⟨vb,0,none⟩)]] m=some (v,m1)∧(∃ r:Int,v=.int .i64 r∧decide (0≤r)=((show List Za9.D from u.2.2.1).take k).any (Zka (show Int from y.2.2.2.1)))∧Zaa m m1 []:=by
 refine Zhk 9 [9,16] k68 hS rfl ?_
 obtain⟨P,hP⟩:∃ P,Zka (show Int from y.2.2.2.1)=P:=⟨_,rfl⟩
 rw [hP]
 have hkm:k≤1000000:=by omega
 simp [-Int.natCast_add,-List.any_eq_true]
 obtain⟨L,hL⟩:∃ L:List Za9.D,L=u.2.2.1.take k:=⟨_,rfl⟩
 have hLl:L.length=k:=by rw [hL,List.length_take];exact Nat.min_eq_left hk
 rw [show (List.take k u.2.2.1:List Za9.D)=L from hL.symm]
 obtain⟨A,hA⟩:∃ A,L.any P=A:=⟨_,rfl⟩
 rw [hA]
 refine Zag 9 [9,16] (fun d E mF=>∃ (i:Nat),k - i=d∧i≤k∧Zaa m mF []∧(L.drop i).any P=A∧
  E=[(0,.slice vo k c),(1,.func (.func 57) #[] #[.pointer (some ⟨vb,0,none⟩)]),(7,.int .i64 (k:Int)),(8,.int .i64 (i:Int))]) _ ⟨_,⟨0,rfl,by omega,.refl _ _,by rw [List.drop_zero];exact hA,rfl⟩,(by repeat' constructor)⟩ ?_
 rintro d E mF ih ⟨i,hd,hi,kF,ha,rfl⟩
 have im:(i:Int)≤9223372036854775807:=by omega
 by_cases hlt:i < k
 ·have i1:(i:Int) < k:=by omega
  have wi:IntKind.i64.wrap ((i:Int)+1)=((i+1:Nat):Int):=by rw [Zab (by omega) (by omega)];omega
  have hiu:i < u.2.2.1.length:=Nat.lt_of_lt_of_le hlt hk
  obtain⟨xb,ao,fa,hxv,ldx,_,_⟩:=Ziy (hU.keep kF (by simp)) hiu
  have hLi:L.drop i=u.2.2.1[i]::L.drop (i+1):=by
   rw [List.drop_eq_getElem_cons (by omega)]
   congr 1
   simp only [hL,List.getElem_take]
  rw [hLi,List.any_cons] at ha
  rw [hxv] at ih ⊢
  obtain⟨_,mG,cG,rfl,kG⟩:=Zzy (x:=u.2.2.1[i]) (ao:=ao) h1 (hv.keep kF (by simp))
  rw [hP] at cG
  generalize u.2.2.1[i]=X at *
  cases hp:P X
  ·rw [hp] at cG ha
   simp [-Int.natCast_add,-List.any_eq_true,i1,im,hlt,ldx,cG,wi]
   exact ih _ _ _ _ ⟨i+1,rfl,by omega,kF.trans kG,by rw [← ha];rfl,rfl⟩ (by omega) (by repeat' constructor)
  ·rw [hp,Bool.true_or] at ha
   rw [hp] at cG
   simp [-Int.natCast_add,-List.any_eq_true,i1,im,hlt,ldx,cG]
   exact⟨ha.symm,kF.trans kG⟩
 clear ih
 have i1:¬ (i:Int) < k:=by omega
 rw [List.drop_of_length_le (by omega),List.any_nil] at ha
 simp [-Int.natCast_add,-List.any_eq_true,i1]
 exact⟨ha.symm,kF⟩
theorem Zxb (hS:S 56=[])(hI:S 68=[])(h1:S 57=[]){Q:Nat→Prop}{u:UnT.D}{vo bo so:Option Addr}(hU:UAt Q m u vo bo so)(hnu:nv u≤1000000){y:Za9.D}{ay:Option Addr}{vb vf:Nat}(hv:Own m vb (Zlt y ay) 43 vf){k c:Nat}(hk:k≤nv u) :
  ∃ v m1,Zaq Tryd.prog TT S 56 [.slice vo k c,.func (.func 57) #[] #[.pointer (some ⟨vb,0,none⟩)]] m=some (v,m1)∧v=.bool (((show List Za9.D from u.2.2.1).take k).any (Zka (show Int from y.2.2.2.1)))∧Zaa m m1 []:=by
 obtain⟨_,m1,e1,⟨r,rfl,hr⟩,k1⟩:=Z16 (c:=c) hI h1 hU hnu hv hk
 refine Zhk 5 [] k56 hS rfl ?_
 rw [← hr]
 simp [-Int.natCast_add,-List.any_eq_true,e1]
 exact k1
end Go.Proofs.YtcgmchechmbmeaaDoor.base
end
section
set_option maxRecDepth 100000
namespace Go.Proofs.YtcgmchechmbmeaaDoor.base
open Go.Sh gen
variable {S:Zb4}{m:Mem}
def Zpg (op:Int):Bool:=decide (1≤op) && decide (op≤23)
def Z9p (S:Zb4):Prop:=∀ (m:Mem) (op:Int),∃ s:List UInt8,Zaq Tryd.prog TT S 15 [.int .i64 op] m=some (.string ⟨s.toArray⟩,m)∧(s=[]↔Zpg op=false)
def Zlg (u:UnT.D)(b:Int):Nat:=List.length (Zda u b.toNat).2.2.2.2.1
def Zve (u:UnT.D)(bl:List Int)(i:Nat):Bool:=
  Zpg (Za3 u i).1 && Zcb u (Zfb (Za3 u i)) && (!lvs (Za3 u i).1 || Zas (show Int from (Za3 u i).2.2.2.2.2.1) (ns u)) &&
  (if (Za3 u i).1=20 then decide (List.length (Za3 u i).2.2.2.2.1=1) else
   if (Za3 u i).1=21 then decide (List.length (Za3 u i).2.2.2.2.1=Zlg u (bl.getD i 0)) else
   if (Za3 u i).1=1 then decide (0≤(show Int from (Za3 u i).2.2.2.1)) && decide ((show Int from (Za3 u i).2.2.2.1) < 40) && !((show List Za9.D from u.2.2.1).take i).any (Zka (show Int from (Za3 u i).2.2.2.1)) else true)
theorem Zj5 (op a b:Int)(l:List Int):(Zcm op a b l).length≤l.length+2:=by
 rw [Zpk,List.length_append]
 have h1:([a,b].take (Zc op)).length≤2:=by simp;omega
 have h2:(if op=20 then l.take 1 else if op=21 then l else []).length≤l.length:=by
  split
  ·simp;omega
  ·split <;> simp
 omega
structure Nc (S:Zb4):Prop where
 name:Z9p S
 uses:S 13=[]
 parts:S 42=[]
 there:S 53=[]
 below:S 54=[]
 leaves:S 55=[]
 cont:S 56=[]
 idx:S 68=[]
 val1:S 57=[]
 val:S 36=[]
set_option maxHeartbeats 8000000 in
theorem Z31 (hN:Nc S){Q:Nat→Prop}{u:UnT.D}{vo bo so:Option Addr}(hU:UAt Q m u vo bo so)(hnu:nv u≤1000000)(hnb:nb u≤1000)(hns:ns u≤1000000){r3:Value}{cb cf b1 b2 f1 f2:Nat}{bl pl:List Int}(hC:Znr m u vo bo so r3 cb cf b1 b2 f1 f2 bl pl)
  (hbl:bl.length=nv u) (hbb:∀ i < nv u,0≤bl.getD i 0∧bl.getD i 0 < nb u) {i:Nat} (hi:i < nv u) (hal:(Za3 u i).2.2.2.2.1.length * 8≤140737488351232) :
  ∃ v m1,Zaq Tryd.prog TT S 36 [.pointer (some ⟨cb,0,none⟩),.int .i64 (i:Int)] m=some (v,m1)∧v=.bool (Zve u bl i)∧Zaa m m1 []:=by
 obtain⟨xb,ao,fa,hvo,ldx,hra,hqa⟩:=Ziy hU hi
 have hb1:=hbb i hi
 have hvi:=Zc6 hi
 unfold Zve
 rw [hvi] at hal ⊢
 rw [← hvi] at ldx hra hqa hal ⊢
 obtain⟨X,hX⟩:∃ X,Za3 u (i:Int)=X:=⟨_,rfl⟩
 rw [hX] at ldx hra hqa hal ⊢
 obtain⟨o,ho⟩:∃ o:Int,X.1=o:=⟨_,rfl⟩
 obtain⟨a,ha⟩:∃ o:Int,X.2.1=o:=⟨_,rfl⟩
 obtain⟨b,hb⟩:∃ o:Int,X.2.2.1=o:=⟨_,rfl⟩
 obtain⟨n,hn⟩:∃ o:Int,X.2.2.2.1=o:=⟨_,rfl⟩
 obtain⟨l,hl⟩:∃ o:List Int,X.2.2.2.2.1=o:=⟨_,rfl⟩
 obtain⟨st,hst⟩:∃ o:Int,X.2.2.2.2.2.1=o:=⟨_,rfl⟩
 have hus:Zfb X=Zcm o a b l:=by unfold Zfb;rw [ho,ha,hb,hl]
 rw [hus,show (show Int from X.2.2.2.2.2.1)=st from hst,show (show Int from X.2.2.2.1)=n from hn,ho,show List.length X.2.2.2.2.1=l.length by rw [hl]]
 unfold Zlt at ldx
 rw [ho,ha,hb,hn,hst,hl] at ldx
 rw [hl] at hra hqa hal
 have c2:=hC.c.load1 (off:=2) rfl
 rw [hvo] at c2
 have i1:(i:Int) < nv u:=by omega
 have i2:(i:Int)≤9223372036854775807:=by omega
 obtain⟨oZ,kZ,nZ⟩:=Zar (m:=m) (cs:=[.int .i64 0,.int .i64 0,.int .i64 0,.int .i64 0,.slice none 0 0,.int .i64 0]) (e:=43) rfl
 obtain⟨bx,hbx⟩:∃ bx,m.next=bx:=⟨_,rfl⟩
 obtain⟨m3,e3,oX,kX⟩:=Zap (r:=_) rfl oZ (off:=0) (vs:=[.int .i64 o,.int .i64 a,.int .i64 b,.int .i64 n,.slice ao l.length l.length,.int .i64 st]) (by simp) (by simp [Zau,Zae])
 simp [Zbx] at oX
 have k3:=kZ.fresh kX (by simp)
 rw [hbx] at oX nZ e3
 have lx:=oX.load (off:=0) 6 (by simp)
 simp [Zao] at lx
 have x0:=oX.load1 (off:=0) rfl
 have x3:=oX.load1 (off:=3) rfl
 have x4:=oX.load1 (off:=4) rfl
 have x5:=oX.load1 (off:=5) rfl
 obtain⟨s,nm,hs⟩:=hN.name m3 o
 have hC3:=hC.keep0 k3
 have hU3:=hU.keep k3 (by simp)
 obtain⟨v4,m4,c4,⟨uo,uf,rfl,hru⟩,k4⟩:=Zuk (m:=m3) hN.uses hN.parts (op:=o) (a:=a) (b:=b) (n:=n) (st:=st) hal (hra.keep k3 (by simp))
 have hC4:=hC3.keep0 k4
 have hU4:=hU3.keep k4 (by simp)
 have hul:=Zj5 o a b l
 obtain⟨L,hL⟩:∃ L,Zcm o a b l=L:=⟨_,rfl⟩
 rw [hL] at hul
 have hLl:L.length≤20000000000000:=by omega
 rw [hL] at c4 hru ⊢
 have t4:=Zkd (m:=m4) (Q2:=fun _=>True) hN.there hN.below hU4 hnu (hC4.c.load1 (off:=2) rfl) hLl ⟨uf,Zp1 hru,fun _=>trivial⟩
 have br:=fun k n=>Zgm (m:=m4) hN.below k n
 have lv3:=Zov (m:=m3) hN.leaves o
 have lv4:=Zov (m:=m4) hN.leaves o
 have oX4:=oX.keep k4 (by simp)
 have y0:=oX4.load1 (off:=0) rfl
 have y3:=oX4.load1 (off:=3) rfl
 have y4:=oX4.load1 (off:=4) rfl
 have y5:=oX4.load1 (off:=5) rfl
 have ly:=oX4.load (off:=0) 6 (by simp)
 simp [Zao] at ly
 have c4':=hC4.c.load1 (off:=4) rfl
 have c43:=hC3.c.load1 (off:=4) rfl
 refine Zhk 44 [44,50,72] k36 hN.val rfl ?_
 by_cases hop:Zpg o=true
 case neg =>
  have hop':Zpg o=false:=by simpa using hop
  have s0:=hs.2 hop'
  subst s0
  rw [hop']
  simp [-Int.natCast_add,c2,i2,hi,ldx,hbx,e3,x0,nm]
  exact k3
 have s0:s.isEmpty=false:=by
  cases hse:s.isEmpty
  ·rfl
  ·rw [hs.1 (List.isEmpty_iff.1 hse)] at hop;cases hop
 rw [hop,Bool.true_and]
 obtain⟨T,hT⟩:∃ T,Zcb u L=T:=⟨_,rfl⟩
 rw [hT] at t4 ⊢
 cases T
 ·simp [-Int.natCast_add,c2,i2,hi,ldx,hbx,e3,x0,nm,s0,lx,c4,t4]
  exact k3.trans k4
 obtain⟨B,hB⟩:∃ B,Zas st (ns u)=B:=⟨_,rfl⟩
 obtain⟨V,hV⟩:∃ V,lvs o=V:=⟨_,rfl⟩
 rw [hB,hV]
 rw [hV] at lv3 lv4
 have br4:=br st (ns u)
 rw [hB] at br4
 by_cases hVB:V=true∧B=false
 case pos =>
  obtain⟨rfl,rfl⟩:=hVB
  simp [-Int.natCast_add,c2,i2,hi,ldx,hbx,e3,x0,nm,s0,lx,y0,y5,c4,t4,lv4,c4',br4]
  exact k3.trans k4
 have hVB':(!V || B)=true:=by cases V <;> cases B <;> simp_all
 rw [hVB',Bool.true_and,Bool.true_and]
 obtain⟨bi,hbi⟩:∃ bi:Nat,bl.getD i 0=(bi:Int):=⟨(bl.getD i 0).toNat,by omega⟩
 have hbin:bi < nb u:=by omega
 have lb1:=hC4.o1.load1 (off:=i) (Zcp (by omega))
 rw [hbi] at lb1 ⊢
 obtain⟨bb,vo',no',po',hbo,ldb,_,_,_⟩:=Zf0 hU4 hbin
 have ldp:=Zbo (k:=4) ldb rfl
 have hpN:Zlg u (bi:Int)=(u.2.2.2.1[bi]).2.2.2.2.1.length:=by unfold Zlg;rw [Int.toNat_natCast,Zb2 hbin]
 rw [hpN]
 obtain⟨pn,hpn⟩:∃ pn:Nat,(u.2.2.2.1[bi]).2.2.2.2.1.length=pn:=⟨_,rfl⟩
 rw [hpn] at ldp ⊢
 have c3':=hC4.c.load1 (off:=3) rfl
 rw [hbo] at c3'
 have c5':=hC4.c.load1 (off:=5) rfl
 have c2':=hC4.c.load1 (off:=2) rfl
 rw [hvo] at c2'
 have bi1:(bi:Int) < nb u:=by omega
 have bi2:(bi:Int)≤9223372036854775807:=by omega
 obtain⟨xf,hvX⟩:∃ xf,Own m4 bx (Zlt X ao) 43 xf:=⟨_,by unfold Zlt;rw [ho,ha,hb,hn,hl,hst];exact oX4⟩
 obtain⟨W,hW⟩:∃ W,((show List Za9.D from u.2.2.1).take i).any (Zka n)=W:=⟨_,rfl⟩
 rw [hW]
 have ct:=fun c=>Zxb (c:=c) hN.cont hN.idx hN.val1 hU4 hnu hvX (Nat.le_of_lt hi)
 rw [show (show Int from X.2.2.2.1)=n from hn,hW,hvo] at ct
 have iv:i≤nv u:=by omega
 obtain⟨_,m5,c5v,rfl,k5⟩:=ct i
 have q20:decide (l.length=1)=decide ((l.length:Int)=1):=decide_eq_decide.2 (by omega)
 have q21:decide (l.length=pn)=decide ((l.length:Int)=pn):=decide_eq_decide.2 (by omega)
 rw [q20,q21]
 generalize hR:(if o=20 then decide ((l.length:Int)=1) else if o=21 then decide ((l.length:Int)=pn) else if o=1 then decide (0≤n) && decide (n < 40) && !W else true)=R
 cases V
 case' true=>have hBt:B=true:=by simpa using hVB'
 case' true=>subst hBt
 all_goals
  simp [-Int.natCast_add,-w36_5,c2,i2,hi,ldx,hbx,e3,x0,nm,s0,lx,y0,y5,c4,t4,lv4,c4',br4]
  by_cases c20:o=20
  ·rw [if_pos c20] at hR
   subst hR
   simp [-Int.natCast_add,y4,c20]
   exact k3.trans k4
  by_cases c21:o=21
  ·rw [if_neg c20,if_pos c21] at hR
   subst hR
   simp [-Int.natCast_add,c21,y4,c3',c5',lb1,bi2,i2,hi,ldp,hbin]
   exact k3.trans k4
  rw [if_neg c20,if_neg c21] at hR
  by_cases c1:o=1
  ·rw [if_pos c1] at hR
   by_cases q1:0≤n
   case neg =>
    have hRf:R=false:=by rw [← hR];simp [q1]
    rw [hRf]
    simp [-Int.natCast_add,Zcc u25 Z4h,c1,y3,q1]
    exact k3.trans k4
   by_cases q2:n < 40
   case neg =>
    have hRf:R=false:=by rw [← hR];simp [q2]
    rw [hRf]
    simp [-Int.natCast_add,Zcc u25 Z4h,c1,y3,q1,q2]
    exact k3.trans k4
   have hRW:R=!W:=by rw [← hR];simp [q1,q2]
   rw [hRW]
   simp [-Int.natCast_add,Zcc u25 Z4h,c1,y3,q1,q2,c2',i2,iv,c5v]
   exact (k3.trans k4).trans k5
  rw [if_neg c1] at hR
  subst hR
  simp [-Int.natCast_add,c20,c21,c1]
  exact k3.trans k4
end Go.Proofs.YtcgmchechmbmeaaDoor.base
end
section
set_option maxRecDepth 100000
namespace Go.Proofs.YtcgmchechmbmeaaDoor.base
open Go.Sh gen
variable {S:Zb4}{m:Mem}
def eqF (a b:List Int):Bool:=decide (a=b)
theorem Za7 {l:List Int}{i:Nat}(h:i < l.length):l.drop i=l.getD i 0::l.drop (i+1):=by
 rw [List.drop_eq_getElem_cons h,List.getD_eq_getElem?_getD,List.getElem?_eq_getElem h];rfl
set_option maxHeartbeats 4000000 in
theorem Zxj (hS:S 59=[]){Q Q2:Nat→Prop}{a b:List Int}{ao bo:Option Addr}(ha:Zah Q m ao a)(hb:Zah Q2 m bo b)(hal:a.length≤20000000000000)(hbl:b.length≤20000000000000) :
  Zaq Tryd.prog TT S 59 [.slice ao a.length a.length,.slice bo b.length b.length] m=some (.bool (eqF a b),m):=by
 refine Zlm 14 [14,24] k59 hS rfl ?_
 by_cases hl:a.length=b.length
 case neg =>
  have hl':¬ (a.length:Int)=b.length:=by omega
  have:eqF a b=false:=by unfold eqF;exact decide_eq_false fun e=>hl (by rw [e])
  simp [-Int.natCast_add,hl',this]
 have hl':(a.length:Int)=b.length↔True:=by simp;omega
 have hl2:(b.length:Int)=a.length↔True:=by simp;omega
 simp [-Int.natCast_add,hl']
 obtain⟨R,hR⟩:∃ R,eqF a b=R:=⟨_,rfl⟩
 rw [hR]
 have im2:(b.length:Int)≤9223372036854775807:=by omega
 refine Zag 14 [14,24] (fun d E mF=>∃ (i:Nat),a.length - i=d∧i≤a.length∧mF=m∧eqF (a.drop i) (b.drop i)=R∧
  E=[(0,.slice ao a.length a.length),(1,.slice bo b.length b.length),(12,.int .i64 a.length),(13,.int .i64 (i:Int))]) _ ⟨_,⟨0,rfl,by omega,rfl,by rw [List.drop_zero,List.drop_zero];exact hR,rfl⟩,(by repeat' constructor)⟩ ?_
 rintro d E mF ih ⟨i,hd,hi,rfl,hr,rfl⟩
 have im:(i:Int)≤9223372036854775807:=by omega
 by_cases hlt:i < a.length
 ·have i1:(i:Int) < a.length:=by omega
  have i2:(i:Int) < b.length:=by omega
  have hlt2:i < b.length:=by omega
  have wi:IntKind.i64.wrap ((i:Int)+1)=((i+1:Nat):Int):=by rw [Zab (by omega) (by omega)];omega
  obtain⟨xa,rfl,la⟩:=ha.get hlt
  obtain⟨xb,rfl,lb⟩:=hb.get hlt2
  rw [Za7 hlt,Za7 hlt2] at hr
  obtain⟨x,hx⟩:∃ x,a.getD i 0=x:=⟨_,rfl⟩
  obtain⟨y,hy⟩:∃ x,b.getD i 0=x:=⟨_,rfl⟩
  rw [hx] at la hr
  rw [hy] at lb hr
  by_cases hxy:x=y
  ·subst hxy
   simp [-Int.natCast_add,i1,im,hlt,hlt2,la,lb,wi]
   exact ih _ _ _ _ ⟨i+1,rfl,by omega,rfl,by rw [← hr];unfold eqF;simp,rfl⟩ (by omega) (by repeat' constructor)
  ·have:R=false:=by rw [← hr];unfold eqF;simp [hxy]
   simp [-Int.natCast_add,i1,im,hlt,hlt2,la,lb,hxy,this]
 clear ih
 have i1:¬ (i:Int) < a.length:=by omega
 rw [List.drop_of_length_le (by omega),List.drop_of_length_le (by omega)] at hr
 have:R=true:=by rw [← hr];rfl
 simp [-Int.natCast_add,i1,this]
end Go.Proofs.YtcgmchechmbmeaaDoor.base
end
