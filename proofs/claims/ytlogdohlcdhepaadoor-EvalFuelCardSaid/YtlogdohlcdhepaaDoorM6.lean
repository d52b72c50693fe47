/- This text proves what ssa.checker's 'stand' answers and leaves, Zb5 the abstract run. Condition: nothing is known of the calls ahead ('S f = []'). -/
import Derived.Test.YtlogdohlcdhepaaDoorM5
set_option linter.unusedVariables false
set_option linter.unusedSimpArgs false
section
set_option maxRecDepth 100000
namespace Go.Proofs.YtlogdohlcdhepaaDoor.base
open Go.Sh gen
variable {S:Zc}{m:Mem}
abbrev StS:=List Int × List Int × Bool × Nat
def Za9 (op:Int):Bool:=decide (op=21) || decide (op=1)
def Zg9 (u:UnT.D)(b k:Nat)(s:StS)(v:Int):Option StS:=
 if !Zcf v (nv u) || decide (0≤s.1.getD v.toNat 0) then none else
 if (Za9 (Zbd u v).1 && !s.2.2.1) || ((decide ((Zbd u v).1=1) != decide (b=0)) && Za9 (Zbd u v).1) then none else
 some (s.1.set v.toNat b,s.2.1.set v.toNat k,Za9 (Zbd u v).1,s.2.2.2+1)
def Zep (u:UnT.D)(b:Nat):Nat→List Int→StS→Option StS
 | _,[],s=>some s
 | k,v::r,s=>(Zg9 u b k s v).bind (Zep u b (k+1) r)
def Zdv (u:UnT.D):Nat→List Zf9.D→StS→Option StS
 | _,[],s=>some s
 | b,x::r,s=>(Zep u b 0 x.1 (s.1,s.2.1,true,s.2.2.2)).bind (Zdv u (b+1) r)
def Zdt (u:UnT.D):Option StS:=(Zdv u 0 u.2.2.2.1 (List.replicate (nv u) (-1),List.replicate (nv u) 0,true,0)).filter fun s=>s.2.2.2=nv u
structure Zon (m1:Mem)(u:UnT.D)(vo bo so:Option Addr)(r3:Value)(cb cf b1 b2 f1 f2:Nat)(bl pl:List Int):Prop where
 o1:Own m1 b1 (ints bl) 3 f1
 o2:Own m1 b2 (ints pl) 3 f2
 c:Own m1 cb (ckC u vo bo so (.slice (some ⟨b1,0,none⟩) (nv u) (nv u)) (.slice (some ⟨b2,0,none⟩) (nv u) (nv u)) r3) 99 cf
 n1:f1≠f2
 n2:f1≠cf
 n3:f2≠cf
def Z4p (m m1:Mem)(u:UnT.D)(vo bo so:Option Addr)(r3:Value)(cb cf:Nat)(v:Value):Prop:=
 v=.bool (Zdt u).isSome∧∀ s,Zdt u=some s→∃ b1 b2 f1 f2,Zon m1 u vo bo so r3 cb cf b1 b2 f1 f2 s.1 s.2.1∧m.next≤f1∧m.next≤f2
theorem Zjt {m m1:Mem}{u:UnT.D}{vo bo so:Option Addr}{r3:Value}{cb cf:Nat}(h:Zdt u=none):Z4p m m1 u vo bo so r3 cb cf (.bool false):=
 ⟨by rw [h];rfl,fun s hs=>by rw [h] at hs;cases hs⟩
theorem Zon.keep {m m1:Mem}{u:UnT.D}{vo bo so:Option Addr}{r3:Value}{cb cf b1 b2 f1 f2:Nat}{bl pl:List Int}{fs:List Nat}(h:Zon m u vo bo so r3 cb cf b1 b2 f1 f2 bl pl)(k:Zag m m1 fs)(h1:f1∉fs)(h2:f2∉fs)(h3:cf∉fs):Zon m1 u vo bo so r3 cb cf b1 b2 f1 f2 bl pl:=
 ⟨h.o1.keep k h1,h.o2.keep k h2,h.c.keep k h3,h.n1,h.n2,h.n3⟩
theorem Zon.keep0 {m m1:Mem}{u:UnT.D}{vo bo so:Option Addr}{r3:Value}{cb cf b1 b2 f1 f2:Nat}{bl pl:List Int}(h:Zon m u vo bo so r3 cb cf b1 b2 f1 f2 bl pl)(k:Zag m m1 []):Zon m1 u vo bo so r3 cb cf b1 b2 f1 f2 bl pl:=h.keep k (by simp) (by simp) (by simp)
theorem Zon.set1 {u:UnT.D}{vo bo so:Option Addr}{r3:Value}{cb cf b1 b2 f1 f2:Nat}{bl pl:List Int}(h:Zon m u vo bo so r3 cb cf b1 b2 f1 f2 bl pl){i:Nat}(hi:i < bl.length)(v:Int) :
  ∃ m1,Zaj m ⟨b1,i,none⟩ [.int .i64 v]=some m1∧Zon m1 u vo bo so r3 cb cf b1 b2 f1 f2 (bl.set i v) pl∧Zag m m1 [f1]:=by
 obtain⟨m1,e1,o1,k1⟩:=Zij h.o1 hi v
 have:=h.n1;have:=h.n2
 exact⟨m1,e1,⟨o1,h.o2.keep k1 (by simp;omega),h.c.keep k1 (by simp;omega),h.n1,h.n2,h.n3⟩,k1⟩
theorem Zon.set2 {u:UnT.D}{vo bo so:Option Addr}{r3:Value}{cb cf b1 b2 f1 f2:Nat}{bl pl:List Int}(h:Zon m u vo bo so r3 cb cf b1 b2 f1 f2 bl pl){i:Nat}(hi:i < pl.length)(v:Int) :
  ∃ m1,Zaj m ⟨b2,i,none⟩ [.int .i64 v]=some m1∧Zon m1 u vo bo so r3 cb cf b1 b2 f1 f2 bl (pl.set i v)∧Zag m m1 [f2]:=by
 obtain⟨m1,e1,o1,k1⟩:=Zij h.o2 hi v
 have:=h.n1;have:=h.n3
 exact⟨m1,e1,⟨h.o1.keep k1 (by simp;omega),o1,h.c.keep k1 (by simp;omega),h.n1,h.n2,h.n3⟩,k1⟩
set_option maxHeartbeats 8000000 in
theorem Zyh (hS:S 48=[])(hB:S 65=[]){Q:Nat→Prop}{u:UnT.D}{vo bo so:Option Addr}(hU:UAt Q m u vo bo so)(hQ:∀ f,Q f→f < m.next)(hnu:nv u≤1000000)(hnb:nb u≤1000){cb cf:Nat}{r1 r2 r3:Value}(hC:Own m cb (ckC u vo bo so r1 r2 r3) 99 cf)(hq:¬ Q cf)
  (hbl:∀ b∈u.2.2.2.1,List.length b.1≤20000000000000) :
  ∃ v m1,Zal Tryd.prog TT S 48 [.pointer (some ⟨cb,0,none⟩)] m=some (v,m1)∧
   Z4p m m1 u vo bo so r3 cb cf v∧Zag m m1 [cf]:=by
 have l2:=hC.load1 (off:=2) rfl
 have z1:=Zrq (nv u) hnu
 rw [Zr] at z1
 have z2:(nv u:Int)≤9223372036854775807:=by omega
 have z3:nv u * 8≤281474976710656:=by omega
 obtain⟨oA,kA,nA⟩:=Zay (m:=m) (cs:=ints (List.replicate (nv u) 0)) (e:=3) rfl
 obtain⟨b1,hb1⟩:∃ b1,m.next=b1:=⟨_,rfl⟩
 obtain⟨mA,hmA⟩:∃ mA,m.new (ints (List.replicate (nv u) 0)) 3=mA:=⟨_,rfl⟩
 rw [hmA,hb1] at oA nA
 rw [hmA] at kA
 have hCA:=hC.keep kA (by simp)
 have lA:=hCA.load1 (off:=2) rfl
 obtain⟨mB,eB,oB,kB⟩:=Zap (r:=_) rfl hCA (off:=5) (vs:=[.slice (some ⟨b1,0,none⟩) (nv u) (nv u)]) (by simp) (by simp [Zai])
 simp [Zb5] at oB
 have lB:=oB.load1 (off:=2) rfl
 obtain⟨oC,kC,nC⟩:=Zay (m:=mB) (cs:=ints (List.replicate (nv u) 0)) (e:=3) rfl
 obtain⟨b2,hb2⟩:∃ b2,mB.next=b2:=⟨_,rfl⟩
 obtain⟨mC,hmC⟩:∃ mC,mB.new (ints (List.replicate (nv u) 0)) 3=mC:=⟨_,rfl⟩
 rw [hmC,hb2] at oC nC
 rw [hmC] at kC
 have hCC:=oB.keep kC (by simp)
 have lC:=hCC.load1 (off:=2) rfl
 obtain⟨mD,eD,oD,kD⟩:=Zap (r:=_) rfl hCC (off:=6) (vs:=[.slice (some ⟨b2,0,none⟩) (nv u) (nv u)]) (by simp) (by simp [Zai])
 simp [Zb5] at oD
 have lD:=oD.load1 (off:=2) rfl
 have l5:=oD.load1 (off:=5) rfl
 have l3:=oD.load1 (off:=3) rfl
 have fA:=oA.flt
 have fC:=hC.flt
 have b12:b1 < b2:=by have:=kB.1;omega
 have K0:Zag m mD [cf]:=Zbf (Zbf (Zbf kA.nil kB (by simp)) kC (by simp)) kD (by simp)
 have C0:Zon mD u vo bo so r3 cb cf b1 b2 b1 b2 (List.replicate (nv u) 0) (List.replicate (nv u) 0):=
  ⟨((oA.keep kB (by simp;omega)).keep kC (by simp)).keep kD (by simp;omega),oC.keep kD (by simp;omega),oD,by omega,by omega,by omega⟩
 have hm1:m.next≤b1:=by omega
 have hm2:m.next≤b2:=by omega
 have cfm:cf < m.next:=hC.flt
 refine Zfz 62 [62,84,114] k48 hS rfl ?_
 simp [-Int.natCast_add,-List.map_replicate,Za Zbt,Za Za3,Zaa Zd5,Zac u30,Znh u36 ap3,Za Zic,Zad Zgt,Za Znr,Zaa Zb3,Zac u36,l2,z1,z2,z3,hmA,hb1,lA,eB,hmC,hb2,eD,l5]
 clear oA kA nA hCA lA eB oB kB lB oC kC nC hCC lC eD kD hC l2
 refine Zaq 62 [62,84,114] (fun d E mF=>∃ (i:Nat),nv u - i=d∧i≤nv u∧Zon mF u vo bo so r3 cb cf b1 b2 b1 b2 (List.replicate i (-1)++List.replicate (nv u - i) 0) (List.replicate (nv u) 0)∧Zag m mF [cf]∧
  E=[(0,.pointer (some ⟨cb,0,none⟩)),(36,.int .i64 (nv u)),(37,.int .i64 (i:Int))]) _ ⟨_,⟨0,rfl,by omega,by simpa using C0,K0,rfl⟩,⟨by rfl,by rfl,by rfl,trivial⟩⟩ ?_
 rintro d E mF ih ⟨i,hd,hi,hF,kF,rfl⟩
 have im:(i:Int)≤9223372036854775807:=by omega
 have l5:=hF.c.load1 (off:=5) rfl
 by_cases hlt:i < nv u
 ·have i1:(i:Int) < nv u:=by omega
  have wi:IntKind.i64.wrap ((i:Int)+1)=((i+1:Nat):Int):=by rw [Zaf (by omega) (by omega)];omega
  obtain⟨mG,eG,hG,kG⟩:=hF.set1 (i:=i) (by simp;omega) (-1)
  rw [Zu7 _ _ _ _ hlt] at hG
  simp [-Int.natCast_add,Za Zic,Zaa Zb3,Zab u36 sz3,Zad sz3,i1,im,hlt,l5,eG,wi]
  exact ih _ _ _ _ ⟨i+1,rfl,by omega,hG,Zbf kF kG (by simp;omega),rfl⟩ (by omega) ⟨by rfl,by rfl,by rfl,trivial⟩
 clear ih
 have i1:¬ (i:Int) < nv u:=by omega
 have ei:i=nv u:=by omega
 rw [ei,Nat.sub_self,List.replicate_zero,List.append_nil] at hF
 have l3:=hF.c.load1 (off:=3) rfl
 have hs0:Zdt u=(Zdv u 0 u.2.2.2.1 (List.replicate (nv u) (-1),List.replicate (nv u) 0,true,0)).filter fun s=>s.2.2.2=nv u:=rfl
 have hlen0:(List.replicate (nv u) (-1:Int)).length=nv u:=by simp
 have hlen1:(List.replicate (nv u) (0:Int)).length=nv u:=by simp
 simp [-Int.natCast_add,-List.map_replicate,Za Zbt,Za Zbl,Zaa Zgb,Zac u31,i1,l3]
 generalize List.replicate (nv u) (-1:Int)=bl0 at *
 generalize List.replicate (nv u) (0:Int)=pl0 at *
 obtain⟨LL,hLL⟩:∃ LL:Nat,LL=20000000000000:=⟨_,rfl⟩
 generalize hB0:Zdv u 0 u.2.2.2.1 (bl0,pl0,true,0)=R0 at *
 refine Zaq 62 [62,84,114] (fun d E mG=>∃ (b:Nat) (bl pl:List Int) (fst:Bool) (met:Nat),nb u - b=d∧b≤nb u∧Zon mG u vo bo so r3 cb cf b1 b2 b1 b2 bl pl∧bl.length=nv u∧pl.length=nv u∧Zag m mG [cf]∧met≤b * LL∧Zdv u b (u.2.2.2.1.drop b) (bl,pl,fst,met)=R0∧
  E=[(0,.pointer (some ⟨cb,0,none⟩)),(4,.int .i64 (met:Int)),(51,.slice bo (nb u) (nb u)),(52,.int .i64 (nb u)),(53,.int .i64 (b:Int))]) _ ⟨_,⟨0,bl0,pl0,true,0,rfl,by omega,hF,hlen0,hlen1,kF,by omega,by rw [List.drop_zero];exact hB0,rfl⟩,⟨by rfl,by rfl,by rfl,by rfl,by rfl,trivial⟩⟩ ?_
 clear hF l3 kF hlen0 hlen1 l5
 rintro d E mG ih ⟨b,bl,pl,fst,met,hd,hb,hG,hbll,hpll,kG,hmet,hR,rfl⟩
 have bm:(b:Int)≤9223372036854775807:=by omega
 by_cases hlt:b < nb u
 ·have b1':(b:Int) < nb u:=by omega
  have wb:IntKind.i64.wrap ((b:Int)+1)=((b+1:Nat):Int):=by rw [Zaf (by omega) (by omega)];omega
  have hUG:=hU.keep kG (by simpa using hq)
  obtain⟨bb,vo',no',po',hbo,ldb,hvo',hno',hpo'⟩:=Zh0 hUG hlt
  have hbx:=hbl _ (List.getElem_mem hlt)
  rw [List.drop_eq_getElem_cons hlt,Zdv] at hR
  generalize u.2.2.2.1[b]=X at *
  obtain⟨l,hl⟩:∃ l:List Int,X.1=l:=⟨_,rfl⟩
  rw [hl] at hR hbx hvo'
  unfold Z1n at ldb
  rw [hl] at ldb
  rw [hbo] at ih ⊢
  obtain⟨oZ,kZ,nZ⟩:=Zay (m:=mG) (cs:=[.slice none 0 0,.int .i64 0,.int .i64 0,.slice none 0 0,.slice none 0 0,.int .i64 0]) (e:=40) rfl
  obtain⟨bx,hbx'⟩:∃ bx,mG.next=bx:=⟨_,rfl⟩
  obtain⟨m3,e3,oX,kX⟩:=Zap (r:=_) rfl oZ (off:=0) (vs:=[.slice vo' l.length l.length,.int .i64 X.2.1,.int .i64 X.2.2.1,.slice no' X.2.2.2.1.length X.2.2.2.1.length,.slice po' X.2.2.2.2.1.length X.2.2.2.2.1.length,.int .i64 X.2.2.2.2.2.1]) (by simp) (by simp [Zau,Zai])
  simp [Zb5] at oX
  have k3:=kZ.fresh kX (by simp)
  rw [hbx'] at oX nZ e3
  have x0:=oX.load1 (off:=0) rfl
  simp [-Int.natCast_add,Zaa Zb3,Zac u36,Zab u31 Zje,Zao Z48,Zas Z4m,Zad Zje,Za Zh8,b1',bm,hlt,ldb,hbx',e3,x0]
  have hGX:=hG.keep0 k3
  have K3:Zag m m3 [cf]:=kG.trans k3.nil
  have eR0:R0=none→Zdt u=none:=fun h=>by rw [hs0,h];rfl
  refine Zaq 62 [62,84,114] (fun d2 E mH=>∃ (k:Nat) (bl pl:List Int) (fst:Bool) (met:Nat),l.length - k=d2∧k≤l.length∧Zon mH u vo (some ⟨bb,0,none⟩) so r3 cb cf b1 b2 b1 b2 bl pl∧bl.length=nv u∧pl.length=nv u∧Zag m mH [cf]∧Zag m3 mH [cf,b1,b2]∧met≤b * LL+k∧(Zep u b k (l.drop k) (bl,pl,fst,met)).bind (Zdv u (b+1) (u.2.2.2.1.drop (b+1)))=R0∧
   E=[(0,.pointer (some ⟨cb,0,none⟩)),(4,.int .i64 (met:Int)),(5,.int .i64 (b:Int)),(7,.bool fst),(51,.slice (some ⟨bb,0,none⟩) (nb u) (nb u)),(52,.int .i64 (nb u)),(53,.int .i64 (b:Int)),(59,.slice vo' l.length l.length),(60,.int .i64 l.length),(61,.int .i64 (k:Int))]) _ ⟨_,⟨0,bl,pl,true,met,rfl,by omega,by rw [← hbo];exact hGX,hbll,hpll,K3,.refl _ _,by omega,by rw [List.drop_zero];exact hR,rfl⟩,⟨by rfl,by rfl,by rfl,by rfl,by rfl,by rfl,by rfl,by rfl,by rfl,by rfl,trivial⟩⟩ ?_
  clear hR hG hGX hbll hpll hmet bl pl fst met
  rintro d2 E mH ih2 ⟨k,bl,pl,fst,met,hd2,hk,hH,hbll,hpll,kH,k3H,hmet,hR,rfl⟩
  have km:(k:Int)≤9223372036854775807:=by omega
  by_cases hkt:k < l.length
  ·have k1:(k:Int) < l.length:=by omega
   have wk:IntKind.i64.wrap ((k:Int)+1)=((k+1:Nat):Int):=by rw [Zaf (by omega) (by omega)];omega
   have wm:IntKind.i64.wrap ((met:Int)+1)=((met+1:Nat):Int):=by
    have:b * LL≤1000 * LL:=Nat.mul_le_mul_right _ (by omega)
    rw [Zaf (by omega) (by omega)];omega
   obtain⟨vb,hvb,lk0⟩:=((hvo'.keep k3 (by simp)).keep k3H (by simp;exact⟨hq,fun h=>by have:=hQ _ h;omega,fun h=>by have:=hQ _ h;omega⟩)).get hkt
   rw [hvb] at ih2 ⊢
   obtain⟨v,hv⟩:∃ v,l.getD k 0=v:=⟨_,rfl⟩
   rw [hv] at lk0
   have hdrop:l.drop k=v::l.drop (k+1):=by
    rw [List.drop_eq_getElem_cons hkt,← hv,List.getD_eq_getElem?_getD,List.getElem?_eq_getElem hkt];rfl
   rw [hdrop,Zep] at hR
   have br:=fun k n=>Zg6 (m:=mH) hB k n
   have hc2:=hH.c.load1 (off:=2) rfl
   have hc5:=hH.c.load1 (off:=5) rfl
   have hc6:=hH.c.load1 (off:=6) rfl
   by_cases hbv:Zcf v (nv u)=true
   case neg =>
    have hbv':Zcf v (nv u)=false:=by simpa using hbv
    have hno:Zdt u=none:=eR0 (by rw [← hR];simp [Zg9,hbv'])
    simp [-Int.natCast_add,Za Zbt,Za Za3,Zaa Zd5,Zac u30,Za Zic,Zaa Zb3,Zab u36 sz3,Zaa ld3,k1,km,hkt,lk0,hc2,br,hbv']
    exact⟨Zjt hno,kH⟩
   have hbv2:=hbv
   unfold Zcf at hbv2
   simp only [Bool.and_eq_true,decide_eq_true_eq] at hbv2
   obtain⟨n,rfl⟩:∃ n:Nat,v=(n:Int):=⟨v.toNat,by omega⟩
   have hn:n < nv u:=by omega
   have hn1:(n:Int) < nv u:=by omega
   have hn2:(n:Int)≤9223372036854775807:=by omega
   have lb1:=hH.o1.load1 (off:=n) (Zc1 (by omega))
   obtain⟨w,hw⟩:∃ w,bl.getD n 0=w:=⟨_,rfl⟩
   rw [hw] at lb1
   by_cases hw0:0≤w
   ·have hno:Zdt u=none:=eR0 (by rw [← hR];simp [Zg9,hbv,hw,hw0,-List.getD_eq_getElem?_getD])
    simp [-Int.natCast_add,-List.getD_eq_getElem?_getD,Za Zbt,Za Za3,Zaa Zd5,Zac u30,Za Zic,Zaa Zb3,Zab u36 sz3,Zaa ld3,k1,km,hkt,lk0,hc2,hc5,br,hbv,hn2,hn,lb1,hw0]
    exact⟨Zjt hno,kH⟩
   have hno1:Za9 (Zbd u (n:Int)).1 && !fst=true∨(decide ((Zbd u (n:Int)).1=1) != decide (b=0)) && Za9 (Zbd u (n:Int)).1=true→Zdt u=none:=fun h=>eR0 (by
    rw [← hR,Zg9,if_neg (by simp [hbv,hw,hw0,-List.getD_eq_getElem?_getD]),if_pos (by simpa using h)];rfl)
   have hgo:¬ (Za9 (Zbd u (n:Int)).1 && !fst=true∨(decide ((Zbd u (n:Int)).1=1) != decide (b=0)) && Za9 (Zbd u (n:Int)).1=true)→(Zep u b (k+1) (l.drop (k+1)) (bl.set n b,pl.set n k,Za9 (Zbd u (n:Int)).1,met+1)).bind (Zdv u (b+1) (u.2.2.2.1.drop (b+1)))=R0:=fun h=>by
    rw [← hR,Zg9,if_neg (by simp [hbv,hw,hw0,-List.getD_eq_getElem?_getD]),if_neg (by simpa using h)];rfl
   obtain⟨xb,ao',fa,hxv,ldx,_,_⟩:=Zie (hU.keep kH (by simpa using hq)) hn
   have lop:=Zcd (k:=0) ldx rfl
   rw [Nat.add_zero] at lop
   rw [Zgs hn] at hno1 hgo
   obtain⟨o,ho⟩:∃ o:Int,(u.2.2.1[n]).1=o:=⟨_,rfl⟩
   rw [ho] at lop
   rw [show (u.2.2.1[n]).1=o from ho] at hno1 hgo
   obtain⟨mI,eI,hI,kI⟩:=hH.set1 (i:=n) (by omega) b
   obtain⟨mJ,eJ,hJ,kJ⟩:=hI.set2 (i:=n) (by omega) k
   have ic5:=hI.c.load1 (off:=5) rfl
   have ic6:=hI.c.load1 (off:=6) rfl
   have ic2:=hI.c.load1 (off:=2) rfl
   rw [hxv] at hc2 ic2
   clear hv hdrop hbx' nZ
   have hgoal:∀ (hd:Bool),Za9 o=hd→(¬ (Za9 o && !fst=true∨(decide (o=1) != decide (b=0)) && Za9 o=true))→∃ (k':Nat) (bl pl:List Int) (fst:Bool) (met':Nat),l.length - k'=l.length - (k+1)∧k'≤l.length∧Zon mJ u vo (some ⟨bb,0,none⟩) so r3 cb cf b1 b2 b1 b2 bl pl∧bl.length=nv u∧pl.length=nv u∧Zag m mJ [cf]∧Zag m3 mJ [cf,b1,b2]∧met'≤b * LL+k'∧(Zep u b k' (l.drop k') (bl,pl,fst,met')).bind (Zdv u (b+1) (u.2.2.2.1.drop (b+1)))=R0∧
     [(0,Value.pointer (some ⟨cb,0,none⟩)),(4,.int .i64 ((met+1:Nat):Int)),(5,.int .i64 (b:Int)),(7,.bool hd),(51,.slice (some ⟨bb,0,none⟩) (nb u) (nb u)),(52,.int .i64 (nb u)),(53,.int .i64 (b:Int)),(59,.slice (some ⟨vb,0,none⟩) l.length l.length),(60,.int .i64 l.length),(61,.int .i64 ((k+1:Nat):Int))]=[(0,Value.pointer (some ⟨cb,0,none⟩)),(4,.int .i64 (met':Int)),(5,.int .i64 (b:Int)),(7,.bool fst),(51,.slice (some ⟨bb,0,none⟩) (nb u) (nb u)),(52,.int .i64 (nb u)),(53,.int .i64 (b:Int)),(59,.slice (some ⟨vb,0,none⟩) l.length l.length),(60,.int .i64 l.length),(61,.int .i64 (k':Int))]:=by
    intro hd e hn
    exact⟨k+1,_,_,hd,met+1,rfl,by omega,hJ,by simpa using hbll,by simpa using hpll,Zbf (Zbf kH kI (by simp;omega)) kJ (by simp;omega),(k3H.trans (kI.mono (by simp))).trans (kJ.mono (by simp)),by omega,by rw [← e];exact hgo hn,rfl⟩
   by_cases c21:o=21
   case' pos=>have c1:¬ o=1:=by omega
   case' neg=>by_cases c1:o=1
   all_goals
    by_cases c0:b=0
    case' pos=>have c0':b=0↔True:=⟨fun _=>trivial,fun _=>c0⟩
    case' neg=>have c0':=c0
    all_goals
     cases fst
     all_goals
      simp [-Int.natCast_add,-List.getD_eq_getElem?_getD,Za Zbt,Za Za3,Zaa Zd5,Zac u30,Za Zic,Za Znr,Zaa Zb3,Zab u36 sz3,Zad sz3,Zaa ld3,Zab u30 Ze8,Za Zbv,Z10 u4 .neq (Or.inr rfl),k1,km,hkt,lk0,hc2,hc5,hc6,br,hbv,hn2,hn,lb1,hw0,lop,c21,c1,c0',eI,eJ,wm,wk]
      first
       | exact⟨Zjt (hno1 (by simp [Za9,c21,c1,c0])),kH⟩
       | exact ih2 _ _ _ _ (hgoal true (by simp [Za9,c21,c1]) (by simp [Za9,c21,c1,c0])) (by omega) ⟨by rfl,by rfl,by rfl,by rfl,by rfl,by rfl,by rfl,by rfl,by rfl,by rfl,trivial⟩
       | exact ih2 _ _ _ _ (hgoal false (by simp [Za9,c21,c1]) (by simp [Za9,c21,c1,c0])) (by omega) ⟨by rfl,by rfl,by rfl,by rfl,by rfl,by rfl,by rfl,by rfl,by rfl,by rfl,trivial⟩
  ·clear ih2
   have k1:¬ (k:Int) < l.length:=by omega
   have ek:k=l.length:=by omega
   rw [List.drop_of_length_le (by omega),Zep,Option.bind_some] at hR
   simp [-Int.natCast_add,-List.getD_eq_getElem?_getD,k1,wb]
   have hmm:met≤(b+1) * LL:=by rw [Nat.add_mul];omega
   exact ih _ _ _ _ ⟨b+1,bl,pl,fst,met,rfl,by omega,hH,hbll,hpll,kH,hmm,hR,rfl⟩ (by omega) ⟨by rfl,by rfl,by rfl,by rfl,by rfl,trivial⟩
 clear ih
 have b1':¬ (b:Int) < nb u:=by omega
 have hc2:=hG.c.load1 (off:=2) rfl
 rw [List.drop_of_length_le (Nat.not_lt.1 hlt),Zdv] at hR
 rw [← hR] at hs0
 simp [-Int.natCast_add,-List.getD_eq_getElem?_getD,Za Zbt,Za Za3,Zaa Zd5,Zac u30,b1',hc2]
 refine⟨?_,kG⟩
 by_cases hme:met=nv u
 ·have:Zdt u=some (bl,pl,fst,met):=by rw [hs0];simp [Option.filter,hme]
  refine⟨by rw [this];simp [hme],fun s hs=>?_⟩
  rw [this,Option.some.injEq] at hs
  subst hs
  exact⟨b1,b2,b1,b2,hG,hm1,hm2⟩
 ·have:Zdt u=none:=by rw [hs0];simp [Option.filter,hme]
  have hne:¬ (met:Int)=nv u:=by omega
  simp only [hne,decide_false]
  exact Zjt this
end Go.Proofs.YtlogdohlcdhepaaDoor.base
end
section
set_option maxRecDepth 100000
namespace Go.Proofs.YtlogdohlcdhepaaDoor.base
open Go.Sh gen
variable {S:Zc}{m:Mem}
def lvs (op:Int):Bool:=decide (op=22) || decide (op=23)
theorem Zqd (hS:S 67=[])(op:Int):Zal Tryd.prog TT S 67 [.int .i64 op] m=some (.bool (lvs op),m):=by
 refine Zb9 3 [] k67 hS rfl ?_
 unfold lvs
 by_cases h:op=22
 ·simp [h]
 ·simp [h]
def Zl9 (n:Int)(x:Zbu.D):Bool:=decide (x.1=1) && decide ((show Int from x.2.2.2.1)=n)
theorem Z3n (hS:S 69=[]){x y:Zbu.D}{ao ay:Option Addr}{vb vf:Nat}(hv:Own m vb (Zmk y ay) 38 vf) :
  ∃ v m1,Zal Tryd.prog TT S 69 [.agg (Zmk x ao).toArray,.pointer (some ⟨vb,0,none⟩)] m=some (v,m1)∧v=.bool (Zl9 (show Int from y.2.2.2.1) x)∧Zag m m1 []:=by
 unfold Zl9
 obtain⟨o,ho⟩:∃ o:Int,x.1=o:=⟨_,rfl⟩
 obtain⟨n,hn⟩:∃ n:Int,x.2.2.2.1=n:=⟨_,rfl⟩
 obtain⟨n',hn'⟩:∃ n:Int,y.2.2.2.1=n:=⟨_,rfl⟩
 rw [show (show Int from x.2.2.2.1)=n from hn,show (show Int from y.2.2.2.1)=n' from hn']
 unfold Zmk
 rw [ho,hn]
 obtain⟨oZ,kZ,nZ⟩:=Zay (m:=m) (cs:=[.int .i64 o,.int .i64 x.2.1,.int .i64 x.2.2.1,.int .i64 n,.slice ao x.2.2.2.2.1.length x.2.2.2.2.1.length,.int .i64 x.2.2.2.2.2.1]) (e:=38) rfl
 obtain⟨bx,hbx⟩:∃ bx,m.next=bx:=⟨_,rfl⟩
 rw [hbx] at oZ nZ
 have l0:=oZ.load1 (off:=0) rfl
 have l3:=oZ.load1 (off:=3) rfl
 have f3:=(hv.keep kZ (by simp)).load1 (off:=3) rfl
 rw [show y.2.2.2.1=n' from hn'] at f3
 refine Zfz 4 [] k69 hS rfl ?_
 by_cases h1:o=1
 ·subst h1
  simp [Zdh b38,Za Zbv,Zaa ld3,Za Zl3,Zaa ld2,hbx,l0,l3,f3]
  exact kZ
 ·simp [Zdh b38,Za Zbv,Zaa ld3,Za Zl3,Zaa ld2,hbx,l0,h1]
  exact kZ
set_option maxHeartbeats 4000000 in
theorem Z2d (hS:S 81=[])(h1:S 69=[]){Q:Nat→Prop}{u:UnT.D}{vo bo so:Option Addr}(hU:UAt Q m u vo bo so)(hnu:nv u≤1000000){y:Zbu.D}{ay:Option Addr}{vb vf:Nat}(hv:Own m vb (Zmk y ay) 38 vf){k c:Nat}(hk:k≤nv u) :
  ∃ v m1,Zal Tryd.prog TT S 81 [.slice vo k c,.func (.func 69) #[] #[.pointer (some ⟨vb,0,none⟩)]] m=some (v,m1)∧(∃ r:Int,v=.int .i64 r∧decide (0≤r)=((show List Zbu.D from u.2.2.1).take k).any (Zl9 (show Int from y.2.2.2.1)))∧Zag m m1 []:=by
 refine Zfz 9 [9,16] k81 hS rfl ?_
 obtain⟨P,hP⟩:∃ P,Zl9 (show Int from y.2.2.2.1)=P:=⟨_,rfl⟩
 rw [hP]
 have hkm:k≤1000000:=by omega
 simp [-Int.natCast_add,-List.any_eq_true,Zac u30]
 obtain⟨L,hL⟩:∃ L:List Zbu.D,L=u.2.2.1.take k:=⟨_,rfl⟩
 have hLl:L.length=k:=by rw [hL,List.length_take];exact Nat.min_eq_left hk
 rw [show (List.take k u.2.2.1:List Zbu.D)=L from hL.symm]
 obtain⟨A,hA⟩:∃ A,L.any P=A:=⟨_,rfl⟩
 rw [hA]
 refine Zaq 9 [9,16] (fun d E mF=>∃ (i:Nat),k - i=d∧i≤k∧Zag m mF []∧(L.drop i).any P=A∧
  E=[(0,.slice vo k c),(1,.func (.func 69) #[] #[.pointer (some ⟨vb,0,none⟩)]),(7,.int .i64 (k:Int)),(8,.int .i64 (i:Int))]) _ ⟨_,⟨0,rfl,by omega,.refl _ _,by rw [List.drop_zero];exact hA,rfl⟩,⟨by rfl,by rfl,by rfl,by rfl,trivial⟩⟩ ?_
 rintro d E mF ih ⟨i,hd,hi,kF,ha,rfl⟩
 have im:(i:Int)≤9223372036854775807:=by omega
 by_cases hlt:i < k
 ·have i1:(i:Int) < k:=by omega
  have wi:IntKind.i64.wrap ((i:Int)+1)=((i+1:Nat):Int):=by rw [Zaf (by omega) (by omega)];omega
  have hiu:i < u.2.2.1.length:=Nat.lt_of_lt_of_le hlt hk
  obtain⟨xb,ao,fa,hxv,ldx,_,_⟩:=Zie (hU.keep kF (by simp)) hiu
  have hLi:L.drop i=u.2.2.1[i]::L.drop (i+1):=by
   rw [List.drop_eq_getElem_cons (by omega)]
   congr 1
   simp only [hL,List.getElem_take]
  rw [hLi,List.any_cons] at ha
  rw [hxv] at ih ⊢
  obtain⟨_,mG,cG,rfl,kG⟩:=Z3n (x:=u.2.2.1[i]) (ao:=ao) h1 (hv.keep kF (by simp))
  rw [hP] at cG
  generalize u.2.2.1[i]=X at *
  cases hp:P X
  ·rw [hp] at cG ha
   simp [-Int.natCast_add,-List.any_eq_true,Zab u30 Ze8,Zao Zme,i1,im,hlt,ldx,cG,wi]
   exact ih _ _ _ _ ⟨i+1,rfl,by omega,kF.trans kG,by rw [← ha];rfl,rfl⟩ (by omega) ⟨by rfl,by rfl,by rfl,by rfl,trivial⟩
  ·rw [hp,Bool.true_or] at ha
   rw [hp] at cG
   simp [-Int.natCast_add,-List.any_eq_true,Zab u30 Ze8,Zao Zme,i1,im,hlt,ldx,cG]
   exact⟨ha.symm,kF.trans kG⟩
 clear ih
 have i1:¬ (i:Int) < k:=by omega
 rw [List.drop_of_length_le (by omega),List.any_nil] at ha
 simp [-Int.natCast_add,-List.any_eq_true,i1]
 exact⟨ha.symm,kF⟩
theorem Zzq (hS:S 68=[])(hI:S 81=[])(h1:S 69=[]){Q:Nat→Prop}{u:UnT.D}{vo bo so:Option Addr}(hU:UAt Q m u vo bo so)(hnu:nv u≤1000000){y:Zbu.D}{ay:Option Addr}{vb vf:Nat}(hv:Own m vb (Zmk y ay) 38 vf){k c:Nat}(hk:k≤nv u) :
  ∃ v m1,Zal Tryd.prog TT S 68 [.slice vo k c,.func (.func 69) #[] #[.pointer (some ⟨vb,0,none⟩)]] m=some (v,m1)∧v=.bool (((show List Zbu.D from u.2.2.1).take k).any (Zl9 (show Int from y.2.2.2.1)))∧Zag m m1 []:=by
 obtain⟨_,m1,e1,⟨r,rfl,hr⟩,k1⟩:=Z2d (c:=c) hI h1 hU hnu hv hk
 refine Zfz 5 [] k68 hS rfl ?_
 rw [← hr]
 simp [-Int.natCast_add,-List.any_eq_true,e1]
 exact k1
end Go.Proofs.YtlogdohlcdhepaaDoor.base
end
section
set_option maxRecDepth 100000
namespace Go.Proofs.YtlogdohlcdhepaaDoor.base
open Go.Sh gen
variable {S:Zc}{m:Mem}
def Zv5 (op:Int):Bool:=decide (1≤op) && decide (op≤23)
def Ycc (S:Zc):Prop:=∀ (m:Mem) (op:Int),∃ s:List UInt8,Zal Tryd.prog TT S 66 [.int .i64 op] m=some (.string ⟨s.toArray⟩,m)∧(s=[]↔Zv5 op=false)
def Zsm (u:UnT.D)(b:Int):Nat:=List.length (Zbx u b.toNat).2.2.2.2.1
def Zx3 (u:UnT.D)(bl:List Int)(i:Nat):Bool:=
  Zv5 (Zbd u i).1 && Zcm u (Ze9 (Zbd u i)) && (!lvs (Zbd u i).1 || Zcf (show Int from (Zbd u i).2.2.2.2.2.1) (ns u)) &&
  (if (Zbd u i).1=20 then decide (List.length (Zbd u i).2.2.2.2.1=1) else
   if (Zbd u i).1=21 then decide (List.length (Zbd u i).2.2.2.2.1=Zsm u (bl.getD i 0)) else
   if (Zbd u i).1=1 then decide (0≤(show Int from (Zbd u i).2.2.2.1)) && decide ((show Int from (Zbd u i).2.2.2.1) < 40) && !((show List Zbu.D from u.2.2.1).take i).any (Zl9 (show Int from (Zbd u i).2.2.2.1)) else true)
theorem Znu (op a b:Int)(l:List Int):(Zg op a b l).length≤l.length+2:=by
 rw [Zke,List.length_append]
 have h1:([a,b].take (Zcc op)).length≤2:=by simp;omega
 have h2:(if op=20 then l.take 1 else if op=21 then l else []).length≤l.length:=by
  split
  ·simp;omega
  ·split <;> simp
 omega
structure Nc (S:Zc):Prop where
 name:Ycc S
 uses:S 58=[]
 parts:S 76=[]
 there:S 64=[]
 below:S 65=[]
 leaves:S 67=[]
 cont:S 68=[]
 idx:S 81=[]
 val1:S 69=[]
 val:S 49=[]
set_option maxHeartbeats 8000000 in
theorem Z6j (hN:Nc S){Q:Nat→Prop}{u:UnT.D}{vo bo so:Option Addr}(hU:UAt Q m u vo bo so)(hnu:nv u≤1000000)(hnb:nb u≤1000)(hns:ns u≤1000000){r3:Value}{cb cf b1 b2 f1 f2:Nat}{bl pl:List Int}(hC:Zon m u vo bo so r3 cb cf b1 b2 f1 f2 bl pl)
  (hbl:bl.length=nv u) (hbb:∀ i < nv u,0≤bl.getD i 0∧bl.getD i 0 < nb u) {i:Nat} (hi:i < nv u) (hal:(Zbd u i).2.2.2.2.1.length * 8≤140737488351232) :
  ∃ v m1,Zal Tryd.prog TT S 49 [.pointer (some ⟨cb,0,none⟩),.int .i64 (i:Int)] m=some (v,m1)∧v=.bool (Zx3 u bl i)∧Zag m m1 []:=by
 obtain⟨xb,ao,fa,hvo,ldx,hra,hqa⟩:=Zie hU hi
 have hb1:=hbb i hi
 have hvi:=Zgs hi
 unfold Zx3
 rw [hvi] at hal ⊢
 rw [← hvi] at ldx hra hqa hal ⊢
 obtain⟨X,hX⟩:∃ X,Zbd u (i:Int)=X:=⟨_,rfl⟩
 rw [hX] at ldx hra hqa hal ⊢
 obtain⟨o,ho⟩:∃ o:Int,X.1=o:=⟨_,rfl⟩
 obtain⟨a,ha⟩:∃ o:Int,X.2.1=o:=⟨_,rfl⟩
 obtain⟨b,hb⟩:∃ o:Int,X.2.2.1=o:=⟨_,rfl⟩
 obtain⟨n,hn⟩:∃ o:Int,X.2.2.2.1=o:=⟨_,rfl⟩
 obtain⟨l,hl⟩:∃ o:List Int,X.2.2.2.2.1=o:=⟨_,rfl⟩
 obtain⟨st,hst⟩:∃ o:Int,X.2.2.2.2.2.1=o:=⟨_,rfl⟩
 have hus:Ze9 X=Zg o a b l:=by unfold Ze9;rw [ho,ha,hb,hl]
 rw [hus,show (show Int from X.2.2.2.2.2.1)=st from hst,show (show Int from X.2.2.2.1)=n from hn,ho,show List.length X.2.2.2.2.1=l.length by rw [hl]]
 unfold Zmk at ldx
 rw [ho,ha,hb,hn,hst,hl] at ldx
 rw [hl] at hra hqa hal
 have c2:=hC.c.load1 (off:=2) rfl
 rw [hvo] at c2
 have i1:(i:Int) < nv u:=by omega
 have i2:(i:Int)≤9223372036854775807:=by omega
 obtain⟨oZ,kZ,nZ⟩:=Zay (m:=m) (cs:=[.int .i64 0,.int .i64 0,.int .i64 0,.int .i64 0,.slice none 0 0,.int .i64 0]) (e:=38) rfl
 obtain⟨bx,hbx⟩:∃ bx,m.next=bx:=⟨_,rfl⟩
 obtain⟨m3,e3,oX,kX⟩:=Zap (r:=_) rfl oZ (off:=0) (vs:=[.int .i64 o,.int .i64 a,.int .i64 b,.int .i64 n,.slice ao l.length l.length,.int .i64 st]) (by simp) (by simp [Zau,Zai])
 simp [Zb5] at oX
 have k3:=kZ.fresh kX (by simp)
 rw [hbx] at oX nZ e3
 have lx:=oX.load (off:=0) 6 (by simp)
 simp [Za1] at lx
 have x0:=oX.load1 (off:=0) rfl
 have x3:=oX.load1 (off:=3) rfl
 have x4:=oX.load1 (off:=4) rfl
 have x5:=oX.load1 (off:=5) rfl
 obtain⟨s,nm,hs⟩:=hN.name m3 o
 have hC3:=hC.keep0 k3
 have hU3:=hU.keep k3 (by simp)
 obtain⟨v4,m4,c4,⟨uo,uf,rfl,hru⟩,k4⟩:=Zpo (m:=m3) hN.uses hN.parts (op:=o) (a:=a) (b:=b) (n:=n) (st:=st) hal (hra.keep k3 (by simp))
 have hC4:=hC3.keep0 k4
 have hU4:=hU3.keep k4 (by simp)
 have hul:=Znu o a b l
 obtain⟨L,hL⟩:∃ L,Zg o a b l=L:=⟨_,rfl⟩
 rw [hL] at hul
 have hLl:L.length≤20000000000000:=by omega
 rw [hL] at c4 hru ⊢
 have t4:=Zki (m:=m4) (Q2:=fun _=>True) hN.there hN.below hU4 hnu (hC4.c.load1 (off:=2) rfl) hLl ⟨uf,hru,fun _=>trivial⟩
 have br:=fun k n=>Zg6 (m:=m4) hN.below k n
 have lv3:=Zqd (m:=m3) hN.leaves o
 have lv4:=Zqd (m:=m4) hN.leaves o
 have oX4:=oX.keep k4 (by simp)
 have y0:=oX4.load1 (off:=0) rfl
 have y3:=oX4.load1 (off:=3) rfl
 have y4:=oX4.load1 (off:=4) rfl
 have y5:=oX4.load1 (off:=5) rfl
 have ly:=oX4.load (off:=0) 6 (by simp)
 simp [Za1] at ly
 have c4':=hC4.c.load1 (off:=4) rfl
 have c43:=hC3.c.load1 (off:=4) rfl
 refine Zfz 44 [44,50,72] k49 hN.val rfl ?_
 by_cases hop:Zv5 o=true
 case neg =>
  have hop':Zv5 o=false:=by simpa using hop
  have s0:=hs.2 hop'
  subst s0
  rw [hop']
  simp [-Int.natCast_add,Za Zbt,Za Za3,Zaa Zd5,Zab u30 Ze8,Zao Zme,Zas Zqu,Zad Ze8,Za Zbv,Zaa ld3,Za Zkq,Za Zdb,Zaa Zmv,Zac u32,c2,i2,hi,ldx,hbx,e3,x0,nm]
  exact k3
 have s0:s.isEmpty=false:=by
  cases hse:s.isEmpty
  ·rfl
  ·rw [hs.1 (List.isEmpty_iff.1 hse)] at hop;cases hop
 rw [hop,Bool.true_and]
 obtain⟨T,hT⟩:∃ T,Zcm u L=T:=⟨_,rfl⟩
 rw [hT] at t4 ⊢
 cases T
 ·simp [-Int.natCast_add,Za Zbt,Za Za3,Zaa Zd5,Zab u30 Ze8,Zao Zme,Zas Zqu,Zad Ze8,Za Zbv,Zaa ld3,Za Zkq,Za Zdb,Zaa Zmv,Zac u32,c2,i2,hi,ldx,hbx,e3,x0,nm,s0,lx,c4,t4]
  exact k3.trans k4
 obtain⟨B,hB⟩:∃ B,Zcf st (ns u)=B:=⟨_,rfl⟩
 obtain⟨V,hV⟩:∃ V,lvs o=V:=⟨_,rfl⟩
 rw [hB,hV]
 rw [hV] at lv3 lv4
 have br4:=br st (ns u)
 rw [hB] at br4
 by_cases hVB:V=true∧B=false
 case pos =>
  obtain⟨rfl,rfl⟩:=hVB
  simp [-Int.natCast_add,Za Zbt,Za Za3,Zaa Zd5,Zab u30 Ze8,Zao Zme,Zas Zqu,Zad Ze8,Za Zbv,Zaa ld3,Za Zkq,Za Zdb,Zaa Zmv,Zac u32,c2,i2,hi,ldx,hbx,e3,x0,nm,s0,lx,y0,y5,c4,t4,lv4,c4',br4]
  exact k3.trans k4
 have hVB':(!V || B)=true:=by cases V <;> cases B <;> simp_all
 rw [hVB',Bool.true_and,Bool.true_and]
 obtain⟨bi,hbi⟩:∃ bi:Nat,bl.getD i 0=(bi:Int):=⟨(bl.getD i 0).toNat,by omega⟩
 have hbin:bi < nb u:=by omega
 have lb1:=hC4.o1.load1 (off:=i) (Zc1 (by omega))
 rw [hbi] at lb1 ⊢
 obtain⟨bb,vo',no',po',hbo,ldb,_,_,_⟩:=Zh0 hU4 hbin
 have ldp:=Zcd (k:=4) ldb rfl
 have hpN:Zsm u (bi:Int)=(u.2.2.2.1[bi]).2.2.2.2.1.length:=by unfold Zsm;rw [Int.toNat_natCast,Zcz hbin]
 rw [hpN]
 obtain⟨pn,hpn⟩:∃ pn:Nat,(u.2.2.2.1[bi]).2.2.2.2.1.length=pn:=⟨_,rfl⟩
 rw [hpn] at ldp ⊢
 have c3':=hC4.c.load1 (off:=3) rfl
 rw [hbo] at c3'
 have c5':=hC4.c.load1 (off:=5) rfl
 have c2':=hC4.c.load1 (off:=2) rfl
 rw [hvo] at c2'
 have bi1:(bi:Int) < nb u:=by omega
 have bi2:(bi:Int)≤9223372036854775807:=by omega
 obtain⟨xf,hvX⟩:∃ xf,Own m4 bx (Zmk X ao) 38 xf:=⟨_,by unfold Zmk;rw [ho,ha,hb,hn,hl,hst];exact oX4⟩
 obtain⟨W,hW⟩:∃ W,((show List Zbu.D from u.2.2.1).take i).any (Zl9 n)=W:=⟨_,rfl⟩
 rw [hW]
 have ct:=fun c=>Zzq (c:=c) hN.cont hN.idx hN.val1 hU4 hnu hvX (Nat.le_of_lt hi)
 rw [show (show Int from X.2.2.2.1)=n from hn,hW,hvo] at ct
 have iv:i≤nv u:=by omega
 obtain⟨_,m5,c5v,rfl,k5⟩:=ct i
 have q20:decide (l.length=1)=decide ((l.length:Int)=1):=decide_eq_decide.2 (by omega)
 have q21:decide (l.length=pn)=decide ((l.length:Int)=pn):=decide_eq_decide.2 (by omega)
 rw [q20,q21]
 generalize hR:(if o=20 then decide ((l.length:Int)=1) else if o=21 then decide ((l.length:Int)=pn) else if o=1 then decide (0≤n) && decide (n < 40) && !W else true)=R
 cases V
 case' true=>have hBt:B=true:=by simpa using hVB'
 case' true=>subst hBt
 all_goals
  simp [-Int.natCast_add,-w49_5,Za Zbt,Za Za3,Zaa Zd5,Zab u30 Ze8,Zao Zme,Zas Zqu,Zad Ze8,Za Zbv,Zaa ld3,Za Zkq,Za Zdb,Zaa Zmv,Zac u32,c2,i2,hi,ldx,hbx,e3,x0,nm,s0,lx,y0,y5,c4,t4,lv4,c4',br4]
  by_cases c20:o=20
  ·rw [if_pos c20] at hR
   subst hR
   simp [-Int.natCast_add,Za Zhv,Zaa Zb3,Zac u36,y4,c20]
   exact k3.trans k4
  by_cases c21:o=21
  ·rw [if_neg c20,if_pos c21] at hR
   subst hR
   simp [-Int.natCast_add,Za Zbt,Zaa ld3,Za Zhv,Zaa Zb3,Zac u36,Za Zbl,Zaa Zgb,Za Zic,Zab u36 sz3,Zab u31 Zje,Za Zds,c21,y4,c3',c5',lb1,bi2,i2,hi,ldp,hbin]
   exact k3.trans k4
  rw [if_neg c20,if_neg c21] at hR
  by_cases c1:o=1
  ·rw [if_pos c1] at hR
   by_cases q1:0≤n
   case neg =>
    have hRf:R=false:=by rw [← hR];simp [q1]
    rw [hRf]
    simp [-Int.natCast_add,Za Zbt,Za Za3,Zaa Zd5,Za Zl3,Zaa ld2,Zc9 u30 Ze8,c1,y3,q1]
    exact k3.trans k4
   by_cases q2:n < 40
   case neg =>
    have hRf:R=false:=by rw [← hR];simp [q2]
    rw [hRf]
    simp [-Int.natCast_add,Za Zbt,Za Za3,Zaa Zd5,Za Zl3,Zaa ld2,Zc9 u30 Ze8,c1,y3,q1,q2]
    exact k3.trans k4
   have hRW:R=!W:=by rw [← hR];simp [q1,q2]
   rw [hRW]
   simp [-Int.natCast_add,Za Zbt,Za Za3,Zaa Zd5,Za Zl3,Zaa ld2,Zc9 u30 Ze8,c1,y3,q1,q2,c2',i2,iv,c5v]
   exact (k3.trans k4).trans k5
  rw [if_neg c1] at hR
  subst hR
  simp [-Int.natCast_add,c20,c21,c1]
  exact k3.trans k4
end Go.Proofs.YtlogdohlcdhepaaDoor.base
end
section
set_option maxRecDepth 100000
namespace Go.Proofs.YtlogdohlcdhepaaDoor.base
open Go.Sh gen
variable {S:Zc}{m:Mem}
def eqF (a b:List Int):Bool:=decide (a=b)
theorem Zco {l:List Int}{i:Nat}(h:i < l.length):l.drop i=l.getD i 0::l.drop (i+1):=by
 rw [List.drop_eq_getElem_cons h,List.getD_eq_getElem?_getD,List.getElem?_eq_getElem h];rfl
set_option maxHeartbeats 4000000 in
theorem Zyb (hS:S 71=[]){Q Q2:Nat→Prop}{a b:List Int}{ao bo:Option Addr}(ha:Za5 Q m ao a)(hb:Za5 Q2 m bo b)(hal:a.length≤20000000000000)(hbl:b.length≤20000000000000) :
  Zal Tryd.prog TT S 71 [.slice ao a.length a.length,.slice bo b.length b.length] m=some (.bool (eqF a b),m):=by
 refine Zb9 14 [14,24] k71 hS rfl ?_
 by_cases hl:a.length=b.length
 case neg =>
  have hl':¬ (a.length:Int)=b.length:=by omega
  have:eqF a b=false:=by unfold eqF;exact decide_eq_false fun e=>hl (by rw [e])
  simp [-Int.natCast_add,Zac u36,hl',this]
 have hl':(a.length:Int)=b.length↔True:=by simp;omega
 have hl2:(b.length:Int)=a.length↔True:=by simp;omega
 simp [-Int.natCast_add,Zac u36,hl']
 obtain⟨R,hR⟩:∃ R,eqF a b=R:=⟨_,rfl⟩
 rw [hR]
 have im2:(b.length:Int)≤9223372036854775807:=by omega
 refine Zaq 14 [14,24] (fun d E mF=>∃ (i:Nat),a.length - i=d∧i≤a.length∧mF=m∧eqF (a.drop i) (b.drop i)=R∧
  E=[(0,.slice ao a.length a.length),(1,.slice bo b.length b.length),(12,.int .i64 a.length),(13,.int .i64 (i:Int))]) _ ⟨_,⟨0,rfl,by omega,rfl,by rw [List.drop_zero,List.drop_zero];exact hR,rfl⟩,⟨by rfl,by rfl,by rfl,by rfl,trivial⟩⟩ ?_
 rintro d E mF ih ⟨i,hd,hi,rfl,hr,rfl⟩
 have im:(i:Int)≤9223372036854775807:=by omega
 by_cases hlt:i < a.length
 ·have i1:(i:Int) < a.length:=by omega
  have i2:(i:Int) < b.length:=by omega
  have hlt2:i < b.length:=by omega
  have wi:IntKind.i64.wrap ((i:Int)+1)=((i+1:Nat):Int):=by rw [Zaf (by omega) (by omega)];omega
  obtain⟨xa,rfl,la⟩:=ha.get hlt
  obtain⟨xb,rfl,lb⟩:=hb.get hlt2
  rw [Zco hlt,Zco hlt2] at hr
  obtain⟨x,hx⟩:∃ x,a.getD i 0=x:=⟨_,rfl⟩
  obtain⟨y,hy⟩:∃ x,b.getD i 0=x:=⟨_,rfl⟩
  rw [hx] at la hr
  rw [hy] at lb hr
  by_cases hxy:x=y
  ·subst hxy
   simp [-Int.natCast_add,Zab u36 sz3,Zaa ld3,i1,im,hlt,hlt2,la,lb,wi]
   exact ih _ _ _ _ ⟨i+1,rfl,by omega,rfl,by rw [← hr];unfold eqF;simp,rfl⟩ (by omega) ⟨by rfl,by rfl,by rfl,by rfl,trivial⟩
  ·have:R=false:=by rw [← hr];unfold eqF;simp [hxy]
   simp [-Int.natCast_add,Zab u36 sz3,Zaa ld3,i1,im,hlt,hlt2,la,lb,hxy,this]
 clear ih
 have i1:¬ (i:Int) < a.length:=by omega
 rw [List.drop_of_length_le (by omega),List.drop_of_length_le (by omega)] at hr
 have:R=true:=by rw [← hr];rfl
 simp [-Int.natCast_add,i1,this]
end Go.Proofs.YtlogdohlcdhepaaDoor.base
end
