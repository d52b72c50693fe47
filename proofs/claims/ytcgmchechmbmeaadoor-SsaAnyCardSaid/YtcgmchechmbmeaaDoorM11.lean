/- This text proves what the parts of turnstonehand.Unit do, Zbx the abstract run: next, put. Condition: nothing is known of the calls ahead ('S f = []'). -/
import Derived.Test.YtcgmchechmbmeaaDoorM10
set_option linter.unusedVariables false
set_option linter.unusedSimpArgs false
section
set_option maxRecDepth 100000
namespace Go.Proofs.YtcgmchechmbmeaaDoor.base
open Go.Sh gen
variable {S:Zb4}{T T':Tg}{m m1 m2:Mem}{is js:List Nat}
structure Us where
 vals:List Za9.D
 blks:List Zct.D
 sts:List StT.D
 known:List Int
 bv:List Int
 bp:List Int
 at_:Nat
def AtT (T:Tg)(m:Mem)(ab x:Nat):Prop:=ab=0∨Zeu T 9 m ab [.int .i64 x] 3
theorem AtT.keep {ab x:Nat}(h:AtT T m ab x)(k:KT T is m m1)(a:Ag T T' m)(hi:9∉is):AtT T' m1 ab x:=h.imp id (fun o=>o.keep k a hi)
structure UM (T:Tg)(m:Mem)(ub kb bb ab:Nat)(s:Us):Prop where
 u:∃ va ba sa,Zeu T 1 m ub [.int .i64 1,.int .i64 2,.slice va s.vals.length s.vals.length,.slice ba s.blks.length s.blks.length,.slice sa s.sts.length s.sts.length] 29∧Ziq T m 43 Za9 s.vals va 2∧Ziq T m 36 Zct s.blks ba 3∧Ziq T m 41 StT s.sts sa 4
 k:∃ ka,Zeu T 5 m kb [.slice ka s.known.length s.known.length] 22∧SrT T 6 m ka s.known.length (ints s.known) 3 1
 b:∃ va pa,Zeu T 7 m bb [.slice va s.bv.length s.bv.length,.int .i64 0,.int .i64 0,.slice none 0 0,.slice pa s.bp.length s.bp.length,.int .i64 0] 36∧SlT T 8 m va s.bv.length (ints s.bv) 3 1∧Zah (DQ T m) m pa s.bp
 a:AtT T m ab s.at_
structure UC (T:Tg)(m:Mem)(ub kb bb ab rb nx px sx:Nat)(ops sh:List Int)(n:Int):Prop where
 r:∃ oa sa,Zeu T 10 m rb [.slice oa ops.length ops.length,.slice sa sh.length sh.length,.int .i64 n] 24∧Zah (DQ T m) m oa ops∧Zah (DQ T m) m sa sh
 cn:Zeu T 10 m nx [.func (.func 20) #[] #[.pointer (some ⟨ab,0,none⟩),.pointer (some ⟨rb,0,none⟩)]] 50
 cp:Zeu T 10 m px [.func (.func 19) #[] #[.pointer (some ⟨ub,0,none⟩),.pointer (some ⟨bb,0,none⟩)]] 49
 cs:Zeu T 10 m sx [.func (.func 21) #[] #[.pointer (some ⟨ub,0,none⟩),.pointer (some ⟨nx,0,none⟩),.pointer (some ⟨kb,0,none⟩)]] 53
 z:ab≠0
variable {ub kb bb ab rb nx px sx:Nat}{ops sh:List Int}{n:Int}{s:Us}
theorem UC.keep (h:UC T m ub kb bb ab rb nx px sx ops sh n)(k:KT T is m m1)(a:Ag T T' m)(h0:0∉is)(hi:10∉is):UC T' m1 ub kb bb ab rb nx px sx ops sh n:=by
 obtain⟨oa,sa,r1,r2,r3⟩:=h.r
 exact⟨⟨oa,sa,r1.keep k a hi,Zan r2 k a h0,Zan r3 k a h0⟩,h.cn.keep k a hi,h.cp.keep k a hi,h.cs.keep k a hi,h.z⟩
structure Nq (S:Zb4):Prop where
 pick:S 16=[]
 f1:S 19=[]
 f2:S 20=[]
 f3:S 21=[]
 f4:S 22=[]
 f5:S 23=[]
 unit:S 7=[]
theorem Zch (hS:S 16=[])(x k:Int)(hk:0 < k)(hk2:k < 4611686018427387904):Zaq Tryd.prog TT S 16 [.int .i64 x,.int .i64 k] m=some (.int .i64 (x % k),m):=by
 have hx:=Int.emod_nonneg x (by omega:k≠0)
 have hx2:=Int.emod_lt_of_pos x hk
 have hk0:k≠0:=by omega
 have hw:IntKind.i64.wrap (x % k)=x % k:=Zab (by omega) (by omega)
 have e:=Zwx x k hk
 refine Zlm 5 [9] k16 hS rfl ?_
 by_cases h:x.tmod k < 0
 ·rw [if_pos h] at e
  rw [e] at hw ⊢
  simp [hk0,h,hw]
 ·rw [if_neg h] at e
  rw [e]
  simp [hk0,h]
def Zat (ops:List Int)(k:Int)(s:Us):Us × Int:=if s.at_ < ops.length then ({ s with at_:=s.at_+1 },ops.getD s.at_ 0 % k) else (s,0)
theorem Zco {k:Int}(hk:0 < k):0≤(Zat ops k s).2∧(Zat ops k s).2 < k:=by
 unfold Zat
 split
 ·exact⟨Int.emod_nonneg _ (by omega),Int.emod_lt_of_pos _ hk⟩
 ·exact⟨Int.le_refl _,hk⟩
theorem Zg2 (ops:List Int)(k:Int)(s:Us):∃ a,(Zat ops k s).1={ s with at_:=a }:=by
 unfold Zat
 split
 ·exact⟨_,rfl⟩
 ·exact⟨s.at_,rfl⟩
theorem UM.keep (h:UM T m ub kb bb ab s)(k:KT T is m m1)(a:Ag T T' m)(hi:∀ t∈is,9 < t):UM T' m1 ub kb bb ab s:=by
 have n:∀ t,t≤9→t∉is:=fun t ht hm=>by have:=hi t hm;omega
 obtain⟨va,ba,sa,u1,u2,u3,u4⟩:=h.u
 obtain⟨ka,k1,k2⟩:=h.k
 obtain⟨va',pa,b1,b2,b3⟩:=h.b
 exact⟨⟨va,ba,sa,u1.keep k a (n _ (by omega)),u2.keep k a (n _ (by omega)) (n _ (by omega)),u3.keep k a (n _ (by omega)) (n _ (by omega)),u4.keep k a (n _ (by omega)) (n _ (by omega))⟩,⟨ka,k1.keep k a (n _ (by omega)),k2.keep k a (n _ (by omega))⟩,⟨va',pa,b1.keep k a (n _ (by omega)),b2.keep k a (n _ (by omega)),Zan b3 k a (n _ (by omega))⟩,h.a.keep k a (n _ (by omega))⟩
theorem Zes (hN:Nq S)(h:UM T m ub kb bb ab s)(hc:UC T m ub kb bb ab rb nx px sx ops sh n)(hat:s.at_≤ops.length)(hol:ops.length≤9223372036854775807){k:Int}(hk:0 < k)(hk2:k < 4611686018427387904) :
  ∃ v m1,Zaq Tryd.prog TT S 20 [.int .i64 k,.pointer (some ⟨ab,0,none⟩),.pointer (some ⟨rb,0,none⟩)] m=some (v,m1)∧v=.int .i64 (Zat ops k s).2∧UM T m1 ub kb bb ab (Zat ops k s).1∧UC T m1 ub kb bb ab rb nx px sx ops sh n∧KT T [9] m m1:=by
 obtain⟨fam,oA,tA⟩:=h.a.resolve_left hc.z
 obtain⟨oa,sa,⟨fr,oR,tR⟩,hO,hSh⟩:=hc.r
 have la:=oA.load1 (off:=0) rfl
 have lr:=oR.load1 (off:=0) rfl
 refine Zhk 5 [9] k20 hN.f2 rfl ?_
 unfold Zat
 by_cases hlt:s.at_ < ops.length
 ·have hge:¬ (ops.length:Int)≤(s.at_:Int):=by omega
  have hge':¬ ops.length≤s.at_:=by omega
  rw [if_pos hlt]
  obtain⟨x,hx⟩:∃ x,ops.getD s.at_ 0=x:=⟨_,rfl⟩
  rw [hx]
  obtain⟨A,hA⟩:∃ A,s.at_+1=A:=⟨_,rfl⟩
  have wa:IntKind.i64.wrap ((s.at_:Int)+1)=(A:Int):=by rw [Zab (by omega) (by omega)];omega
  have wb:IntKind.i64.wrap ((A:Int) - 1)=(s.at_:Int):=by rw [Zab (by omega) (by omega)];omega
  simp [-Int.natCast_add,la,lr,hge,wa]
  generalize hra:Zad _ _ _=ra
  obtain⟨m1,rfl,oA1,kA⟩:=Zdh hra ⟨fam,oA,tA⟩ (by simp) (by simp [Zau])
  simp [Zbx] at oA1
  have hc1:=hc.keep kA Ag.refl (by simp) (by simp)
  obtain⟨oa1,sa1,⟨fr1,oR1,_⟩,hO1,_⟩:=hc1.r
  obtain⟨fam1,oA1',tA1⟩:=oA1
  have la1:=oA1'.load1 (off:=0) rfl
  have lr1:=oR1.load1 (off:=0) rfl
  obtain⟨ob,hob,lo⟩:=hO1.get hlt
  have im:(s.at_:Int)≤9223372036854775807:=by omega
  have il:(s.at_:Int) < ops.length:=by omega
  rw [hx] at lo
  have pk:=Zch (m:=m1) hN.pick x k hk hk2
  simp [-Int.natCast_add,la1,lr1,wb,hob,lo,im,hlt,pk]
  rw [hA]
  obtain⟨va,ba,sa',u1,u2,u3,u4⟩:=h.u
  obtain⟨ka,k1,k2⟩:=h.k
  obtain⟨va',pa,b1,b2,b3⟩:=h.b
  refine⟨⟨⟨va,ba,sa',u1.keep kA Ag.refl (by simp),u2.keep kA Ag.refl (by simp) (by simp),u3.keep kA Ag.refl (by simp) (by simp),u4.keep kA Ag.refl (by simp) (by simp)⟩,⟨ka,k1.keep kA Ag.refl (by simp),k2.keep kA Ag.refl (by simp)⟩,⟨va',pa,b1.keep kA Ag.refl (by simp),b2.keep kA Ag.refl (by simp),Zan b3 kA Ag.refl (by simp)⟩,Or.inr ⟨fam1,oA1',tA1⟩⟩,hc1,kA⟩
 ·have hge:(ops.length:Int)≤(s.at_:Int):=by omega
  have hge':ops.length≤s.at_:=by omega
  rw [if_neg hlt]
  simp [-Int.natCast_add,la,lr,hge]
  exact⟨h,hc,KT.refl⟩
abbrev Zec (d:Za9.D):List Int:=d.2.2.2.2.1
theorem Zea {Q:Nat→Prop}{ao:Option Addr}{l:List Int}(h:Zah Q m ao l):AtI Q m (.slice 3 (.int .i64)) l [.slice ao l.length l.length]:=by
 obtain⟨f,hr,hq⟩:=h
 refine⟨ao,l.map fun x=>[Value.int .i64 x],f,rfl,by simp,fun i d c hd hc=>?_,?_,hq⟩
 ·rw [List.getElem?_map,hd] at hc
  simp at hc
  exact hc.symm
 ·have e:(l.map fun x=>[Value.int .i64 x]).flatten=ints l:=by
   clear hr hq
   induction l with
   | nil=>rfl
   | cons a l ih=>simp only [List.map_cons,List.flatten_cons,ih,List.cons_append,List.nil_append]
  rw [e];exact hr
theorem Zhu {Q:Nat→Prop}{d:Za9.D}{ao:Option Addr}(h:Zah Q m ao (Zec d)):AtI Q m Za9 d (Zlt d ao):=
 ⟨[_],_,rfl,rfl,[_],_,rfl,rfl,[_],_,rfl,rfl,[_],_,rfl,rfl,[_],_,rfl,Zea h,[_],[],rfl,rfl,rfl⟩
def Zbu (d:Za9.D)(s:Us):Us:={ s with vals:=s.vals++[d],bv:=s.bv++[(s.vals.length:Int)] }
set_option maxHeartbeats 1000000 in
theorem Zdq (hN:Nq S)(hT:∀ f,T f≤10)(h:UM T m ub kb bb ab s)(hnv:s.vals.length≤1000)(hbv:s.bv.length≤1000){d:Za9.D}{aa:Option Addr}(hd:Zah (DQ T m) m aa (Zec d)) :
  ∃ v m1,Zaq Tryd.prog TT S 19 [.agg (Zlt d aa).toArray,.pointer (some ⟨ub,0,none⟩),.pointer (some ⟨bb,0,none⟩)] m=some (v,m1)∧v=.int .i64 (s.vals.length:Nat)∧∃ T',UM T' m1 ub kb bb ab (Zbu d s)∧Ag T T' m∧KT T [1,2,7,8] m m1∧∀ f,T' f≤10:=by
 obtain⟨T1,a1,oB,k1,n1,w1⟩:=Znh (m:=m) T 10 (cs:=Zlt d aa) (e:=43) rfl
 have kt1:KT T [] m (m.new (Zlt d aa) 43):=KT.of k1
 have h1:=h.keep kt1 a1 (by simp)
 have hd1:=Zan hd kt1 a1 (by simp)
 obtain⟨va,ba,sa,u1,u2,u3,u4⟩:=h1.u
 obtain⟨ka,q1,q2⟩:=h1.k
 obtain⟨va',pa,b1,b2,b3⟩:=h1.b
 have oA:=h1.a
 refine Zhk 5 [] k19 hN.f1 rfl ?_
 simp [-Int.natCast_add,-w19_1,Zbn b43]
 generalize m.new _ _=m1 at *
 obtain⟨fu,ou,tu⟩:=u1
 obtain⟨fb,ob,tb⟩:=oB
 have lU:=ou.load1 (off:=2) rfl
 have lB:loadRow m1 ⟨m.next,0,none⟩ 6=_:=ob.load (off:=0) 6 (by simp)
 have ew:Zao (Zlt d aa) 0 6=Zlt d aa:=rfl
 rw [ew] at lB
 have hlen:d.2.2.2.2.1.length=(Zec d).length:=rfl
 simp [-Int.natCast_add,-w19_2,Za u25 Z97 rfl,Zbb u25 Z4h,lU,lB]
 generalize hra:Zak _ _ _ _ _ _=ra
 obtain⟨m2,bv2,T2,rfl,r2,a2,k2,w2⟩:=Ziq.app (c:=Zlt d aa) u2 (by omega) (Zhu hd1) hra u25 Z9r (by simp [Zau,Zae]) (by omega) (by omega)
 clear hra
 have u12:Zeu T2 1 m2 ub _ _:=Zeu.keep ⟨fu,ou,tu⟩ k2 a2 (by simp)
 simp [-Int.natCast_add,-w19_2]
 generalize hrb:Zad _ _ _=rb
 obtain⟨m3,rfl,u13,k3⟩:=Zdh hrb u12 (by simp) (by simp [Zae])
 clear hrb
 simp [Zbx] at u13
 have ek:KT T [1,2,7,8] m m3:=(((kt1.mono (by simp)).trans a1 (k2.mono (by simp))).trans (a1.trans a2 kt1.le) (k3.mono (by simp)))
 have e2:Ag T T2 m:=a1.trans a2 kt1.le
 obtain⟨N,hN1⟩:∃ N,s.vals.length+1=N:=⟨_,rfl⟩
 have r3:=r2.keep k3 Ag.refl (by simp) (by simp)
 have b13:=(b1.keep k2 a2 (by simp)).keep k3 Ag.refl (by simp)
 have b23:=(b2.keep k2 a2 (by simp)).keep k3 Ag.refl (by simp)
 have b33:=Zan (Zan b3 k2 a2 (by simp)) k3 Ag.refl (by simp)
 have q13:=(q1.keep k2 a2 (by simp)).keep k3 Ag.refl (by simp)
 have q23:=(q2.keep k2 a2 (by simp)).keep k3 Ag.refl (by simp)
 have u33:=(u3.keep k2 a2 (by simp) (by simp)).keep k3 Ag.refl (by simp) (by simp)
 have u43:=(u4.keep k2 a2 (by simp) (by simp)).keep k3 Ag.refl (by simp) (by simp)
 have oA3:=(oA.keep k2 a2 (by simp)).keep k3 Ag.refl (by simp)
 obtain⟨fu3,ou3,tu3⟩:=u13
 obtain⟨fb3,ob3,tb3⟩:=b13
 have lU3:=ou3.load1 (off:=2) rfl
 have lB3:=ob3.load1 (off:=0) rfl
 rw [hN1] at lU3
 have wN:IntKind.i64.wrap ((N:Int) - 1)=(s.vals.length:Int):=by rw [Zab (by omega) (by omega)];omega
 simp [-Int.natCast_add,-w19_3,Za u22 bs3 rfl,Zbb u22 sz3,lU3,lB3,wN]
 generalize hra:Zak _ _ _ _ _ _=ra
 obtain⟨m4,bv4,T4,rfl,r4,a4,k4,w4⟩:=Z4l hra u22 ap3 b23 (by omega) (by simp) (by simp [Zau]) (by omega) (by omega)
 clear hra
 have b14:Zeu T4 7 m4 bb _ _:=Zeu.keep ⟨fb3,ob3,tb3⟩ k4 a4 (by simp)
 simp [-Int.natCast_add,-w19_3]
 generalize hrb:Zad _ _ _=rb
 obtain⟨m5,rfl,b15,k5⟩:=Zdh hrb b14 (by simp) (by simp [Zae])
 clear hrb
 simp [Zbx] at b15
 have u15:Zeu T4 1 m5 ub _ _:=(Zeu.keep ⟨fu3,ou3,tu3⟩ k4 a4 (by simp)).keep k5 Ag.refl (by simp)
 have u15c:=u15
 obtain⟨fu5,ou5,tu5⟩:=u15
 have lU5:=ou5.load1 (off:=2) rfl
 rw [hN1] at lU5
 simp [-Int.natCast_add,lU5,wN]
 refine⟨T4,⟨⟨some ⟨bv2,0,none⟩,ba,sa,?_,(r3.keep k4 a4 (by simp) (by simp)).keep k5 Ag.refl (by simp) (by simp),(u33.keep k4 a4 (by simp) (by simp)).keep k5 Ag.refl (by simp) (by simp),(u43.keep k4 a4 (by simp) (by simp)).keep k5 Ag.refl (by simp) (by simp)⟩,⟨ka,(q13.keep k4 a4 (by simp)).keep k5 Ag.refl (by simp),(q23.keep k4 a4 (by simp)).keep k5 Ag.refl (by simp)⟩,⟨some ⟨bv4,0,none⟩,pa,?_,?_,Zan (Zan b33 k4 a4 (by simp)) k5 Ag.refl (by simp)⟩,(oA3.keep k4 a4 (by simp)).keep k5 Ag.refl (by simp)⟩,e2.trans a4 ek.le,((ek.trans e2 (k4.mono (by simp))).trans (e2.trans a4 ek.le) (k5.mono (by simp))),fun f=>by have:=hT f;have:=w1 f;have:=w2 f;have:=w4 f;omega⟩
 ·simpa [Zbu] using u15c
 ·simpa [Zbu] using b15
 ·simpa [Zbu] using r4.keep k5 Ag.refl (by simp)
end Go.Proofs.YtcgmchechmbmeaaDoor.base
end
section
set_option maxRecDepth 100000
namespace Go.Proofs.YtcgmchechmbmeaaDoor.base
open Go.Sh gen
variable {S:Zb4}{T T':Tg}{m m1 m2:Mem}{is js:List Nat}{ub kb bb ab rb nx px sx:Nat}{ops sh:List Int}{n:Int}{s:Us}
theorem Z4p {t:Ty}{d:t.D}{cs:List Value}(h:AtI (DQ T m) m t d cs)(r:∀ f,T f≤10→T' f=T f):AtI (DQ T' m) m t d cs:=h.mono (fun f hq=>⟨(r f (by rw [hq.1];omega)).trans hq.1,hq.2⟩)
theorem Zpc {ao:Option Addr}{l:List Int}(h:Zah (DQ T m) m ao l)(r:∀ f,T f≤10→T' f=T f):Zah (DQ T' m) m ao l:=by
 obtain⟨f,hr,hq⟩:=h
 exact⟨f,hr,fun hz=>⟨(r f (by rw [(hq hz).1];omega)).trans (hq hz).1,(hq hz).2⟩⟩
theorem Zeu.ret {b e i:Nat}{cells:List Value}(h:Zeu T i m b cells e)(hi:i≤10)(r:∀ f,T f≤10→T' f=T f):Zeu T' i m b cells e:=by
 obtain⟨fam,o,rfl⟩:=h
 exact⟨fam,o,r _ hi⟩
theorem SlT.ret {ao:Option Addr}{n e z i:Nat}{cells:List Value}(h:SlT T i m ao n cells e z)(hi:i≤10)(r:∀ f,T f≤10→T' f=T f):SlT T' i m ao n cells e z:=by
 obtain⟨fam,o,ht⟩:=h
 exact⟨fam,o,fun hn=>(r _ (by rw [ht hn];exact hi)).trans (ht hn)⟩
theorem SrT.ret {ao:Option Addr}{n e z i:Nat}{cells:List Value}(h:SrT T i m ao n cells e z)(hi:i≤10)(r:∀ f,T f≤10→T' f=T f):SrT T' i m ao n cells e z:=by
 obtain⟨fam,o,ht⟩:=h
 exact⟨fam,o,fun hn=>(r _ (by rw [ht hn];exact hi)).trans (ht hn)⟩
theorem Ziq.ret {e i:Nat}{t:Ty}{l:List t.D}{ao:Option Addr}(h:Ziq T m e t l ao i)(hi:i≤10)(r:∀ f,T f≤10→T' f=T f):Ziq T' m e t l ao i:=by
 obtain⟨css,h1,h2,h3⟩:=h
 exact⟨css,h1,fun j d c hd hc=>Z4p (h2 j d c hd hc) r,h3.ret hi r⟩
theorem AtT.ret {ab x:Nat}(h:AtT T m ab x)(hi:9≤10)(r:∀ f,T f≤10→T' f=T f):AtT T' m ab x:=h.imp id (fun o=>o.ret hi r)
theorem UM.ret (h:UM T m ub kb bb ab s)(r:∀ f,T f≤10→T' f=T f):UM T' m ub kb bb ab s:=by
 obtain⟨va,ba,sa,u1,u2,u3,u4⟩:=h.u
 obtain⟨ka,k1,k2⟩:=h.k
 obtain⟨va',pa,b1,b2,b3⟩:=h.b
 exact⟨⟨va,ba,sa,u1.ret (by omega) r,u2.ret (by omega) r,u3.ret (by omega) r,u4.ret (by omega) r⟩,⟨ka,k1.ret (by omega) r,k2.ret (by omega) r⟩,⟨va',pa,b1.ret (by omega) r,b2.ret (by omega) r,Zpc b3 r⟩,h.a.ret (by omega) r⟩
theorem UC.ret (h:UC T m ub kb bb ab rb nx px sx ops sh n)(r:∀ f,T f≤10→T' f=T f):UC T' m ub kb bb ab rb nx px sx ops sh n:=by
 obtain⟨oa,sa,r1,r2,r3⟩:=h.r
 exact⟨⟨oa,sa,r1.ret (by omega) r,Zpc r2 r,Zpc r3 r⟩,h.cn.ret (by omega) r,h.cp.ret (by omega) r,h.cs.ret (by omega) r,h.z⟩
theorem Zde (f:FuncId)(b:Array Value)(h:eqA b b=true):eqV (.func (.func f) #[] b) (.func (.func f) #[] b)=true:=by simp [eqV,h,eqA,eqL]
theorem Zox (a b:Option Addr):eqA #[.pointer a,.pointer b] #[.pointer a,.pointer b]=true:=by simp [eqV,eqA,eqL]
theorem Z80 (a b c:Option Addr):eqA #[.pointer a,.pointer b,.pointer c] #[.pointer a,.pointer b,.pointer c]=true:=by simp [eqV,eqA,eqL]
def Zbc (ops:List Int)(s:Us):Us × Int:=((Zat ops (s.known.length:Nat) s).1,s.known.getD (Zat ops (s.known.length:Nat) s).2.toNat 0)
def Zft (ops:List Int):Nat→Us→List Int→Us × List Int
 | 0,s,l=>(s,l)
 | k+1,s,l=>Zft ops k (Zbc ops s).1 (l++[(Zbc ops s).2])
def Zdz (s:Us):Int:=s.known.getD (s.known.length - 1) 0
def Zac (ops:List Int)(s:Us):Us × Int:=
 let q:=Zat ops 4 s
 let r:=Zft ops q.2.toNat q.1 []
 ({ r.1 with sts:=r.1.sts++[([((1:Int),(s.sts.length:Int),r.2,[Zdz s],())],())] },(s.sts.length:Nat))
theorem Za5 (k:Int):(Zat ops k s).1.known=s.known∧(Zat ops k s).1.sts=s.sts∧(Zat ops k s).1.vals=s.vals∧(Zat ops k s).1.bv=s.bv∧(Zat ops k s).1.blks=s.blks∧(Zat ops k s).1.bp=s.bp:=by
 obtain⟨a,e⟩:=Zg2 ops k s
 rw [e];exact⟨rfl,rfl,rfl,rfl,rfl,rfl⟩
theorem Zpa (k:Int)(h:s.at_≤ops.length):(Zat ops k s).1.at_≤ops.length:=by
 unfold Zat
 split
 ·simp only;omega
 ·exact h
theorem UM.known (h:UM T m ub kb bb ab s){j:Nat}(hj:j < s.known.length):∃ ka kv,loadRow m ⟨kb,0,none⟩ 1=some [.slice ka s.known.length s.known.length]∧ka=some ⟨kv,0,none⟩∧loadRow m ⟨kv,j,none⟩ 1=some [.int .i64 (s.known.getD j 0)]:=by
 obtain⟨ka,⟨f5,k1,_⟩,⟨f6,k2,_⟩⟩:=h.k
 obtain⟨kv,rest,e,o⟩:=k2.own (by omega)
 refine⟨ka,kv,k1.load1 (off:=0) rfl,e,o.load1 ?_⟩
 rw [List.getElem?_append_left (by simpa using hj)]
 simp [hj]
theorem UM.known2 (h:UM T m ub kb bb ab s)(k:KT T is m m1)(h5:5∉is)(h6:6∉is){j:Nat}(hj:j < s.known.length):∃ kv,loadRow m ⟨kb,0,none⟩ 1=some [.slice (some ⟨kv,0,none⟩) s.known.length s.known.length]∧loadRow m1 ⟨kb,0,none⟩ 1=some [.slice (some ⟨kv,0,none⟩) s.known.length s.known.length]∧loadRow m ⟨kv,j,none⟩ 1=some [.int .i64 (s.known.getD j 0)]∧loadRow m1 ⟨kv,j,none⟩ 1=some [.int .i64 (s.known.getD j 0)]:=by
 obtain⟨ka,k1,k2⟩:=h.k
 obtain⟨f5,o5,_⟩:=k1
 obtain⟨f6,o6,t6⟩:=k2
 obtain⟨f5',o5',_⟩:=Zeu.keep ⟨f5,o5,by assumption⟩ k Ag.refl h5
 obtain⟨fs,kk,hf⟩:=k
 have hne:ka≠none:=by
  obtain⟨kv,_,e,_⟩:=o6.own (by omega)
  rw [e];simp
 obtain⟨kv,rest,rfl,o⟩:=o6.own (by omega)
 have o':=o.keep kk (fun hm=>h6 (by rw [← t6 hne];exact hf _ hm o.flt))
 have e:(ints s.known++rest)[j]?=some (.int .i64 (s.known.getD j 0)):=by
  rw [List.getElem?_append_left (by simpa using hj)]
  simp [hj]
 exact⟨kv,o5.load1 (off:=0) rfl,o5'.load1 (off:=0) rfl,o.load1 e,o'.load1 e⟩
set_option maxHeartbeats 2000000 in
theorem Zkk (hN:Nq S)(hT:∀ f,T f≤10)(h:UM T m ub kb bb ab s)(hc:UC T m ub kb bb ab rb nx px sx ops sh n)(hat:s.at_≤ops.length)(hol:ops.length≤9223372036854775807)(hkn:1≤s.known.length∧s.known.length≤1000)(hst:s.sts.length≤1000) :
  ∃ v m1,Zaq Tryd.prog TT S 21 [.pointer (some ⟨ub,0,none⟩),.pointer (some ⟨nx,0,none⟩),.pointer (some ⟨kb,0,none⟩)] m=some (v,m1)∧v=.int .i64 (Zac ops s).2∧∃ T',UM T' m1 ub kb bb ab (Zac ops s).1∧UC T' m1 ub kb bb ab rb nx px sx ops sh n∧Ag T T' m∧KT T [1,4,9,11,12] m m1∧∀ f,T' f≤10:=by
 obtain⟨va,ba,sa,⟨f1,u1,t1⟩,_,_,_⟩:=h.u
 have lu:=u1.load1 (off:=4) rfl
 have wst:IntKind.i64.wrap (s.sts.length:Int)=s.sts.length:=Zab (by omega) (by omega)
 obtain⟨T1,a1,oF,k1,n1,_⟩:=Znh (m:=m) T 11 (cs:=[.int .i64 0,.int .i64 0,.slice none 0 0,.slice none 0 0]) (e:=52) rfl
 have h1:=h.keep (KT.of (is:=[]) k1) a1 (by simp)
 have hc1:=hc.keep (KT.of (is:=[]) k1) a1 (by simp) (by simp)
 refine Zhk 6 [13] k21 hN.f3 rfl ?_
 simp [-Int.natCast_add,-w21_2,Zax Yaq,lu]
 obtain⟨fb,hfb⟩:∃ fb,m.next=fb:=⟨_,rfl⟩
 rw [hfb] at oF
 generalize m.new _ _=m1 at *
 generalize hra:Zad _ _ _=ra
 obtain⟨m2,rfl,oF2,k2⟩:=Zdh hra (by rw [hfb];exact oF) (by simp) (by simp [Zau,Zae])
 clear hra
 simp [Zbx] at oF2
 rw [hfb] at oF2
 have h2:=h1.keep k2 Ag.refl (by simp)
 have hc2:=hc1.keep k2 Ag.refl (by simp) (by simp)
 obtain⟨fn,on,tn⟩:=hc2.cn
 have ln:=on.load1 (off:=0) rfl
 obtain⟨v3,m3,c3,rfl,h3,hc3,k3⟩:=Zes hN h2 hc2 hat hol (k:=4) (by omega) (by omega)
 simp [-Int.natCast_add,-w21_3,ln,c3]
 rw [hfb]
 have q0:=Zco (ops:=ops) (s:=s) (k:=4) (by omega)
 obtain⟨q1,q2,q3,q4,q5,q6⟩:=Za5 (ops:=ops) (s:=s) 4
 have q7:=Zpa (k:=4) hat
 obtain⟨qn,hqn⟩:∃ qn:Nat,(Zat ops 4 s).2=qn:=⟨(Zat ops 4 s).2.toNat,by omega⟩
 have hqt:(Zat ops 4 s).2.toNat=qn:=by omega
 have eS:Zac ops s=({ (Zft ops qn (Zat ops 4 s).1 []).1 with sts:=(Zft ops qn (Zat ops 4 s).1 []).1.sts++[([((1:Int),(s.sts.length:Int),(Zft ops qn (Zat ops 4 s).1 []).2,[Zdz s],())],())] },((s.sts.length:Nat):Int)):=by unfold Zac;simp only [hqt]
 rw [eS,hqn]
 have oF3:=oF2.keep k3 Ag.refl (by simp)
 have kk3:KT T [9,11,12] m m3:=((KT.of (is:=[9,11,12]) k1).trans a1 (k2.mono (by simp))).trans (a1.trans Ag.refl (KT.of (is:=[]) (T:=T) k1).le) (k3.mono (by simp))
 obtain⟨R,hR⟩:∃ R,Zft ops qn (Zat ops 4 s).1 []=R:=⟨_,rfl⟩
 rw [hR]
 refine Zag 6 [13] (fun d E mG=>∃ (k:Nat) (s':Us) (locs:List Int) (T':Tg) (la:Option Addr),k=d∧UM T' mG ub kb bb ab s'∧UC T' mG ub kb bb ab rb nx px sx ops sh n∧Zeu T' 11 mG fb [.int .i64 1,.int .i64 (s.sts.length:Nat),.slice la locs.length locs.length,.slice none 0 0] 52∧SlT T' 12 mG la locs.length (ints locs) 3 1∧Ag T T' m∧KT T [9,11,12] m mG∧Zft ops k s' locs=R∧s'.known=s.known∧s'.sts=s.sts∧s'.at_≤ops.length∧locs.length+k≤3∧
  E=[(0,.pointer (some ⟨ub,0,none⟩)),(1,.pointer (some ⟨nx,0,none⟩)),(2,.pointer (some ⟨kb,0,none⟩)),(4,.pointer (some ⟨fb,0,none⟩)),(5,.int .i64 (k:Int))]) _ ⟨_,⟨qn,(Zat ops 4 s).1,[],T1,none,rfl,h3,hc3,oF3,⟨0,Sl.nil _ _ _ _,by simp⟩,a1,kk3,hR,q1,q2,q7,by simp;omega,rfl⟩,(by repeat' constructor)⟩ ?_
 clear h1 hc1 h2 hc2 h3 hc3 oF oF2 oF3 k2 k3 kk3 c3 ln on tn
 clear fn
 rintro d E mG ih ⟨k,s',locs,T',la,rfl,hU,hC,oG,sG,aG,kG,hL,ek,es,eat,hlk,rfl⟩
 have km:(k:Int)≤9223372036854775807:=by omega
 obtain⟨fG,oGo,tG⟩:=oG
 have lf:=oGo.load1 (off:=2) rfl
 by_cases hk0:k=0
 ·subst hk0
  clear ih
  rw [Zft] at hL
  simp [-Int.natCast_add,-w21_6]
  obtain⟨va',ba',sa',v1,v2,v3,v4⟩:=hU.u
  obtain⟨kv,lk,_,lx,_⟩:=hU.known2 (KT.refl (is:=[])) (by simp) (by simp) (j:=s'.known.length - 1) (by rw [ek];omega)
  obtain⟨L1,hL1⟩:∃ L1,s'.known.length - 1=L1:=⟨_,rfl⟩
  have hks:s'.known.length=L1+1:=by rw [ek] at hL1 ⊢;omega
  have hL1n:L1≤1000:=by rw [ek] at hks;omega
  rw [hL1] at lx
  have wl:IntKind.i64.wrap ((s'.known.length:Int) - 1)=(L1:Int):=by rw [Zab (by omega) (by omega)];omega
  have l1:(L1:Int)≤9223372036854775807:=by omega
  have l2:L1 < s'.known.length:=by omega
  have l3:(L1:Int) < s'.known.length:=by omega
  have elast:s'.known.getD L1 0=Zdz s:=by rw [ek] at hL1 ⊢;rw [Zdz,hL1]
  rw [elast] at lx
  obtain⟨y,hy⟩:∃ y,Zdz s=y:=⟨_,rfl⟩
  rw [hy] at lx ⊢
  simp [-Int.natCast_add,-w21_7,Za u22 bs3 rfl,lk,wl,l1,l2,lx]
  obtain⟨T5,a5,o5,k5,n5,_⟩:=Znh (m:=mG) T' 0 (cs:=[.int .i64 y]) (e:=3) rfl
  obtain⟨yb,hyb⟩:∃ yb,mG.next=yb:=⟨_,rfl⟩
  rw [hyb] at o5 ⊢
  have kt5:KT T' [] mG (mG.new [.int .i64 y] 3):=KT.of k5
  generalize mG.new _ _=m5 at *
  have oF5:Zeu T5 11 m5 fb _ _:=Zeu.keep ⟨fG,oGo,tG⟩ kt5 a5 (by simp)
  generalize hrc:Zad _ _ _=rc
  obtain⟨m6,rfl,oF6,k6⟩:=Zdh hrc oF5 (by simp) (by simp [Zae])
  clear hrc
  simp [Zbx] at oF6
  have kg6:KT T' [11] mG m6:=(kt5.mono (by simp)).trans a5 k6
  have ag6:Ag T' T5 mG:=a5
  have aG5:Ag T T5 m:=aG.trans a5 kG.le
  have kG6:KT T [9,11,12] m m6:=kG.trans aG (kg6.mono (by simp))
  obtain⟨T6,hT6⟩:∃ T6:Tg,T6=fun f=>if T5 f≤10 then T5 f else 0:=⟨_,rfl⟩
  have ret:∀ f,T5 f≤10→T6 f=T5 f:=fun f hf=>by rw [hT6];exact if_pos hf
  have ret0:∀ f,¬ T5 f≤10→T6 f=0:=fun f hf=>by rw [hT6];exact if_neg hf
  have aG6:Ag T T6 m:=fun f hf=>by rw [← aG5 f hf];exact ret f (by rw [aG5 f hf];exact hT f)
  have hU6:UM T6 m6 ub kb bb ab s':=((hU.keep kt5 a5 (by simp)).keep k6 Ag.refl (by simp)).ret ret
  have hC6:UC T6 m6 ub kb bb ab rb nx px sx ops sh n:=((hC.keep kt5 a5 (by simp) (by simp)).keep k6 Ag.refl (by simp) (by simp)).ret ret
  have s6:=(sG.keep kt5 a5 (by simp)).keep k6 Ag.refl (by simp)
  have y6:=(o5.keep k6 Ag.refl (by simp)).ret (by omega) ret
  have dl:Zah (DQ T6 m6) m6 la locs:=by
   obtain⟨lf',sl,tl⟩:=s6
   refine⟨lf',Zp1 sl.rs,fun hz=>?_⟩
   have hne:la≠none:=by
    obtain⟨_,e,_⟩:=sl.own hz
    rw [e];simp
   exact⟨ret0 _ (by rw [tl hne];omega),sl.sr.flt hne⟩
  have dy:Zah (DQ T6 m6) m6 (some ⟨yb,0,none⟩) [y]:=by
   obtain⟨yf,yo,yt⟩:=y6
   exact⟨yf,Zp1 ⟨by simp,Or.inr ⟨yb,rfl,yo.rdo⟩⟩,fun _=>⟨yt,yo.flt⟩⟩
  obtain⟨fF,oFo,_⟩:=oF6
  obtain⟨va6,ba6,sa6,w1,w2,w3,w4⟩:=hU6.u
  obtain⟨ka6,q61,q62⟩:=hU6.k
  obtain⟨vb6,pb6,b61,b62,b63⟩:=hU6.b
  obtain⟨fu6,ou6,tu6⟩:=w1
  have lU6:=ou6.load1 (off:=4) rfl
  have lF6:loadRow m6 ⟨fb,0,none⟩ 4=_:=oFo.load (off:=0) 4 (by simp)
  simp only [Zao,List.drop_zero,List.take_succ_cons,List.take_zero] at lF6
  simp [-Int.natCast_add,-w21_8,Za u39 Z9n rfl,Zax Ya5,Za u27 Yaa rfl,Zbb u27 Z8,lU6,lF6]
  obtain⟨T7,a7,o7,k7,n7,t7⟩:=Znh (m:=m6) T6 0 (cs:=[.int .i64 1,.int .i64 (s.sts.length:Nat),.slice la locs.length locs.length,.slice (some ⟨yb,0,none⟩) 1 1]) (e:=52) rfl
  have kt7:KT T6 [] m6 (m6.new [.int .i64 1,.int .i64 (s.sts.length:Nat),.slice la locs.length locs.length,.slice (some ⟨yb,0,none⟩) 1 1] 52):=KT.of k7
  generalize hm7:m6.new _ _=m7 at *
  generalize hrc:Zak _ _ _ _ _ _=rc
  have dl7:=Zea (Zan dl kt7 a7 (by simp))
  have dy7:=Zea (Zan dy kt7 a7 (by simp))
  obtain⟨f7,o7o,t7o⟩:=o7
  have dS:AtI (DQ T7 m7) m7 StT ([((1:Int),(s.sts.length:Int),locs,[y],())],()) [.slice (some ⟨m6.next,0,none⟩) 1 1]:=by
   refine⟨[_],[],rfl,⟨some ⟨m6.next,0,none⟩,[[.int .i64 1,.int .i64 (s.sts.length:Nat),.slice la locs.length locs.length,.slice (some ⟨yb,0,none⟩) 1 1]],f7,rfl,rfl,fun i d c hd hc=>?_,RsT.of ⟨rfl,Or.inr ⟨_,rfl,o7o.rdo⟩⟩,fun _=>⟨t7o,o7o.flt⟩⟩,rfl⟩
   cases i with
   | zero =>
    simp at hd hc
    subst hd hc
    exact⟨[_],_,rfl,rfl,[_],_,rfl,rfl,[_],_,rfl,dl7,[_],[],rfl,dy7,rfl⟩
   | succ i=>simp at hd
  have w47:=w4.keep kt7 a7 (by simp) (by simp)
  obtain⟨m8,b8,T8,rfl,r8,a8,k8,t8⟩:=Ziq.app (c:=[.slice (some ⟨m6.next,0,none⟩) 1 1]) w47 (by omega) dS hrc u27 Z92 (by simp [Zae]) (by rw [es];omega) (by rw [es];omega)
  clear hrc
  have u8:Zeu T8 1 m8 ub _ _:=(Zeu.keep ⟨fu6,ou6,tu6⟩ kt7 a7 (by simp)).keep k8 a8 (by simp)
  simp [-Int.natCast_add,-w21_8]
  generalize hrd:Zad _ _ _=rd
  obtain⟨m9,rfl,u9,k9⟩:=Zdh hrd u8 (by simp) (by simp [Zae])
  clear hrd
  simp [Zbx] at u9
  have u9c:=u9
  obtain⟨fu9,ou9,tu9⟩:=u9
  have lU9:=ou9.load1 (off:=4) rfl
  obtain⟨N,hN1⟩:∃ N,s'.sts.length+1=N:=⟨_,rfl⟩
  rw [hN1] at lU9
  have wN:IntKind.i64.wrap ((N:Int) - 1)=(s.sts.length:Int):=by rw [Zab (by rw [es] at hN1;omega) (by rw [es] at hN1;omega)];rw [es] at hN1;omega
  simp [-Int.natCast_add,lU9,wN]
  have hL':R=(s',locs):=hL.symm
  rw [hL']
  have kS:KT T [1,4,9,11,12] m m9:=(((kG6.mono (by simp)).trans aG6 (kt7.mono (by simp))).trans (aG6.trans a7 kG6.le) (k8.mono (by simp))).trans ((aG6.trans a7 kG6.le).trans a8 (by have:=kG6.le;have:=kt7.le;omega)) (k9.mono (by simp))
  refine⟨T8,⟨⟨va6,ba6,some ⟨b8,0,none⟩,?_,((w2.keep kt7 a7 (by simp) (by simp)).keep k8 a8 (by simp) (by simp)).keep k9 Ag.refl (by simp) (by simp),((w3.keep kt7 a7 (by simp) (by simp)).keep k8 a8 (by simp) (by simp)).keep k9 Ag.refl (by simp) (by simp),r8.keep k9 Ag.refl (by simp) (by simp)⟩,⟨ka6,((q61.keep kt7 a7 (by simp)).keep k8 a8 (by simp)).keep k9 Ag.refl (by simp),((q62.keep kt7 a7 (by simp)).keep k8 a8 (by simp)).keep k9 Ag.refl (by simp)⟩,⟨vb6,pb6,((b61.keep kt7 a7 (by simp)).keep k8 a8 (by simp)).keep k9 Ag.refl (by simp),((b62.keep kt7 a7 (by simp)).keep k8 a8 (by simp)).keep k9 Ag.refl (by simp),Zan (Zan (Zan b63 kt7 a7 (by simp)) k8 a8 (by simp)) k9 Ag.refl (by simp)⟩,((hU6.a.keep kt7 a7 (by simp)).keep k8 a8 (by simp)).keep k9 Ag.refl (by simp)⟩,((hC6.keep kt7 a7 (by simp) (by simp)).keep k8 a8 (by simp) (by simp)).keep k9 Ag.refl (by simp) (by simp),(aG6.trans a7 kG6.le).trans a8 (by have:=kG6.le;have:=kt7.le;omega),kS,fun f=>?_⟩
  ·simpa using u9c
  ·have h6:T6 f≤10:=by
    by_cases hf:T5 f≤10
    ·rw [ret f hf];exact hf
    ·rw [ret0 f hf];omega
   have:=t7 f
   have:=t8 f
   omega
 ·have hk1:0 < k:=by omega
  have hk1':0 < (k:Int):=by omega
  obtain⟨j,hj⟩:∃ j,j+1=k:=⟨k - 1,by omega⟩
  have wk:IntKind.i64.wrap ((k:Int) - 1)=(j:Int):=by rw [Zab (by omega) (by omega)];omega
  obtain⟨fn,on,tn⟩:=hC.cn
  have ln:=on.load1 (off:=0) rfl
  rw [← ek] at hkn
  obtain⟨v4,m4,c4,rfl,hU4,hC4,k4⟩:=Zes hN hU hC eat hol (k:=(s'.known.length:Nat)) (by omega) (by omega)
  have z0:=Zco (ops:=ops) (s:=s') (k:=(s'.known.length:Nat)) (by omega)
  obtain⟨z1,z2,z3,z4,z5,z6⟩:=Za5 (ops:=ops) (s:=s') (s'.known.length:Nat)
  have z7:=Zpa (k:=(s'.known.length:Nat)) eat
  obtain⟨x,hx⟩:∃ x:Nat,(Zat ops (s'.known.length:Nat) s').2=x:=⟨(Zat ops (s'.known.length:Nat) s').2.toNat,by omega⟩
  have hxl:x < s'.known.length:=by omega
  obtain⟨kv,lk,lk4,_,lx⟩:=hU.known2 k4 (by simp) (by simp) hxl
  rw [hx] at c4
  have oG4:Zeu T' 11 m4 fb _ _:=Zeu.keep ⟨fG,oGo,tG⟩ k4 Ag.refl (by simp)
  have sG4:=sG.keep k4 Ag.refl (by simp)
  obtain⟨fG4,oG4o,tG4⟩:=oG4
  have lf4:=oG4o.load1 (off:=2) rfl
  have lf4n:=(oG4o.ln [.int .i64 (s'.known.getD x 0)] 3 2 1).trans lf4
  have hxi:(x:Int)≤9223372036854775807:=by omega
  have hxl':(x:Int) < s'.known.length:=by omega
  have eA:Zbc ops s'=((Zat ops (s'.known.length:Nat) s').1,s'.known.getD x 0):=by unfold Zbc;rw [hx];rfl
  obtain⟨y,hy⟩:∃ y,s'.known.getD x 0=y:=⟨_,rfl⟩
  rw [hy] at lx eA lf4n
  rw [← hj,Zft,eA] at hL
  simp [-Int.natCast_add,-w21_6,Za u22 bs3 rfl,Zbb u22 sz3,hk1,lf,lk,ln,c4,hxi,hxl,lx]
  generalize hrc:Zak _ _ _ _ _ _=rc
  obtain⟨m5,b5,T5,rfl,s5,a5,k5,_⟩:=Z4l hrc u22 ap3 sG4 (by omega) (by simp) (by simp [Zau]) (by omega) (by omega)
  clear hrc
  have oG5:Zeu T5 11 m5 fb _ _:=Zeu.keep ⟨fG4,oG4o,tG4⟩ k5 a5 (by simp)
  simp [-Int.natCast_add,-w21_6]
  generalize hrd:Zad _ _ _=rd
  obtain⟨m6,rfl,oG6,k6⟩:=Zdh hrd oG5 (by simp) (by simp [Zae])
  clear hrd
  simp [Zbx] at oG6
  simp [-Int.natCast_add,-w21_6,Zde _ _ (Zox _ _),lf,lf4,lf4n,lk,lk4,ln,lx,wk]
  have aG5:Ag T T5 m:=aG.trans (Ag.trans Ag.refl a5 k4.le) kG.le
  refine ih _ [(0,.pointer (some ⟨ub,0,none⟩)),(1,.pointer (some ⟨nx,0,none⟩)),(2,.pointer (some ⟨kb,0,none⟩)),(4,.pointer (some ⟨fb,0,none⟩)),(5,.int .i64 (j:Int))] _ _ ⟨j,(Zat ops (s'.known.length:Nat) s').1,locs++[y],T5,some ⟨b5,0,none⟩,rfl,(hU4.keep (is:=[12]) (k5.mono (by simp)) a5 (by simp)).keep (is:=[11]) k6 Ag.refl (by simp),(hC4.keep k5 a5 (by simp) (by simp)).keep k6 Ag.refl (by simp) (by simp),by simpa using oG6,by simpa using s5.keep k6 Ag.refl (by simp),aG5,?_,hL,z1.trans ek,z2.trans es,z7,by simp;omega,rfl⟩ (by omega) (by repeat' constructor)
  exact ((kG.trans aG (k4.mono (by simp))).trans (aG.trans Ag.refl kG.le) (k5.mono (by simp))).trans aG5 (k6.mono (by simp))
end Go.Proofs.YtcgmchechmbmeaaDoor.base
end
section
set_option maxRecDepth 100000
namespace Go.Proofs.YtcgmchechmbmeaaDoor.base
open Go.Sh gen
variable {S:Zb4}{T T':Tg}{m m1 m2:Mem}{is js:List Nat}{ub kb bb ab rb nx px sx:Nat}{ops sh:List Int}{n:Int}{s:Us}
theorem Zeu.re {b e i:Nat}{cells:List Value}(h:Zeu T i m b cells e)(r:∀ f,T f=i→T' f=i):Zeu T' i m b cells e:=by
 obtain⟨fam,o,t⟩:=h
 exact⟨fam,o,r _ t⟩
theorem SlT.re {ao:Option Addr}{n e z i:Nat}{cells:List Value}(h:SlT T i m ao n cells e z)(r:∀ f,T f=i→T' f=i):SlT T' i m ao n cells e z:=by
 obtain⟨fam,o,t⟩:=h
 exact⟨fam,o,fun hn=>r _ (t hn)⟩
theorem SrT.re {ao:Option Addr}{n e z i:Nat}{cells:List Value}(h:SrT T i m ao n cells e z)(r:∀ f,T f=i→T' f=i):SrT T' i m ao n cells e z:=by
 obtain⟨fam,o,t⟩:=h
 exact⟨fam,o,fun hn=>r _ (t hn)⟩
theorem Zpf {ao:Option Addr}{l:List Int}(h:Zah (DQ T m) m ao l)(r:∀ f,T f=0→T' f=0):Zah (DQ T' m) m ao l:=by
 obtain⟨f,hr,hq⟩:=h
 exact⟨f,hr,fun hz=>⟨r _ (hq hz).1,(hq hz).2⟩⟩
theorem Ziq.re {e i:Nat}{t:Ty}{l:List t.D}{ao:Option Addr}(h:Ziq T m e t l ao i)(r:∀ f,T f=i→T' f=i)(r0:∀ f,T f=0→T' f=0):Ziq T' m e t l ao i:=by
 obtain⟨css,h1,h2,h3⟩:=h
 exact⟨css,h1,fun j d c hd hc=>(h2 j d c hd hc).mono (fun f hq=>⟨r0 _ hq.1,hq.2⟩),h3.re r⟩
theorem AtT.re {ab x:Nat}(h:AtT T m ab x)(r:∀ f,T f=9→T' f=9):AtT T' m ab x:=h.imp id (fun o=>o.re r)
theorem UC.re (h:UC T m ub kb bb ab rb nx px sx ops sh n)(r:∀ f,T f=10→T' f=10)(r0:∀ f,T f=0→T' f=0):UC T' m ub kb bb ab rb nx px sx ops sh n:=by
 obtain⟨oa,sa,r1,r2,r3⟩:=h.r
 exact⟨⟨oa,sa,r1.re r,Zpf r2 r0,Zpf r3 r0⟩,h.cn.re r,h.cp.re r,h.cs.re r,h.z⟩
def Zb6 (e c:Int)(next:List Int)(st:Int)(s:Us):Us:={ s with blks:=s.blks++[(s.bv,e,c,next,s.bp,st,())],bv:=[],bp:=[] }
set_option maxHeartbeats 2000000 in
theorem Zzw (hN:Nq S)(hT:∀ f,T f≤10)(h:UM T m ub kb bb ab s)(hc:UC T m ub kb bb ab rb nx px sx ops sh n)(hbl:s.blks.length≤1000){e c st:Int}{next:List Int}{na:Option Addr}(hd:Zah (DQ T m) m na next) :
  ∃ v m1,Zaq Tryd.prog TT S 23 [.agg #[.slice none 0 0,.int .i64 e,.int .i64 c,.slice na next.length next.length,.slice none 0 0,.int .i64 st],.pointer (some ⟨bb,0,none⟩),.pointer (some ⟨ub,0,none⟩)] m=some (v,m1)∧v=.int .i64 (s.blks.length:Nat)∧∃ T',UM T' m1 ub kb bb ab (Zb6 e c next st s)∧UC T' m1 ub kb bb ab rb nx px sx ops sh n∧(∀ f,f < m.next→T f≠8→T' f=T f)∧KT T [1,3,7,8,11] m m1∧∀ f,T' f≤10:=by
 obtain⟨T1,a1,o1,k1,n1,t1⟩:=Znh (m:=m) T 11 (cs:=[.slice none 0 0,.int .i64 e,.int .i64 c,.slice na next.length next.length,.slice none 0 0,.int .i64 st]) (e:=36) rfl
 have kt1:KT T [] m (m.new [.slice none 0 0,.int .i64 e,.int .i64 c,.slice na next.length next.length,.slice none 0 0,.int .i64 st] 36):=KT.of k1
 have h1:=h.keep kt1 a1 (by simp)
 have hd1:=Zan hd kt1 a1 (by simp)
 have hc1:=hc.keep kt1 a1 (by simp) (by simp)
 obtain⟨va,ba,sa,u1,u2,u3,u4⟩:=h1.u
 obtain⟨ka,q1,q2⟩:=h1.k
 obtain⟨va',pa,b1,b2,b3⟩:=h1.b
 refine Zhk 5 [] k23 hN.f5 rfl ?_
 simp [-Int.natCast_add,-w23_1,Zbn b36]
 obtain⟨xb,hxb⟩:∃ xb,m.next=xb:=⟨_,rfl⟩
 rw [hxb] at o1 ⊢
 generalize m.new _ _=m1 at *
 obtain⟨fb,ob,tb⟩:=b1
 have l0:=ob.load1 (off:=0) rfl
 have l4:=ob.load1 (off:=4) rfl
 simp [-Int.natCast_add,-w23_2,l0]
 generalize hra:Zad _ _ _=ra
 obtain⟨m2,rfl,o2,k2⟩:=Zdh hra o1 (by simp) (by simp [Zae])
 clear hra
 simp [Zbx] at o2
 have b12:Zeu T1 7 m2 bb _ _:=Zeu.keep ⟨fb,ob,tb⟩ k2 Ag.refl (by simp)
 obtain⟨fb2,ob2,tb2⟩:=b12
 have l42:=ob2.load1 (off:=4) rfl
 simp [-Int.natCast_add,-w23_3,l42]
 generalize hrb:Zad _ _ _=rb'
 obtain⟨m3,rfl,o3,k3⟩:=Zdh hrb o2 (by simp) (by simp [Zae])
 clear hrb
 simp [Zbx] at o3
 have k13:KT T1 [11] m1 m3:=k2.trans Ag.refl k3
 obtain⟨T3,hT3⟩:∃ T3:Tg,T3=fun f=>if T1 f≤10∧T1 f≠8 then T1 f else 0:=⟨_,rfl⟩
 have re:∀ i,i≤10→i≠8→∀ f,T1 f=i→T3 f=i:=fun i h1 h2 f hf=>by rw [hT3];simp only [hf];exact if_pos ⟨h1,h2⟩
 have re8:∀ f,T1 f=8→T3 f=0:=fun f hf=>by rw [hT3];simp only [hf];rfl
 have reb:∀ f,T3 f≤10:=fun f=>by
  rw [hT3];simp only
  split
  ·rename_i h;exact h.1
  ·omega
 have hc3:=(hc1.keep k13 Ag.refl (by simp) (by simp)).re (re 10 (by omega) (by omega)) (re 0 (by omega) (by omega))
 have u13:=(u1.keep k13 Ag.refl (by simp)).re (re 1 (by omega) (by omega))
 have u23:=(u2.keep k13 Ag.refl (by simp) (by simp)).re (re 2 (by omega) (by omega)) (re 0 (by omega) (by omega))
 have u33:=(u3.keep k13 Ag.refl (by simp) (by simp)).re (re 3 (by omega) (by omega)) (re 0 (by omega) (by omega))
 have u43:=(u4.keep k13 Ag.refl (by simp) (by simp)).re (re 4 (by omega) (by omega)) (re 0 (by omega) (by omega))
 have q13:=(q1.keep k13 Ag.refl (by simp)).re (re 5 (by omega) (by omega))
 have q23:=(q2.keep k13 Ag.refl (by simp)).re (re 6 (by omega) (by omega))
 have oA3:=(h1.a.keep k13 Ag.refl (by simp)).re (re 9 (by omega) (by omega))
 have b13:Zeu T3 7 m3 bb _ _:=((Zeu.keep ⟨fb,ob,tb⟩ k13 Ag.refl (by simp))).re (re 7 (by omega) (by omega))
 have b33:=Zpf (Zan b3 k13 Ag.refl (by simp)) (re 0 (by omega) (by omega))
 have hd3:=Zpf (Zan hd1 k13 Ag.refl (by simp)) (re 0 (by omega) (by omega))
 have b23:Zah (DQ T3 m3) m3 va' s.bv:=by
  obtain⟨bf,sl,tl⟩:=b2.keep k13 Ag.refl (by simp)
  refine⟨bf,Zp1 sl.rs,fun hz=>?_⟩
  have hne:va'≠none:=by
   obtain⟨_,e,_⟩:=sl.own hz
   rw [e];simp
  exact⟨re8 _ (tl hne),sl.sr.flt hne⟩
 obtain⟨fu,ou,tu⟩:=u13
 obtain⟨fx,ox,tx⟩:=o3
 have lu:=ou.load1 (off:=3) rfl
 have lx:loadRow m3 ⟨xb,0,none⟩ 6=_:=ox.load (off:=0) 6 (by simp)
 simp only [Zao,List.drop_zero,List.take_succ_cons,List.take_zero] at lx
 simp [-Int.natCast_add,-w23_4,Za u26 Z9t rfl,Zbb u26 Z76,lu,lx]
 generalize hrc:Zak _ _ _ _ _ _=rc
 have dB:AtI (DQ T3 m3) m3 Zct (s.bv,e,c,next,s.bp,st,()) [.slice va' s.bv.length s.bv.length,.int .i64 e,.int .i64 c,.slice na next.length next.length,.slice pa s.bp.length s.bp.length,.int .i64 st]:=
  ⟨[_],_,rfl,Zea b23,[_],_,rfl,rfl,[_],_,rfl,rfl,[_],_,rfl,Zea hd3,[_],_,rfl,Zea b33,[_],[],rfl,rfl,rfl⟩
 obtain⟨m4,b4,T4,rfl,r4,a4,k4,t4⟩:=Ziq.app (c:=[.slice va' s.bv.length s.bv.length,.int .i64 e,.int .i64 c,.slice na next.length next.length,.slice pa s.bp.length s.bp.length,.int .i64 st]) u33 (by omega) dB hrc u26 Z9q (by simp [Zau,Zae]) (by omega) (by omega)
 clear hrc
 have u4':Zeu T4 1 m4 ub _ _:=Zeu.keep ⟨fu,ou,tu⟩ k4 a4 (by simp)
 simp [-Int.natCast_add,-w23_4]
 generalize hrd:Zad _ _ _=rd
 obtain⟨m5,rfl,u5,k5⟩:=Zdh hrd u4' (by simp) (by simp [Zae])
 clear hrd
 simp [Zbx] at u5
 have b15:Zeu T4 7 m5 bb _ _:=(b13.keep k4 a4 (by simp)).keep k5 Ag.refl (by simp)
 simp [-Int.natCast_add,-w23_5,Zax Zy0]
 generalize hre:Zad _ _ _=re'
 obtain⟨m6,rfl,b6,k6⟩:=Zdh hre b15 (by simp) (by simp [Zau,Zae])
 clear hre
 simp [Zbx] at b6
 have u6:=u5.keep k6 Ag.refl (by simp)
 have u6c:=u6
 obtain⟨fu6,ou6,tu6⟩:=u6
 have lu6:=ou6.load1 (off:=3) rfl
 obtain⟨N,hN1⟩:∃ N,s.blks.length+1=N:=⟨_,rfl⟩
 rw [hN1] at lu6
 have wN:IntKind.i64.wrap ((N:Int) - 1)=(s.blks.length:Int):=by rw [Zab (by omega) (by omega)];omega
 simp [-Int.natCast_add,lu6,wN]
 have k36:KT T3 [1,3,7] m3 m6:=((k4.mono (by simp)).trans a4 (k5.mono (by simp))).trans (Ag.trans a4 Ag.refl k4.le) (k6.mono (by simp))
 have k03:KT T [11] m m3:=(kt1.mono (by simp)).trans a1 k13
 refine⟨T4,⟨⟨va,some ⟨b4,0,none⟩,sa,?_,((u23.keep k4 a4 (by simp) (by simp)).keep k5 Ag.refl (by simp) (by simp)).keep k6 Ag.refl (by simp) (by simp),(r4.keep k5 Ag.refl (by simp) (by simp)).keep k6 Ag.refl (by simp) (by simp),((u43.keep k4 a4 (by simp) (by simp)).keep k5 Ag.refl (by simp) (by simp)).keep k6 Ag.refl (by simp) (by simp)⟩,⟨ka,((q13.keep k4 a4 (by simp)).keep k5 Ag.refl (by simp)).keep k6 Ag.refl (by simp),((q23.keep k4 a4 (by simp)).keep k5 Ag.refl (by simp)).keep k6 Ag.refl (by simp)⟩,⟨none,none,b6,⟨0,Sl.nil _ _ _ _,by simp⟩,⟨0,⟨by simp [Zb6],Or.inl ⟨rfl,.nil⟩⟩,by simp [Zb6]⟩⟩,((oA3.keep k4 a4 (by simp)).keep k5 Ag.refl (by simp)).keep k6 Ag.refl (by simp)⟩,((hc3.keep k4 a4 (by simp) (by simp)).keep k5 Ag.refl (by simp) (by simp)).keep k6 Ag.refl (by simp) (by simp),fun f hf h8=>?_,?_,fun f=>?_⟩
 ·simpa [Zb6] using u6c
 ·have e1:=a1 f (by omega)
  have e3:T3 f=T1 f:=re (T1 f) (by rw [e1];exact hT f) (by rw [e1];exact h8) f rfl
  rw [a4 f (by have:=k03.le;omega),e3,e1]
 ·obtain⟨fs,kk,hf⟩:=k03
  obtain⟨gs,kk2,hg⟩:=k36
  refine⟨fs++gs,(kk.mono (fun q hq=>List.mem_append_left _ hq)).trans (kk2.mono (fun q hq=>List.mem_append_right _ hq)),fun f hm hl=>?_⟩
  rcases List.mem_append.1 hm with hm | hm
  ·have:=hf f hm (by omega);simp at this;simp [this]
  ·have h3:=hg f hm (by have:=kk.1;omega)
   have e1:=a1 f (by omega)
   by_cases h8:T f=8
   ·simp [h8]
   ·have e3:T3 f=T1 f:=re (T1 f) (by rw [e1];exact hT f) (by rw [e1];exact h8) f rfl
    rw [e3,e1] at h3
    simp at h3 ⊢
    omega
 ·have:=t4 f
  have:=reb f
  omega
end Go.Proofs.YtcgmchechmbmeaaDoor.base
end
