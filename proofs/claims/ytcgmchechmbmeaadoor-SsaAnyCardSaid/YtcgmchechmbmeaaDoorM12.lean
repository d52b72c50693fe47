/- This text proves what the parts of turnstonehand.Unit do, Zbx the abstract run: row, one value. Condition: nothing is known of the calls ahead ('S f = []'). -/
import Derived.Test.YtcgmchechmbmeaaDoorM11
set_option linter.unusedVariables false
set_option linter.unusedSimpArgs false
section
set_option maxRecDepth 100000
namespace Go.Proofs.YtcgmchechmbmeaaDoor.base
open Go.Sh gen
variable {S:Zb4}{T T':Tg}{m m1 m2:Mem}{is js:List Nat}{ub kb bb ab rb nx px sx:Nat}{ops sh:List Int}{n:Int}{s s1:Us}
theorem Zt3 {l e e' fam fam':Nat}{c c':List Value}(h:Own m l c e fam)(k:Own m l c' e' fam'):c=c':=by
 have:=h.blk
 rw [k.blk] at this
 simp only [Option.some.injEq,Blk.mk.injEq] at this
 exact this.1.symm
theorem UM.kn (h:UM T m ub kb bb ab s)(h1:UM T' m1 ub kb bb ab s1)(k:KT T is m m1)(a:Ag T T' m)(hi:5∉is)(e:s1.known=s.known)(hT:∀ f,T' f≤10)(hl:s.known.length≤1000)(v:Int):∃ ka,loadRow m ⟨kb,0,none⟩ 1=some [.slice ka s.known.length s.known.length]∧loadRow m1 ⟨kb,0,none⟩ 1=some [.slice ka s.known.length s.known.length]∧
  loadRow (m1.new [.int .i64 v] 3) ⟨kb,0,none⟩ 1=some [.slice ka s.known.length s.known.length]∧
  ∃ m2 ka2 m3 T2,Zak Tryd.prog 22 (m1.new [.int .i64 v] 3) (.slice ka s.known.length s.known.length) [.int .i64 v] 1=some (.slice ka2 (s.known.length+1) (s.known.length+1),m2)∧loadRow m2 ⟨kb,0,none⟩ 1=some [.slice ka s.known.length s.known.length]∧
   Zad m2 ⟨kb,0,none⟩ [.slice ka2 (s.known.length+1) (s.known.length+1)]=some m3∧UM T2 m3 ub kb bb ab { s1 with known:=s.known++[v] }∧Ag T' T2 m1∧KT T' [5,6] m1 m3∧∀ f,T2 f≤10:=by
 obtain⟨ka0,q1,q2⟩:=h.k
 obtain⟨ka,q11,q12⟩:=h1.k
 have q13:=q1.keep k a hi
 obtain⟨f0,o0,_⟩:=q1
 obtain⟨f1,o1,t1⟩:=q11
 obtain⟨f3,o3,_⟩:=q13
 have ec:=Zt3 o1 o3
 rw [e] at ec o1 q12
 have eka:ka=ka0:=by simpa using ec
 subst eka
 obtain⟨va,ba,sa,u1,u2,u3,u4⟩:=h1.u
 obtain⟨va',pa,b1,b2,b3⟩:=h1.b
 obtain⟨m2,ka2,T2,e2,r2,hne,a2,k2,w2⟩:=Z2l (m:=m1) (k:=1) (news:=[.int .i64 v]) (cs:=[.int .i64 v]) (e0:=3) rfl u22 ap3 q12 (by omega) (by simp) (by simp [Zau]) (by omega) (by omega)
 obtain⟨f2,o2,t2⟩:Zeu T2 5 m2 kb _ _:=Zeu.keep ⟨f1,o1,t1⟩ k2 a2 (by simp)
 obtain⟨m3,e3,o3',k3⟩:=Zdh (vs:=[.slice ka2 (s.known.length+1) (s.known.length+1)]) (off:=0) rfl (⟨f2,o2,t2⟩:Zeu T2 5 m2 kb _ _) (by simp) (by simp [Zae])
 simp [Zbx] at o3'
 refine⟨ka,o0.load1 (off:=0) rfl,o1.load1 (off:=0) rfl,(o1.ln _ _ 0 1).trans (o1.load1 (off:=0) rfl),m2,ka2,m3,T2,e2,o2.load1 (off:=0) rfl,e3,⟨⟨va,ba,sa,(u1.keep k2 a2 (by simp)).keep k3 Ag.refl (by simp),(u2.keep k2 a2 (by simp) (by simp)).keep k3 Ag.refl (by simp) (by simp),(u3.keep k2 a2 (by simp) (by simp)).keep k3 Ag.refl (by simp) (by simp),(u4.keep k2 a2 (by simp) (by simp)).keep k3 Ag.refl (by simp) (by simp)⟩,⟨ka2,by simpa using o3',by simpa using r2.keep k3 Ag.refl (by simp)⟩,⟨va',pa,(b1.keep k2 a2 (by simp)).keep k3 Ag.refl (by simp),(b2.keep k2 a2 (by simp)).keep k3 Ag.refl (by simp),Zan (Zan b3 k2 a2 (by simp)) k3 Ag.refl (by simp)⟩,(h1.a.keep k2 a2 (by simp)).keep k3 Ag.refl (by simp)⟩,a2,(k2.mono (by simp)).trans a2 (k3.mono (by simp)),fun f=>by have:=hT f;have:=w2 f;omega⟩
structure Bd (ops:List Int)(s:Us):Prop where
 k1:1≤s.known.length
 k2:s.known.length≤s.vals.length
 b:s.bv.length≤s.vals.length
 st:s.sts.length≤s.vals.length+s.blks.length
 a:s.at_≤ops.length
def knP (d:Za9.D)(s:Us):Us:={ Zbu d s with known:=s.known++[(s.vals.length:Int)] }
def Zd0 (ops:List Int)(a b:Int)(k:Int)(s:Us):Us:=
 if k < 12 then knP (3+k,a,b,0,[],0,()) s
 else if k=12 then knP (2,0,0,(Zat ops 1048576 s).2 - 9,[],0,()) (Zat ops 1048576 s).1
 else if k=13 then knP (17,a,0,(Zat ops 5 s).2,[],0,()) (Zat ops 5 s).1
 else if k=14 then knP (18,a,b,0,[],0,()) s
 else if k=15 then Zbu (19,a,b,(Zat ops 5 s).2,[],0,()) (Zat ops 5 s).1
 else if k=16 then Zbu (20,a,b,0,[(Zbc ops s).2],0,()) (Zbc ops s).1
 else if k=17 then Zbu (22,a,0,0,[],(Zac ops s).2,()) (Zac ops s).1
 else if k=18 then Zbu (23,0,0,0,[],(Zac ops s).2,()) (Zac ops s).1
 else knP (15+(Zat ops 2 s).2,a,0,0,[],0,()) (Zat ops 2 s).1
def Z8d (ops:List Int)(s:Us):Us:=
 Zd0 ops (Zbc ops s).2 (Zbc ops (Zbc ops s).1).2 (Zat ops 20 (Zbc ops (Zbc ops s).1).1).2 (Zat ops 20 (Zbc ops (Zbc ops s).1).1).1
def Zgf (ops:List Int):Nat→Us→Us
 | 0,s=>s
 | i+1,s=>if s.vals.length < 200 then Zgf ops i (Z8d ops s) else s
def Zgv (ops:List Int)(s:Us):Us:=Zgf ops (1+(Zat ops 6 s).2.toNat) (Zat ops 6 s).1
theorem Bd.next (h:Bd ops s)(k:Int):Bd ops (Zat ops k s).1:=by
 obtain⟨q1,q2,q3,q4,q5,q6⟩:=Za5 (ops:=ops) (s:=s) k
 have q7:=Zpa k h.a
 exact⟨by rw [q1];exact h.k1,by rw [q1,q3];exact h.k2,by rw [q4,q3];exact h.b,by rw [q2,q3,q5];exact h.st,q7⟩
theorem Bd.put (h:Bd ops s)(d:Za9.D):Bd ops (Zbu d s):=⟨h.k1,by simp [Zbu];have:=h.k2;omega,by simp [Zbu];exact h.b,by simp [Zbu];have:=h.st;omega,h.a⟩
theorem Bd.kn (h:Bd ops s)(d:Za9.D):Bd ops (knP d s):=⟨by simp [knP,Zbu],by simp [knP,Zbu];exact h.k2,by simp [knP,Zbu];exact h.b,by simp [knP,Zbu];have:=h.st;omega,h.a⟩
theorem Zfg (h:Bd ops s):Bd ops (Zbc ops s).1:=h.next _
theorem Z1d (k:Nat):∀ {s:Us} {l:List Int},Bd ops s→Bd ops (Zft ops k s l).1∧(Zft ops k s l).1.vals=s.vals∧(Zft ops k s l).1.sts=s.sts∧(Zft ops k s l).1.known=s.known∧(Zft ops k s l).1.blks=s.blks∧(Zft ops k s l).1.bv=s.bv:=by
 induction k with
 | zero=>intro s l h;exact⟨h,rfl,rfl,rfl,rfl,rfl⟩
 | succ k ih =>
  intro s l h
  obtain⟨q1,q2,q3,q4,q5,q6⟩:=Za5 (ops:=ops) (s:=s) (s.known.length:Nat)
  obtain⟨h1,h2,h3,h4,h5,h6⟩:=ih (l:=l++[(Zbc ops s).2]) (Zfg h)
  rw [Zft]
  exact⟨h1,h2.trans q3,h3.trans q2,h4.trans q1,h5.trans q5,h6.trans q4⟩
theorem Zcy (h:Bd ops s)(d:Za9.D):Bd ops (Zbu d (Zac ops s).1)∧(Zac ops s).1.vals=s.vals∧(Zac ops s).1.known=s.known∧(Zac ops s).1.bv=s.bv∧(Zac ops s).1.blks=s.blks∧(Zac ops s).1.sts.length=s.sts.length+1∧(Zac ops s).1.at_≤ops.length:=by
 obtain⟨h1,h2,h3,h4,h5,h6⟩:=Z1d (ops:=ops) (Zat ops 4 s).2.toNat (s:=(Zat ops 4 s).1) (l:=[]) (h.next 4)
 obtain⟨q1,q2,q3,q4,q5,q6⟩:=Za5 (ops:=ops) (s:=s) 4
 have e1:=h2.trans q3
 have e2:=h4.trans q1
 have e3:=h6.trans q4
 have e4:=h5.trans q5
 have e5:=h3.trans q2
 refine⟨⟨?_,?_,?_,?_,?_⟩,e1,e2,e3,e4,?_,?_⟩
 ·simp only [Zbu,Zac,e2];exact h.k1
 ·simp only [Zbu,Zac,e2,e1,List.length_append,List.length_cons,List.length_nil];have:=h.k2;omega
 ·simp only [Zbu,Zac,e3,e1,List.length_append,List.length_cons,List.length_nil];have:=h.b;omega
 ·simp only [Zbu,Zac,e5,e1,e4,List.length_append,List.length_cons,List.length_nil];have:=h.st;omega
 ·exact h1.a
 ·simp only [Zac,e5,List.length_append,List.length_cons,List.length_nil]
 ·exact h1.a
end Go.Proofs.YtcgmchechmbmeaaDoor.base
end
section
set_option maxRecDepth 100000
namespace Go.Proofs.YtcgmchechmbmeaaDoor.base
open Go.Sh gen
variable {S:Zb4}{T T':Tg}{m m1 m2:Mem}{is js:List Nat}{ub kb bb ab rb nx px sx:Nat}{ops sh:List Int}{n:Int}{s s1:Us}
theorem UM.kl (h:UM T m ub kb bb ab s)(k:KT T is m m1)(h5:5∉is):loadRow m1 ⟨kb,0,none⟩ 1=loadRow m ⟨kb,0,none⟩ 1:=by
 obtain⟨ka,q1,_⟩:=h.k
 obtain⟨f1,o1,_⟩:=q1.keep k Ag.refl h5
 obtain⟨f0,o0,_⟩:=q1
 exact (o1.load1 (off:=0) rfl).trans (o0.load1 (off:=0) rfl).symm
theorem UC.ln (h:UC T m ub kb bb ab rb nx px sx ops sh n):loadRow m ⟨nx,0,none⟩ 1=some [.func (.func 20) #[] #[.pointer (some ⟨ab,0,none⟩),.pointer (some ⟨rb,0,none⟩)]]:=by
 obtain⟨f,o,_⟩:=h.cn
 exact o.load1 (off:=0) rfl
theorem UC.lp (h:UC T m ub kb bb ab rb nx px sx ops sh n):loadRow m ⟨px,0,none⟩ 1=some [.func (.func 19) #[] #[.pointer (some ⟨ub,0,none⟩),.pointer (some ⟨bb,0,none⟩)]]:=by
 obtain⟨f,o,_⟩:=h.cp
 exact o.load1 (off:=0) rfl
theorem UC.ls (h:UC T m ub kb bb ab rb nx px sx ops sh n):loadRow m ⟨sx,0,none⟩ 1=some [.func (.func 21) #[] #[.pointer (some ⟨ub,0,none⟩),.pointer (some ⟨nx,0,none⟩),.pointer (some ⟨kb,0,none⟩)]]:=by
 obtain⟨f,o,_⟩:=h.cs
 exact o.load1 (off:=0) rfl
theorem UC.l3 (h:UC T m ub kb bb ab rb nx px sx ops sh n)(v:Int):loadRow (m.new [.int .i64 v] 3) ⟨px,0,none⟩ 1=some [.func (.func 19) #[] #[.pointer (some ⟨ub,0,none⟩),.pointer (some ⟨bb,0,none⟩)]]:=by
 obtain⟨f,o,_⟩:=h.cp
 exact (o.ln _ _ 0 1).trans (o.load1 (off:=0) rfl)
theorem Zdj {Q:Nat→Prop}:Zah Q m none []:=⟨0,⟨rfl,Or.inl ⟨rfl,.nil⟩⟩,by simp⟩
theorem Zoq (hN:Nq S)(h:UM T m ub kb bb ab s)(hc:UC T m ub kb bb ab rb nx px sx ops sh n)(hb:Bd ops s)(hol:ops.length≤9223372036854775807)(hk:s.known.length≤1000) :
  ∃ m1 kv x,Zaq Tryd.prog TT S 20 [.int .i64 (s.known.length:Nat),.pointer (some ⟨ab,0,none⟩),.pointer (some ⟨rb,0,none⟩)] m=some (.int .i64 (x:Nat),m1)∧x < s.known.length∧UM T m1 ub kb bb ab (Zbc ops s).1∧UC T m1 ub kb bb ab rb nx px sx ops sh n∧KT T [9] m m1∧
   loadRow m ⟨kb,0,none⟩ 1=some [.slice (some ⟨kv,0,none⟩) s.known.length s.known.length]∧loadRow m1 ⟨kb,0,none⟩ 1=some [.slice (some ⟨kv,0,none⟩) s.known.length s.known.length]∧loadRow m1 ⟨kv,x,none⟩ 1=some [.int .i64 (Zbc ops s).2]∧(Zbc ops s).1.known=s.known∧(Zbc ops s).1.vals=s.vals∧(Zbc ops s).1.blks=s.blks:=by
 have h1:=hb.k1
 obtain⟨v1,m1,c1,rfl,hU1,hC1,k1⟩:=Zes hN h hc hb.a hol (k:=(s.known.length:Nat)) (by omega) (by omega)
 have z0:=Zco (ops:=ops) (s:=s) (k:=(s.known.length:Nat)) (by omega)
 obtain⟨z1,z2,z3,z4,z5,z6⟩:=Za5 (ops:=ops) (s:=s) (s.known.length:Nat)
 obtain⟨x,hx⟩:∃ x:Nat,(Zat ops (s.known.length:Nat) s).2=x:=⟨(Zat ops (s.known.length:Nat) s).2.toNat,by omega⟩
 have hxl:x < s.known.length:=by omega
 obtain⟨kv,lk,lk4,_,lx⟩:=h.known2 k1 (by simp) (by simp) hxl
 rw [hx] at c1
 have eA:(Zbc ops s).2=s.known.getD x 0:=by unfold Zbc;rw [hx];rfl
 exact⟨m1,kv,x,c1,hxl,hU1,hC1,k1,lk,lk4,by rw [eA];exact lx,z1,z3,z5⟩
set_option maxHeartbeats 8000000 in
theorem Z1s (hN:Nq S)(hT:∀ f,T f≤10)(h:UM T m ub kb bb ab s)(hc:UC T m ub kb bb ab rb nx px sx ops sh n)(hol:ops.length≤9223372036854775807)(hb:Bd ops s)(hv:s.vals.length≤600)(hbl:s.blks.length≤300) :
  ∃ v m1,Zaq Tryd.prog TT S 22 [.pointer (some ⟨nx,0,none⟩),.pointer (some ⟨ub,0,none⟩),.pointer (some ⟨kb,0,none⟩),.pointer (some ⟨px,0,none⟩),.pointer (some ⟨sx,0,none⟩)] m=some (v,m1)∧∃ T',UM T' m1 ub kb bb ab (Zgv ops s)∧UC T' m1 ub kb bb ab rb nx px sx ops sh n∧Ag T T' m∧KT T [1,2,4,5,6,7,8,9,11,12] m m1∧(∀ f,T' f≤10)∧Bd ops (Zgv ops s)∧(Zgv ops s).vals.length≤max s.vals.length 200∧(Zgv ops s).blks=s.blks:=by
 obtain⟨v1,m1,c1,rfl,h1,hc1,k1⟩:=Zes hN h hc hb.a hol (k:=6) (by omega) (by omega)
 have q0:=Zco (ops:=ops) (s:=s) (k:=6) (by omega)
 obtain⟨q1,q2,q3,q4,q5,q6⟩:=Za5 (ops:=ops) (s:=s) 6
 obtain⟨qn,hqn⟩:∃ qn:Nat,(Zat ops 6 s).2=qn:=⟨(Zat ops 6 s).2.toNat,by omega⟩
 have eR:Zgv ops s=Zgf ops (1+qn) (Zat ops 6 s).1:=by unfold Zgv;rw [hqn];rfl
 rw [eR]
 rw [hqn] at c1
 obtain⟨I,hI⟩:∃ I,1+qn=I:=⟨_,rfl⟩
 rw [hI]
 have wI:IntKind.i64.wrap (1+(qn:Int))=(I:Int):=by rw [Zab (by omega) (by omega)];omega
 obtain⟨R,hR⟩:∃ R,Zgf ops I (Zat ops 6 s).1=R:=⟨_,rfl⟩
 rw [hR]
 refine Zhk 9 [19,48,61,73,85,96,106,122,131] k22 hN.f4 rfl ?_
 simp [-Int.natCast_add,hc.ln,c1,wI]
 refine Zag 9 [19,48,61,73,85,96,106,122,131] (fun d E mG=>∃ (i:Nat) (s':Us) (T':Tg),i=d∧i≤6∧UM T' mG ub kb bb ab s'∧UC T' mG ub kb bb ab rb nx px sx ops sh n∧(∀ f,T' f≤10)∧Bd ops s'∧s'.vals.length≤max s.vals.length 200∧s'.blks=s.blks∧Zgf ops i s'=R∧Ag T T' m∧KT T [1,2,4,5,6,7,8,9,11,12] m mG∧
  E=[(0,.pointer (some ⟨nx,0,none⟩)),(1,.pointer (some ⟨ub,0,none⟩)),(2,.pointer (some ⟨kb,0,none⟩)),(3,.pointer (some ⟨px,0,none⟩)),(4,.pointer (some ⟨sx,0,none⟩)),(5,.int .i64 (i:Int))]) _ ⟨_,⟨I,(Zat ops 6 s).1,T,rfl,by omega,h1,hc1,hT,hb.next 6,by rw [q3];omega,q5,hR,Ag.refl,k1.mono (by simp),rfl⟩,(by repeat' constructor)⟩ ?_
 rintro d E mG ih ⟨i,s',T',rfl,hi6,hU,hC,hT',hB,hvl,hbk,hL,aG,kG,rfl⟩
 have hBv:s'.vals.length≤900:=by omega
 have im:(i:Int)≤9223372036854775807∨True:=Or.inr trivial
 obtain⟨va,ba,sa,u1,u2,u3,u4⟩:=hU.u
 obtain⟨fu,ou,_⟩:=u1
 have lU:=ou.load1 (off:=2) rfl
 by_cases hi0:i=0
 ·subst hi0
  rw [Zgf] at hL
  simp [-Int.natCast_add]
  subst hL
  exact⟨T',hU,hC,aG,kG,hT',hB,hvl,hbk⟩
 obtain⟨j,hj⟩:∃ j,j+1=i:=⟨i - 1,by omega⟩
 have hi1:0 < i:=by omega
 have hi1':0 < (i:Int):=by omega
 by_cases h200:s'.vals.length < 200
 ·have h200':(s'.vals.length:Int) < 200:=by omega
  rw [← hj,Zgf,if_pos h200] at hL
  have wj:IntKind.i64.wrap ((i:Int) - 1)=(j:Int):=by rw [Zab (by omega) (by omega)];omega
  have hk1:s'.known.length≤1000:=by have:=hB.k2;omega
  obtain⟨m4,kv4,x4,c4,hx4,hU4,hC4,k4,l41,l42,l43,e41,e42,e43⟩:=Zoq hN hU hC hB hol hk1
  have hB4:=Zfg (ops:=ops) hB
  obtain⟨m5,kv5,x5,c5,hx5,hU5,hC5,k5,l51,l52,l53,e51,e52,e53⟩:=Zoq hN hU4 hC4 hB4 hol (by rw [e41];exact hk1)
  have hB5:=Zfg (ops:=ops) hB4
  obtain⟨v6,m6,c6,rfl,hU6,hC6,k6⟩:=Zes hN hU5 hC5 hB5.a hol (k:=20) (by omega) (by omega)
  have hB6:=hB5.next 20
  have z0:=Zco (ops:=ops) (s:=(Zbc ops (Zbc ops s').1).1) (k:=20) (by omega)
  obtain⟨z1,z2,z3,z4,z5,z6⟩:=Za5 (ops:=ops) (s:=(Zbc ops (Zbc ops s').1).1) 20
  have eO:Z8d ops s'=Zd0 ops (Zbc ops s').2 (Zbc ops (Zbc ops s').1).2 (Zat ops 20 (Zbc ops (Zbc ops s').1).1).2 (Zat ops 20 (Zbc ops (Zbc ops s').1).1).1:=rfl
  rw [eO] at hL
  have e6k:(Zat ops 20 (Zbc ops (Zbc ops s').1).1).1.known=s'.known:=z1.trans (e51.trans e41)
  have e6v:(Zat ops 20 (Zbc ops (Zbc ops s').1).1).1.vals=s'.vals:=z3.trans (e52.trans e42)
  have e6b:(Zat ops 20 (Zbc ops (Zbc ops s').1).1).1.blks=s'.blks:=z5.trans (e53.trans e43)
  generalize (Zat ops 20 (Zbc ops (Zbc ops s').1).1).1=s6 at *
  generalize (Zat ops 20 (Zbc ops (Zbc ops s').1).1).2=k at *
  generalize (Zbc ops (Zbc ops s').1).2=b at *
  generalize (Zbc ops s').2=a at *
  rw [e41] at c5 hx5 l51 l52
  have ekv:kv5=kv4:=by
   rw [l42] at l51
   simpa using l51.symm
  subst ekv
  have x4i:(x4:Int)≤9223372036854775807:=by omega
  have x5i:(x5:Int)≤9223372036854775807:=by omega
  have x4l:(x4:Int) < s'.known.length:=by omega
  have x5l:(x5:Int) < s'.known.length:=by omega
  simp [-Int.natCast_add,-w22_6,lU,hi1,h200',Zde _ _ (Zox _ _),hC.ln,hC4.ln,hC5.ln,c4,l41,l42,l43,x4i,hx4,c5,l52,l53,x5i,hx5,c6]
  have kG6:KT T [1,2,4,5,6,7,8,9,11,12] m m6:=((kG.trans aG (k4.mono (by simp))).trans (aG.trans Ag.refl kG.le) (k5.mono (by simp))).trans (aG.trans Ag.refl kG.le) (k6.mono (by simp))
  have fin:∀ (mX:Mem) (s'':Us) (T'':Tg),UM T'' mX ub kb bb ab s''→UC T'' mX ub kb bb ab rb nx px sx ops sh n→(∀ f,T'' f≤10)→Bd ops s''→s''.vals.length≤s6.vals.length+1→s''.blks=s6.blks→Zd0 ops a b k s6=s''→Ag T' T'' m6→KT T' [1,2,4,5,6,7,8,9,11,12] m6 mX→
    ∃ (s'':Us) (T'':Tg),UM T'' mX ub kb bb ab s''∧UC T'' mX ub kb bb ab rb nx px sx ops sh n∧(∀ f,T'' f≤10)∧Bd ops s''∧s''.vals.length≤max s.vals.length 200∧s''.blks=s.blks∧Zgf ops j s''=R∧Ag T T'' m∧KT T [1,2,4,5,6,7,8,9,11,12] m mX:=by
   intro mX s'' T'' g1 g2 g3 g4 g5 g6 g7 g8 g9
   rw [g7] at hL
   rw [e6v] at g5
   exact⟨s'',T'',g1,g2,g3,g4,by omega,g6.trans (e6b.trans hbk),hL,aG.trans g8 kG6.le,kG6.trans aG g9⟩
  apply Zxk (fun mX:Mem=>∃ (s'':Us) (T'':Tg),UM T'' mX ub kb bb ab s''∧UC T'' mX ub kb bb ab rb nx px sx ops sh n∧(∀ f,T'' f≤10)∧Bd ops s''∧s''.vals.length≤max s.vals.length 200∧s''.blks=s.blks∧Zgf ops j s''=R∧Ag T T'' m∧KT T [1,2,4,5,6,7,8,9,11,12] m mX)
  case main =>
   have w12:k < 12→IntKind.i64.wrap (3+k)=3+k:=fun h=>Zab (by omega) (by omega)
   by_cases h12:k < 12
   ·have w12:=w12 h12
    obtain⟨v7,m7,c7,rfl,T7,hU7,a7,k7,b7⟩:=Zdq hN hT' hU6 (by rw [e6v];omega) (by have:=hB6.b;rw [e6v] at this;omega) (d:=(3+k,a,b,0,[],0,())) (aa:=none) Zdj
    have c7:Zaq Tryd.prog TT S 19 [.agg #[.int .i64 (3+k),.int .i64 a,.int .i64 b,.int .i64 0,.slice none 0 0,.int .i64 0],.pointer (some ⟨ub,0,none⟩),.pointer (some ⟨bb,0,none⟩)] m6=some (.int .i64 (s6.vals.length:Nat),m7):=c7
    have hC7:=hC6.keep k7 a7 (by simp) (by simp)
    obtain⟨ka,l1,l2,l3,m8,ka2,m9,T9,e8,l4,e9,hU9,a9,k9,b9⟩:=UM.kn hU6 hU7 k7 a7 (by simp) rfl b7 (by rw [e6k];exact hk1) (s6.vals.length:Nat)
    have hC9:=hC7.keep k9 a9 (by simp) (by simp)
    have H:=fin m9 _ T9 hU9 hC9 b9 (hB6.kn (3+k,a,b,0,[],0,())) (by simp [Zbu]) rfl (by unfold Zd0;rw [if_pos h12];rfl) (a7.trans a9 k7.le) ((k7.mono (by simp)).trans a7 (k9.mono (by simp)))
    intro meth
    simp [-Int.natCast_add,-w22_22,Zax Zqw,Za u22 bs3 rfl,Zbb u22 sz3,h12,w12,Zde _ _ (Zox _ _),hC6.lp,c7,l1,l2,l3,e8,e9]
    exact Zbz (E:=[(0,.pointer (some ⟨nx,0,none⟩)),(1,.pointer (some ⟨ub,0,none⟩)),(2,.pointer (some ⟨kb,0,none⟩)),(3,.pointer (some ⟨px,0,none⟩)),(4,.pointer (some ⟨sx,0,none⟩)),(5,.int .i64 (i:Int))]) (meth m9 H) (by repeat' constructor)
   by_cases hk12:k=12
   ·have hk:=hk12
    obtain⟨v7,m7,c7,rfl,hU7,hC7,k7⟩:=Zes hN hU6 hC6 hB6.a hol (k:=1048576) (by omega) (by omega)
    have hB7:=hB6.next 1048576
    have y0:=Zco (ops:=ops) (s:=s6) (k:=1048576) (by omega)
    obtain⟨y1,y2,y3,y4,y5,y6⟩:=Za5 (ops:=ops) (s:=s6) 1048576
    have ke:Zd0 ops a b k s6=knP (2,0,0,(Zat ops 1048576 s6).2 - 9,[],0,()) (Zat ops 1048576 s6).1:=by unfold Zd0;rw [if_neg (by omega),if_pos hk]
    generalize (Zat ops 1048576 s6).1=s7 at *
    generalize (Zat ops 1048576 s6).2=x at *
    have wx:IntKind.i64.wrap (x - 9)=x - 9:=Zab (by omega) (by omega)
    obtain⟨v8,m8,c8,rfl,T8,hU8,a8,k8,b8⟩:=Zdq hN hT' hU7 (by rw [y3,e6v];omega) (by have:=hB7.b;rw [y3,e6v] at this;omega) (d:=(2,0,0,x - 9,[],0,())) (aa:=none) Zdj
    have c8:Zaq Tryd.prog TT S 19 [.agg #[.int .i64 2,.int .i64 0,.int .i64 0,.int .i64 (x - 9),.slice none 0 0,.int .i64 0],.pointer (some ⟨ub,0,none⟩),.pointer (some ⟨bb,0,none⟩)] m7=some (.int .i64 (s7.vals.length:Nat),m8):=c8
    have hC8:=hC7.keep k8 a8 (by simp) (by simp)
    have k78:KT T' [1,2,7,8,9] m6 m8:=(k7.mono (by simp)).trans Ag.refl (k8.mono (by simp))
    have a78:Ag T' T8 m6:=Ag.trans Ag.refl a8 k7.le
    obtain⟨ka,l1,l2,l3,m9,ka2,m10,T10,e9,l4,e10,hU10,a10,k10,b10⟩:=UM.kn hU6 hU8 k78 a78 (by simp) y1 b8 (by rw [e6k];exact hk1) (s7.vals.length:Nat)
    have l17:=(hU6.kl k7 (by simp)).trans l1
    have hC10:=hC8.keep k10 a10 (by simp) (by simp)
    have ke2:({ Zbu (2,0,0,x - 9,[],0,()) s7 with known:=s6.known++[((s7.vals.length:Nat):Int)] }:Us)=knP (2,0,0,x - 9,[],0,()) s7:=by unfold knP;rw [y1]
    rw [ke2] at hU10
    have H:=fin m10 _ T10 hU10 hC10 b10 (hB7.kn _) (by simp [knP,Zbu];rw [y3];omega) (by simp [knP,Zbu];exact y5) ke (a78.trans a10 k78.le) ((k78.mono (by simp)).trans a78 (k10.mono (by simp)))
    intro meth
    simp [-Int.natCast_add,-w22_22,Zax Zqw,Za u22 bs3 rfl,Zbb u22 sz3,hk,Zde _ _ (Zox _ _),hC6.lp,hC6.ln,hC7.lp,c7,c8,l1,l17,l2,l3,e9,e10,wx]
    exact Zbz (E:=[(0,.pointer (some ⟨nx,0,none⟩)),(1,.pointer (some ⟨ub,0,none⟩)),(2,.pointer (some ⟨kb,0,none⟩)),(3,.pointer (some ⟨px,0,none⟩)),(4,.pointer (some ⟨sx,0,none⟩)),(5,.int .i64 (i:Int))]) (meth m10 H) (by repeat' constructor)
   by_cases hk13:k=13
   ·have hk:=hk13
    obtain⟨v7,m7,c7,rfl,hU7,hC7,k7⟩:=Zes hN hU6 hC6 hB6.a hol (k:=5) (by omega) (by omega)
    have hB7:=hB6.next 5
    have y0:=Zco (ops:=ops) (s:=s6) (k:=5) (by omega)
    obtain⟨y1,y2,y3,y4,y5,y6⟩:=Za5 (ops:=ops) (s:=s6) 5
    have ke:Zd0 ops a b k s6=knP (17,a,0,(Zat ops 5 s6).2,[],0,()) (Zat ops 5 s6).1:=by unfold Zd0;rw [if_neg (by omega),if_neg (by omega),if_pos hk]
    generalize (Zat ops 5 s6).1=s7 at *
    generalize (Zat ops 5 s6).2=x at *
    have wx:(0:Int)=0:=rfl
    obtain⟨v8,m8,c8,rfl,T8,hU8,a8,k8,b8⟩:=Zdq hN hT' hU7 (by rw [y3,e6v];omega) (by have:=hB7.b;rw [y3,e6v] at this;omega) (d:=(17,a,0,x,[],0,())) (aa:=none) Zdj
    have c8:Zaq Tryd.prog TT S 19 [.agg #[.int .i64 17,.int .i64 a,.int .i64 0,.int .i64 x,.slice none 0 0,.int .i64 0],.pointer (some ⟨ub,0,none⟩),.pointer (some ⟨bb,0,none⟩)] m7=some (.int .i64 (s7.vals.length:Nat),m8):=c8
    have hC8:=hC7.keep k8 a8 (by simp) (by simp)
    have k78:KT T' [1,2,7,8,9] m6 m8:=(k7.mono (by simp)).trans Ag.refl (k8.mono (by simp))
    have a78:Ag T' T8 m6:=Ag.trans Ag.refl a8 k7.le
    obtain⟨ka,l1,l2,l3,m9,ka2,m10,T10,e9,l4,e10,hU10,a10,k10,b10⟩:=UM.kn hU6 hU8 k78 a78 (by simp) y1 b8 (by rw [e6k];exact hk1) (s7.vals.length:Nat)
    have l17:=(hU6.kl k7 (by simp)).trans l1
    have hC10:=hC8.keep k10 a10 (by simp) (by simp)
    have ke2:({ Zbu (17,a,0,x,[],0,()) s7 with known:=s6.known++[((s7.vals.length:Nat):Int)] }:Us)=knP (17,a,0,x,[],0,()) s7:=by unfold knP;rw [y1]
    rw [ke2] at hU10
    have H:=fin m10 _ T10 hU10 hC10 b10 (hB7.kn _) (by simp [knP,Zbu];rw [y3];omega) (by simp [knP,Zbu];exact y5) ke (a78.trans a10 k78.le) ((k78.mono (by simp)).trans a78 (k10.mono (by simp)))
    intro meth
    simp [-Int.natCast_add,-w22_22,Zax Zqw,Za u22 bs3 rfl,Zbb u22 sz3,hk,Zde _ _ (Zox _ _),hC6.lp,hC6.ln,hC7.lp,c7,c8,l1,l17,l2,l3,e9,e10]
    exact Zbz (E:=[(0,.pointer (some ⟨nx,0,none⟩)),(1,.pointer (some ⟨ub,0,none⟩)),(2,.pointer (some ⟨kb,0,none⟩)),(3,.pointer (some ⟨px,0,none⟩)),(4,.pointer (some ⟨sx,0,none⟩)),(5,.int .i64 (i:Int))]) (meth m10 H) (by repeat' constructor)
   by_cases hk14:k=14
   ·have hk:=hk14
    obtain⟨v7,m7,c7,rfl,T7,hU7,a7,k7,b7⟩:=Zdq hN hT' hU6 (by rw [e6v];omega) (by have:=hB6.b;rw [e6v] at this;omega) (d:=(18,a,b,0,[],0,())) (aa:=none) Zdj
    have c7:Zaq Tryd.prog TT S 19 [.agg #[.int .i64 18,.int .i64 a,.int .i64 b,.int .i64 0,.slice none 0 0,.int .i64 0],.pointer (some ⟨ub,0,none⟩),.pointer (some ⟨bb,0,none⟩)] m6=some (.int .i64 (s6.vals.length:Nat),m7):=c7
    have hC7:=hC6.keep k7 a7 (by simp) (by simp)
    obtain⟨ka,l1,l2,l3,m8,ka2,m9,T9,e8,l4,e9,hU9,a9,k9,b9⟩:=UM.kn hU6 hU7 k7 a7 (by simp) rfl b7 (by rw [e6k];exact hk1) (s6.vals.length:Nat)
    have hC9:=hC7.keep k9 a9 (by simp) (by simp)
    have H:=fin m9 _ T9 hU9 hC9 b9 (hB6.kn (18,a,b,0,[],0,())) (by simp [Zbu]) rfl (by unfold Zd0;rw [if_neg (by omega),if_neg (by omega),if_neg (by omega),if_pos hk];rfl) (a7.trans a9 k7.le) ((k7.mono (by simp)).trans a7 (k9.mono (by simp)))
    intro meth
    simp [-Int.natCast_add,-w22_22,Zax Zqw,Za u22 bs3 rfl,Zbb u22 sz3,hk,Zde _ _ (Zox _ _),hC6.lp,c7,l1,l2,l3,e8,e9]
    exact Zbz (E:=[(0,.pointer (some ⟨nx,0,none⟩)),(1,.pointer (some ⟨ub,0,none⟩)),(2,.pointer (some ⟨kb,0,none⟩)),(3,.pointer (some ⟨px,0,none⟩)),(4,.pointer (some ⟨sx,0,none⟩)),(5,.int .i64 (i:Int))]) (meth m9 H) (by repeat' constructor)
   by_cases hk15:k=15
   ·have hk:=hk15
    obtain⟨v7,m7,c7,rfl,hU7,hC7,k7⟩:=Zes hN hU6 hC6 hB6.a hol (k:=5) (by omega) (by omega)
    have hB7:=hB6.next 5
    obtain⟨y1,y2,y3,y4,y5,y6⟩:=Za5 (ops:=ops) (s:=s6) 5
    have ke:Zd0 ops a b k s6=Zbu (19,a,b,(Zat ops 5 s6).2,[],0,()) (Zat ops 5 s6).1:=by unfold Zd0;rw [if_neg (by omega),if_neg (by omega),if_neg (by omega),if_neg (by omega),if_pos hk]
    generalize (Zat ops 5 s6).1=s7 at *
    generalize (Zat ops 5 s6).2=x at *
    obtain⟨v8,m8,c8,rfl,T8,hU8,a8,k8,b8⟩:=Zdq hN hT' hU7 (by rw [y3,e6v];omega) (by have:=hB7.b;rw [y3,e6v] at this;omega) (d:=(19,a,b,x,[],0,())) (aa:=none) Zdj
    have c8:Zaq Tryd.prog TT S 19 [.agg #[.int .i64 19,.int .i64 a,.int .i64 b,.int .i64 x,.slice none 0 0,.int .i64 0],.pointer (some ⟨ub,0,none⟩),.pointer (some ⟨bb,0,none⟩)] m7=some (.int .i64 (s7.vals.length:Nat),m8):=c8
    have hC8:=hC7.keep k8 a8 (by simp) (by simp)
    have k78:KT T' [1,2,7,8,9] m6 m8:=(k7.mono (by simp)).trans Ag.refl (k8.mono (by simp))
    have a78:Ag T' T8 m6:=Ag.trans Ag.refl a8 k7.le
    have H:=fin m8 _ T8 hU8 hC8 b8 (hB7.put _) (by simp [Zbu];rw [y3];omega) (by simp [Zbu];exact y5) ke a78 (k78.mono (by simp))
    intro meth
    simp [-Int.natCast_add,-w22_22,Zax Zqw,hk,Zde _ _ (Zox _ _),hC6.lp,hC6.ln,hC7.lp,c7,c8]
    exact Zbz (E:=[(0,.pointer (some ⟨nx,0,none⟩)),(1,.pointer (some ⟨ub,0,none⟩)),(2,.pointer (some ⟨kb,0,none⟩)),(3,.pointer (some ⟨px,0,none⟩)),(4,.pointer (some ⟨sx,0,none⟩)),(5,.int .i64 (i:Int))]) (meth m8 H) (by repeat' constructor)
   by_cases hk16:k=16
   ·have hk:=hk16
    obtain⟨m7,kv7,x7,c7,hx7,hU7,hC7,k7,l71,l72,l73,y1,y3,y5⟩:=Zoq hN hU6 hC6 hB6 hol (by rw [e6k];exact hk1)
    have hB7:=Zfg (ops:=ops) hB6
    have ke:Zd0 ops a b k s6=Zbu (20,a,b,0,[(Zbc ops s6).2],0,()) (Zbc ops s6).1:=by unfold Zd0;rw [if_neg (by omega),if_neg (by omega),if_neg (by omega),if_neg (by omega),if_neg (by omega),if_pos hk]
    generalize (Zbc ops s6).1=s7 at *
    generalize (Zbc ops s6).2=y at *
    obtain⟨T8,a8,o8,k8,n8,t8⟩:=Znh (m:=m7) T' 0 (cs:=[.int .i64 y]) (e:=3) rfl
    have kt8:KT T' [] m7 (m7.new [.int .i64 y] 3):=KT.of k8
    have hU8:=hU7.keep kt8 a8 (by simp)
    have hC8:=hC7.keep kt8 a8 (by simp) (by simp)
    have b8:∀ f,T8 f≤10:=fun f=>by have:=hT' f;have:=t8 f;omega
    obtain⟨f8,o8o,t8o⟩:=o8
    have dy:Zah (DQ T8 (m7.new [.int .i64 y] 3)) (m7.new [.int .i64 y] 3) (some ⟨m7.next,0,none⟩) [y]:=⟨f8,Zp1 ⟨rfl,Or.inr ⟨_,rfl,o8o.rdo⟩⟩,fun _=>⟨t8o,o8o.flt⟩⟩
    obtain⟨v9,m9,c9,rfl,T9,hU9,a9,k9,b9⟩:=Zdq hN b8 hU8 (by rw [y3,e6v];omega) (by have:=hB7.b;rw [y3,e6v] at this;omega) (d:=(20,a,b,0,[y],0,())) (aa:=some ⟨m7.next,0,none⟩) dy
    have c9:Zaq Tryd.prog TT S 19 [.agg #[.int .i64 20,.int .i64 a,.int .i64 b,.int .i64 0,.slice (some ⟨m7.next,0,none⟩) 1 1,.int .i64 0],.pointer (some ⟨ub,0,none⟩),.pointer (some ⟨bb,0,none⟩)] (m7.new [.int .i64 y] 3)=some (.int .i64 (s7.vals.length:Nat),m9):=c9
    have hC9:=hC8.keep k9 a9 (by simp) (by simp)
    have k68:KT T' [9] m6 (m7.new [.int .i64 y] 3):=k7.trans Ag.refl (kt8.mono (by simp))
    have a68:Ag T' T8 m6:=Ag.trans Ag.refl a8 k7.le
    have H:=fin m9 _ T9 hU9 hC9 b9 (hB7.put _) (by simp [Zbu];rw [y3];omega) (by simp [Zbu];exact y5) ke (a68.trans a9 k68.le) ((k68.mono (by simp)).trans a68 (k9.mono (by simp)))
    have x7i:(x7:Int)≤9223372036854775807:=by rw [e6k] at hx7;omega
    have x7l:(x7:Int) < s6.known.length:=by omega
    intro meth
    simp [-Int.natCast_add,-w22_22,Zax Zqw,Za u22 bs3 rfl,hk,Zde _ _ (Zox _ _),hC6.lp,hC6.ln,hC7.lp,hC8.lp,c7,c9,l71,l72,l73,x7i,hx7]
    exact Zbz (E:=[(0,.pointer (some ⟨nx,0,none⟩)),(1,.pointer (some ⟨ub,0,none⟩)),(2,.pointer (some ⟨kb,0,none⟩)),(3,.pointer (some ⟨px,0,none⟩)),(4,.pointer (some ⟨sx,0,none⟩)),(5,.int .i64 (i:Int))]) (meth m9 H) (by repeat' constructor)
   by_cases hk17:k=17
   ·have hk:=hk17
    obtain⟨v7,m7,c7,rfl,T7,hU7,hC7,a7,k7,b7⟩:=Zkk hN hT' hU6 hC6 hB6.a hol ⟨by rw [e6k];exact hB.k1,by rw [e6k];exact hk1⟩ (by have:=hB6.st;rw [e6v,e6b,hbk] at this;omega)
    obtain⟨hB7,y3,y1,y4,y5,y6,y7⟩:=Zcy hB6 (22,a,0,0,[],(Zac ops s6).2,())
    have ke:Zd0 ops a b k s6=Zbu (22,a,0,0,[],(Zac ops s6).2,()) (Zac ops s6).1:=by unfold Zd0;rw [if_neg (by omega),if_neg (by omega),if_neg (by omega),if_neg (by omega),if_neg (by omega),if_neg (by omega),if_pos hk]
    generalize (Zac ops s6).1=s7 at *
    generalize (Zac ops s6).2=st at *
    obtain⟨v8,m8,c8,rfl,T8,hU8,a8,k8,b8⟩:=Zdq hN b7 hU7 (by rw [y3,e6v];omega) (by rw [y4];have:=hB6.b;rw [e6v] at this;omega) (d:=(22,a,0,0,[],st,())) (aa:=none) Zdj
    have c8:Zaq Tryd.prog TT S 19 [.agg #[.int .i64 22,.int .i64 a,.int .i64 0,.int .i64 0,.slice none 0 0,.int .i64 st],.pointer (some ⟨ub,0,none⟩),.pointer (some ⟨bb,0,none⟩)] m7=some (.int .i64 (s7.vals.length:Nat),m8):=c8
    have hC8:=hC7.keep k8 a8 (by simp) (by simp)
    have H:=fin m8 _ T8 hU8 hC8 b8 hB7 (by simp [Zbu];rw [y3];omega) (by simp [Zbu];exact y5) ke (a7.trans a8 k7.le) ((k7.mono (by simp)).trans a7 (k8.mono (by simp)))
    intro meth
    simp [-Int.natCast_add,-w22_22,Zax Zqw,hk,Zde _ _ (Zox _ _),Zde _ _ (Z80 _ _ _),hC6.lp,hC6.ls,hC7.lp,c7,c8]
    exact Zbz (E:=[(0,.pointer (some ⟨nx,0,none⟩)),(1,.pointer (some ⟨ub,0,none⟩)),(2,.pointer (some ⟨kb,0,none⟩)),(3,.pointer (some ⟨px,0,none⟩)),(4,.pointer (some ⟨sx,0,none⟩)),(5,.int .i64 (i:Int))]) (meth m8 H) (by repeat' constructor)
   by_cases hk18:k=18
   ·have hk:=hk18
    obtain⟨v7,m7,c7,rfl,T7,hU7,hC7,a7,k7,b7⟩:=Zkk hN hT' hU6 hC6 hB6.a hol ⟨by rw [e6k];exact hB.k1,by rw [e6k];exact hk1⟩ (by have:=hB6.st;rw [e6v,e6b,hbk] at this;omega)
    obtain⟨hB7,y3,y1,y4,y5,y6,y7⟩:=Zcy hB6 (23,0,0,0,[],(Zac ops s6).2,())
    have ke:Zd0 ops a b k s6=Zbu (23,0,0,0,[],(Zac ops s6).2,()) (Zac ops s6).1:=by unfold Zd0;rw [if_neg (by omega),if_neg (by omega),if_neg (by omega),if_neg (by omega),if_neg (by omega),if_neg (by omega),if_neg (by omega),if_pos hk]
    generalize (Zac ops s6).1=s7 at *
    generalize (Zac ops s6).2=st at *
    obtain⟨v8,m8,c8,rfl,T8,hU8,a8,k8,b8⟩:=Zdq hN b7 hU7 (by rw [y3,e6v];omega) (by rw [y4];have:=hB6.b;rw [e6v] at this;omega) (d:=(23,0,0,0,[],st,())) (aa:=none) Zdj
    have c8:Zaq Tryd.prog TT S 19 [.agg #[.int .i64 23,.int .i64 0,.int .i64 0,.int .i64 0,.slice none 0 0,.int .i64 st],.pointer (some ⟨ub,0,none⟩),.pointer (some ⟨bb,0,none⟩)] m7=some (.int .i64 (s7.vals.length:Nat),m8):=c8
    have hC8:=hC7.keep k8 a8 (by simp) (by simp)
    have H:=fin m8 _ T8 hU8 hC8 b8 hB7 (by simp [Zbu];rw [y3];omega) (by simp [Zbu];exact y5) ke (a7.trans a8 k7.le) ((k7.mono (by simp)).trans a7 (k8.mono (by simp)))
    intro meth
    simp [-Int.natCast_add,-w22_22,Zax Zqw,hk,Zde _ _ (Zox _ _),Zde _ _ (Z80 _ _ _),hC6.lp,hC6.ls,hC7.lp,c7,c8]
    exact Zbz (E:=[(0,.pointer (some ⟨nx,0,none⟩)),(1,.pointer (some ⟨ub,0,none⟩)),(2,.pointer (some ⟨kb,0,none⟩)),(3,.pointer (some ⟨px,0,none⟩)),(4,.pointer (some ⟨sx,0,none⟩)),(5,.int .i64 (i:Int))]) (meth m8 H) (by repeat' constructor)
   obtain⟨v7,m7,c7,rfl,hU7,hC7,k7⟩:=Zes hN hU6 hC6 hB6.a hol (k:=2) (by omega) (by omega)
   have hB7:=hB6.next 2
   have y0:=Zco (ops:=ops) (s:=s6) (k:=2) (by omega)
   obtain⟨y1,y2,y3,y4,y5,y6⟩:=Za5 (ops:=ops) (s:=s6) 2
   have ke:Zd0 ops a b k s6=knP (15+(Zat ops 2 s6).2,a,0,0,[],0,()) (Zat ops 2 s6).1:=by unfold Zd0;rw [if_neg (by omega),if_neg (by omega),if_neg (by omega),if_neg (by omega),if_neg (by omega),if_neg (by omega),if_neg (by omega),if_neg (by omega)]
   generalize (Zat ops 2 s6).1=s7 at *
   generalize (Zat ops 2 s6).2=x at *
   have wx:IntKind.i64.wrap (15+x)=15+x:=Zab (by omega) (by omega)
   obtain⟨v8,m8,c8,rfl,T8,hU8,a8,k8,b8⟩:=Zdq hN hT' hU7 (by rw [y3,e6v];omega) (by have:=hB7.b;rw [y3,e6v] at this;omega) (d:=(15+x,a,0,0,[],0,())) (aa:=none) Zdj
   have c8:Zaq Tryd.prog TT S 19 [.agg #[.int .i64 (15+x),.int .i64 a,.int .i64 0,.int .i64 0,.slice none 0 0,.int .i64 0],.pointer (some ⟨ub,0,none⟩),.pointer (some ⟨bb,0,none⟩)] m7=some (.int .i64 (s7.vals.length:Nat),m8):=c8
   have hC8:=hC7.keep k8 a8 (by simp) (by simp)
   have k78:KT T' [1,2,7,8,9] m6 m8:=(k7.mono (by simp)).trans Ag.refl (k8.mono (by simp))
   have a78:Ag T' T8 m6:=Ag.trans Ag.refl a8 k7.le
   obtain⟨ka,l1,l2,l3,m9,ka2,m10,T10,e9,l4,e10,hU10,a10,k10,b10⟩:=UM.kn hU6 hU8 k78 a78 (by simp) y1 b8 (by rw [e6k];exact hk1) (s7.vals.length:Nat)
   have l17:=(hU6.kl k7 (by simp)).trans l1
   have hC10:=hC8.keep k10 a10 (by simp) (by simp)
   have ke2:({ Zbu (15+x,a,0,0,[],0,()) s7 with known:=s6.known++[((s7.vals.length:Nat):Int)] }:Us)=knP (15+x,a,0,0,[],0,()) s7:=by unfold knP;rw [y1]
   rw [ke2] at hU10
   have H:=fin m10 _ T10 hU10 hC10 b10 (hB7.kn _) (by simp [knP,Zbu];rw [y3];omega) (by simp [knP,Zbu];exact y5) ke (a78.trans a10 k78.le) ((k78.mono (by simp)).trans a78 (k10.mono (by simp)))
   intro meth
   simp [-Int.natCast_add,-w22_22,Zax Zqw,Za u22 bs3 rfl,Zbb u22 sz3,h12,hk12,hk13,hk14,hk15,hk16,hk17,hk18,Zde _ _ (Zox _ _),hC6.lp,hC6.ln,hC7.lp,c7,c8,l1,l17,l2,l3,e9,e10,wx]
   exact Zbz (E:=[(0,.pointer (some ⟨nx,0,none⟩)),(1,.pointer (some ⟨ub,0,none⟩)),(2,.pointer (some ⟨kb,0,none⟩)),(3,.pointer (some ⟨px,0,none⟩)),(4,.pointer (some ⟨sx,0,none⟩)),(5,.int .i64 (i:Int))]) (meth m10 H) (by repeat' constructor)
  rintro mX ⟨s'',T'',g1,g2,g3,g4,g5,g6,g7,g8,g9⟩
  simp [-Int.natCast_add,wj]
  exact ih _ _ _ _ ⟨j,s'',T'',rfl,by omega,g1,g2,g3,g4,g5,g6,g7,g8,g9,rfl⟩ (by omega) (by repeat' constructor)
 ·have h200':¬ (s'.vals.length:Int) < 200:=by omega
  rw [← hj,Zgf,if_neg h200] at hL
  simp [-Int.natCast_add,lU,hi1,h200']
  subst hL
  exact⟨T',hU,hC,aG,kG,hT',hB,hvl,hbk⟩
end Go.Proofs.YtcgmchechmbmeaaDoor.base
end
