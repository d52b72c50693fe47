/- This text proves what the parts of turnstonehand.Unit do, Zb1 the abstract run: row. Condition: nothing is known of the calls ahead ('S f = []'). -/
import Derived.Test.YtcgmchechmbmeaaDoorM11
set_option linter.unusedVariables false
set_option linter.unusedSimpArgs false
section
set_option maxRecDepth 100000
namespace Go.Proofs.YtcgmchechmbmeaaDoor.base
open Go.Sh gen
variable {S:Zb7}{T T':Tg}{m m1 m2:Mem}{is js:List Nat}{ub kb bb ab rb nx px sx:Nat}{ops sh:List Int}{n:Int}{s s1:Us}
theorem UM.kl (h:UM T m ub kb bb ab s)(k:KT T is m m1)(h5:5∉is):loadRow m1 ⟨kb,0,none⟩ 1=loadRow m ⟨kb,0,none⟩ 1:=by
 obtain⟨ka,q1,_⟩:=h.k
 obtain⟨f1,o1,_⟩:=q1.keep k Ag.refl h5
 obtain⟨f0,o0,_⟩:=q1
 exact (o1.load1 (off:=0) rfl).trans (o0.load1 (off:=0) rfl).symm
theorem UC.ln (h:UC T m ub kb bb ab rb nx px sx ops sh n):loadRow m ⟨nx,0,none⟩ 1=some [.func (.func 20) #[] #[.pointer (some ⟨ab,0,none⟩),.pointer (some ⟨rb,0,none⟩)]]:=by
 obtain⟨f,o,_⟩:=h.cn
 exact o.load1 (off:=0) rfl
theorem UC.lp (h:UC T m ub kb bb ab rb nx px sx ops sh n):loadRow m ⟨px,0,none⟩ 1=some [.func (.func 19) #[] #[.pointer (some ⟨ub,0,none⟩),.pointer (some ⟨bb,0,none⟩)]]:=by
 obtain⟨f,o,_⟩:=h.cp
 exact o.load1 (off:=0) rfl
theorem UC.ls (h:UC T m ub kb bb ab rb nx px sx ops sh n):loadRow m ⟨sx,0,none⟩ 1=some [.func (.func 21) #[] #[.pointer (some ⟨ub,0,none⟩),.pointer (some ⟨nx,0,none⟩),.pointer (some ⟨kb,0,none⟩)]]:=by
 obtain⟨f,o,_⟩:=h.cs
 exact o.load1 (off:=0) rfl
theorem UC.l3 (h:UC T m ub kb bb ab rb nx px sx ops sh n)(v:Int):loadRow (m.new [.int .i64 v] 3) ⟨px,0,none⟩ 1=some [.func (.func 19) #[] #[.pointer (some ⟨ub,0,none⟩),.pointer (some ⟨bb,0,none⟩)]]:=by
 obtain⟨f,o,_⟩:=h.cp
 exact (o.ln _ _ 0 1).trans (o.load1 (off:=0) rfl)
theorem Zdn {Q:Nat→Prop}:Zag Q m none []:=⟨0,⟨rfl,Or.inl ⟨rfl,.nil⟩⟩,by simp⟩
theorem Zow (hN:Nq S)(h:UM T m ub kb bb ab s)(hc:UC T m ub kb bb ab rb nx px sx ops sh n)(hb:Bd ops s)(hol:ops.length≤9223372036854775807)(hk:s.known.length≤1000) :
  ∃ m1 kv x,Zaq Tryd.prog TT S 20 [.int .i64 (s.known.length:Nat),.pointer (some ⟨ab,0,none⟩),.pointer (some ⟨rb,0,none⟩)] m=some (.int .i64 (x:Nat),m1)∧x < s.known.length∧UM T m1 ub kb bb ab (Zbc ops s).1∧UC T m1 ub kb bb ab rb nx px sx ops sh n∧KT T [9] m m1∧
   loadRow m ⟨kb,0,none⟩ 1=some [.slice (some ⟨kv,0,none⟩) s.known.length s.known.length]∧loadRow m1 ⟨kb,0,none⟩ 1=some [.slice (some ⟨kv,0,none⟩) s.known.length s.known.length]∧loadRow m1 ⟨kv,x,none⟩ 1=some [.int .i64 (Zbc ops s).2]∧(Zbc ops s).1.known=s.known∧(Zbc ops s).1.vals=s.vals∧(Zbc ops s).1.blks=s.blks:=by
 have h1:=hb.k1
 obtain⟨v1,m1,c1,rfl,hU1,hC1,k1⟩:=Zex hN h hc hb.a hol (k:=(s.known.length:Nat)) (by omega) (by omega)
 have z0:=Zcg (ops:=ops) (s:=s) (k:=(s.known.length:Nat)) (by omega)
 obtain⟨z1,z2,z3,z4,z5,z6⟩:=Za6 (ops:=ops) (s:=s) (s.known.length:Nat)
 obtain⟨x,hx⟩:∃ x:Nat,(Zar ops (s.known.length:Nat) s).2=x:=⟨(Zar ops (s.known.length:Nat) s).2.toNat,by omega⟩
 have hxl:x < s.known.length:=by omega
 obtain⟨kv,lk,lk4,_,lx⟩:=h.known2 k1 (by simp) (by simp) hxl
 rw [hx] at c1
 have eA:(Zbc ops s).2=s.known.getD x 0:=by unfold Zbc;rw [hx];rfl
 exact⟨m1,kv,x,c1,hxl,hU1,hC1,k1,lk,lk4,by rw [eA];exact lx,z1,z3,z5⟩
set_option maxHeartbeats 8000000 in
theorem Z1t (hN:Nq S)(hT:∀ f,T f≤10)(h:UM T m ub kb bb ab s)(hc:UC T m ub kb bb ab rb nx px sx ops sh n)(hol:ops.length≤9223372036854775807)(hb:Bd ops s)(hv:s.vals.length≤600)(hbl:s.blks.length≤300) :
  ∃ v m1,Zaq Tryd.prog TT S 22 [.pointer (some ⟨nx,0,none⟩),.pointer (some ⟨ub,0,none⟩),.pointer (some ⟨kb,0,none⟩),.pointer (some ⟨px,0,none⟩),.pointer (some ⟨sx,0,none⟩)] m=some (v,m1)∧∃ T',UM T' m1 ub kb bb ab (Zf0 ops s)∧UC T' m1 ub kb bb ab rb nx px sx ops sh n∧Ag T T' m∧KT T [1,2,4,5,6,7,8,9,11,12] m m1∧(∀ f,T' f≤10)∧Bd ops (Zf0 ops s)∧(Zf0 ops s).vals.length≤max s.vals.length 200∧(Zf0 ops s).blks=s.blks:=by
 obtain⟨v1,m1,c1,rfl,h1,hc1,k1⟩:=Zex hN h hc hb.a hol (k:=6) (by omega) (by omega)
 have q0:=Zcg (ops:=ops) (s:=s) (k:=6) (by omega)
 obtain⟨q1,q2,q3,q4,q5,q6⟩:=Za6 (ops:=ops) (s:=s) 6
 obtain⟨qn,hqn⟩:∃ qn:Nat,(Zar ops 6 s).2=qn:=⟨(Zar ops 6 s).2.toNat,by omega⟩
 have eR:Zf0 ops s=Zgj ops (1+qn) (Zar ops 6 s).1:=by unfold Zf0;rw [hqn];rfl
 rw [eR]
 rw [hqn] at c1
 obtain⟨I,hI⟩:∃ I,1+qn=I:=⟨_,rfl⟩
 rw [hI]
 have wI:IntKind.i64.wrap (1+(qn:Int))=(I:Int):=by rw [Zab (by omega) (by omega)];omega
 obtain⟨R,hR⟩:∃ R,Zgj ops I (Zar ops 6 s).1=R:=⟨_,rfl⟩
 rw [hR]
 refine Zho 9 [19,48,61,73,85,96,106,122,131] k22 hN.f4 rfl ?_
 simp [-Int.natCast_add,hc.ln,c1,wI]
 refine Zah 9 [19,48,61,73,85,96,106,122,131] (fun d E mG=>∃ (i:Nat) (s':Us) (T':Tg),i=d∧i≤6∧UM T' mG ub kb bb ab s'∧UC T' mG ub kb bb ab rb nx px sx ops sh n∧(∀ f,T' f≤10)∧Bd ops s'∧s'.vals.length≤max s.vals.length 200∧s'.blks=s.blks∧Zgj ops i s'=R∧Ag T T' m∧KT T [1,2,4,5,6,7,8,9,11,12] m mG∧
  E=[(0,.pointer (some ⟨nx,0,none⟩)),(1,.pointer (some ⟨ub,0,none⟩)),(2,.pointer (some ⟨kb,0,none⟩)),(3,.pointer (some ⟨px,0,none⟩)),(4,.pointer (some ⟨sx,0,none⟩)),(5,.int .i64 (i:Int))]) _ ⟨_,⟨I,(Zar ops 6 s).1,T,rfl,by omega,h1,hc1,hT,hb.next 6,by rw [q3];omega,q5,hR,Ag.refl,k1.mono (by simp),rfl⟩,(by repeat' constructor)⟩ ?_
 rintro d E mG ih ⟨i,s',T',rfl,hi6,hU,hC,hT',hB,hvl,hbk,hL,aG,kG,rfl⟩
 have hBv:s'.vals.length≤900:=by omega
 have im:(i:Int)≤9223372036854775807∨True:=Or.inr trivial
 obtain⟨va,ba,sa,u1,u2,u3,u4⟩:=hU.u
 obtain⟨fu,ou,_⟩:=u1
 have lU:=ou.load1 (off:=2) rfl
 by_cases hi0:i=0
 ·subst hi0
  rw [Zgj] at hL
  simp [-Int.natCast_add]
  subst hL
  exact⟨T',hU,hC,aG,kG,hT',hB,hvl,hbk⟩
 obtain⟨j,hj⟩:∃ j,j+1=i:=⟨i - 1,by omega⟩
 have hi1:0 < i:=by omega
 have hi1':0 < (i:Int):=by omega
 by_cases h200:s'.vals.length < 200
 ·have h200':(s'.vals.length:Int) < 200:=by omega
  rw [← hj,Zgj,if_pos h200] at hL
  have wj:IntKind.i64.wrap ((i:Int) - 1)=(j:Int):=by rw [Zab (by omega) (by omega)];omega
  have hk1:s'.known.length≤1000:=by have:=hB.k2;omega
  obtain⟨m4,kv4,x4,c4,hx4,hU4,hC4,k4,l41,l42,l43,e41,e42,e43⟩:=Zow hN hU hC hB hol hk1
  have hB4:=Zfy (ops:=ops) hB
  obtain⟨m5,kv5,x5,c5,hx5,hU5,hC5,k5,l51,l52,l53,e51,e52,e53⟩:=Zow hN hU4 hC4 hB4 hol (by rw [e41];exact hk1)
  have hB5:=Zfy (ops:=ops) hB4
  obtain⟨v6,m6,c6,rfl,hU6,hC6,k6⟩:=Zex hN hU5 hC5 hB5.a hol (k:=20) (by omega) (by omega)
  have hB6:=hB5.next 20
  have z0:=Zcg (ops:=ops) (s:=(Zbc ops (Zbc ops s').1).1) (k:=20) (by omega)
  obtain⟨z1,z2,z3,z4,z5,z6⟩:=Za6 (ops:=ops) (s:=(Zbc ops (Zbc ops s').1).1) 20
  have eO:Z8s ops s'=Zd5 ops (Zbc ops s').2 (Zbc ops (Zbc ops s').1).2 (Zar ops 20 (Zbc ops (Zbc ops s').1).1).2 (Zar ops 20 (Zbc ops (Zbc ops s').1).1).1:=rfl
  rw [eO] at hL
  have e6k:(Zar ops 20 (Zbc ops (Zbc ops s').1).1).1.known=s'.known:=z1.trans (e51.trans e41)
  have e6v:(Zar ops 20 (Zbc ops (Zbc ops s').1).1).1.vals=s'.vals:=z3.trans (e52.trans e42)
  have e6b:(Zar ops 20 (Zbc ops (Zbc ops s').1).1).1.blks=s'.blks:=z5.trans (e53.trans e43)
  generalize (Zar ops 20 (Zbc ops (Zbc ops s').1).1).1=s6 at *
  generalize (Zar ops 20 (Zbc ops (Zbc ops s').1).1).2=k at *
  generalize (Zbc ops (Zbc ops s').1).2=b at *
  generalize (Zbc ops s').2=a at *
  rw [e41] at c5 hx5 l51 l52
  have ekv:kv5=kv4:=by
   rw [l42] at l51
   simpa using l51.symm
  subst ekv
  have x4i:(x4:Int)≤9223372036854775807:=by omega
  have x5i:(x5:Int)≤9223372036854775807:=by omega
  have x4l:(x4:Int) < s'.known.length:=by omega
  have x5l:(x5:Int) < s'.known.length:=by omega
  simp [-Int.natCast_add,-w22_6,lU,hi1,h200',Zdl _ _ (Zpt _ _),hC.ln,hC4.ln,hC5.ln,c4,l41,l42,l43,x4i,hx4,c5,l52,l53,x5i,hx5,c6]
  have kG6:KT T [1,2,4,5,6,7,8,9,11,12] m m6:=((kG.trans aG (k4.mono (by simp))).trans (aG.trans Ag.refl kG.le) (k5.mono (by simp))).trans (aG.trans Ag.refl kG.le) (k6.mono (by simp))
  have fin:∀ (mX:Mem) (s'':Us) (T'':Tg),UM T'' mX ub kb bb ab s''→UC T'' mX ub kb bb ab rb nx px sx ops sh n→(∀ f,T'' f≤10)→Bd ops s''→s''.vals.length≤s6.vals.length+1→s''.blks=s6.blks→Zd5 ops a b k s6=s''→Ag T' T'' m6→KT T' [1,2,4,5,6,7,8,9,11,12] m6 mX→
    ∃ (s'':Us) (T'':Tg),UM T'' mX ub kb bb ab s''∧UC T'' mX ub kb bb ab rb nx px sx ops sh n∧(∀ f,T'' f≤10)∧Bd ops s''∧s''.vals.length≤max s.vals.length 200∧s''.blks=s.blks∧Zgj ops j s''=R∧Ag T T'' m∧KT T [1,2,4,5,6,7,8,9,11,12] m mX:=by
   intro mX s'' T'' g1 g2 g3 g4 g5 g6 g7 g8 g9
   rw [g7] at hL
   rw [e6v] at g5
   exact⟨s'',T'',g1,g2,g3,g4,by omega,g6.trans (e6b.trans hbk),hL,aG.trans g8 kG6.le,kG6.trans aG g9⟩
  apply Zze (fun mX:Mem=>∃ (s'':Us) (T'':Tg),UM T'' mX ub kb bb ab s''∧UC T'' mX ub kb bb ab rb nx px sx ops sh n∧(∀ f,T'' f≤10)∧Bd ops s''∧s''.vals.length≤max s.vals.length 200∧s''.blks=s.blks∧Zgj ops j s''=R∧Ag T T'' m∧KT T [1,2,4,5,6,7,8,9,11,12] m mX)
  case main =>
   have w12:k < 12→IntKind.i64.wrap (3+k)=3+k:=fun h=>Zab (by omega) (by omega)
   by_cases h12:k < 12
   ·have w12:=w12 h12
    obtain⟨v7,m7,c7,rfl,T7,hU7,a7,k7,b7⟩:=Zdw hN hT' hU6 (by rw [e6v];omega) (by have:=hB6.b;rw [e6v] at this;omega) (d:=(3+k,a,b,0,[],0,())) (aa:=none) Zdn
    have c7:Zaq Tryd.prog TT S 19 [.agg #[.int .i64 (3+k),.int .i64 a,.int .i64 b,.int .i64 0,.slice none 0 0,.int .i64 0],.pointer (some ⟨ub,0,none⟩),.pointer (some ⟨bb,0,none⟩)] m6=some (.int .i64 (s6.vals.length:Nat),m7):=c7
    have hC7:=hC6.keep k7 a7 (by simp) (by simp)
    obtain⟨ka,l1,l2,l3,m8,ka2,m9,T9,e8,l4,e9,hU9,a9,k9,b9⟩:=UM.kn hU6 hU7 k7 a7 (by simp) rfl b7 (by rw [e6k];exact hk1) (s6.vals.length:Nat)
    have hC9:=hC7.keep k9 a9 (by simp) (by simp)
    have H:=fin m9 _ T9 hU9 hC9 b9 (hB6.kn (3+k,a,b,0,[],0,())) (by simp [Zbi]) rfl (by unfold Zd5;rw [if_pos h12];rfl) (a7.trans a9 k7.le) ((k7.mono (by simp)).trans a7 (k9.mono (by simp)))
    intro meth
    simp [-Int.natCast_add,-w22_22,Za2 Zrl,Za u22 bs3 rfl,Zbf u22 sz3,h12,w12,Zdl _ _ (Zpt _ _),hC6.lp,c7,l1,l2,l3,e8,e9]
    exact Zb2 (E:=[(0,.pointer (some ⟨nx,0,none⟩)),(1,.pointer (some ⟨ub,0,none⟩)),(2,.pointer (some ⟨kb,0,none⟩)),(3,.pointer (some ⟨px,0,none⟩)),(4,.pointer (some ⟨sx,0,none⟩)),(5,.int .i64 (i:Int))]) (meth m9 H) (by repeat' constructor)
   by_cases hk12:k=12
   ·have hk:=hk12
    obtain⟨v7,m7,c7,rfl,hU7,hC7,k7⟩:=Zex hN hU6 hC6 hB6.a hol (k:=1048576) (by omega) (by omega)
    have hB7:=hB6.next 1048576
    have y0:=Zcg (ops:=ops) (s:=s6) (k:=1048576) (by omega)
    obtain⟨y1,y2,y3,y4,y5,y6⟩:=Za6 (ops:=ops) (s:=s6) 1048576
    have ke:Zd5 ops a b k s6=knP (2,0,0,(Zar ops 1048576 s6).2 - 9,[],0,()) (Zar ops 1048576 s6).1:=by unfold Zd5;rw [if_neg (by omega),if_pos hk]
    generalize (Zar ops 1048576 s6).1=s7 at *
    generalize (Zar ops 1048576 s6).2=x at *
    have wx:IntKind.i64.wrap (x - 9)=x - 9:=Zab (by omega) (by omega)
    obtain⟨v8,m8,c8,rfl,T8,hU8,a8,k8,b8⟩:=Zdw hN hT' hU7 (by rw [y3,e6v];omega) (by have:=hB7.b;rw [y3,e6v] at this;omega) (d:=(2,0,0,x - 9,[],0,())) (aa:=none) Zdn
    have c8:Zaq Tryd.prog TT S 19 [.agg #[.int .i64 2,.int .i64 0,.int .i64 0,.int .i64 (x - 9),.slice none 0 0,.int .i64 0],.pointer (some ⟨ub,0,none⟩),.pointer (some ⟨bb,0,none⟩)] m7=some (.int .i64 (s7.vals.length:Nat),m8):=c8
    have hC8:=hC7.keep k8 a8 (by simp) (by simp)
    have k78:KT T' [1,2,7,8,9] m6 m8:=(k7.mono (by simp)).trans Ag.refl (k8.mono (by simp))
    have a78:Ag T' T8 m6:=Ag.trans Ag.refl a8 k7.le
    obtain⟨ka,l1,l2,l3,m9,ka2,m10,T10,e9,l4,e10,hU10,a10,k10,b10⟩:=UM.kn hU6 hU8 k78 a78 (by simp) y1 b8 (by rw [e6k];exact hk1) (s7.vals.length:Nat)
    have l17:=(hU6.kl k7 (by simp)).trans l1
    have hC10:=hC8.keep k10 a10 (by simp) (by simp)
    have ke2:({ Zbi (2,0,0,x - 9,[],0,()) s7 with known:=s6.known++[((s7.vals.length:Nat):Int)] }:Us)=knP (2,0,0,x - 9,[],0,()) s7:=by unfold knP;rw [y1]
    rw [ke2] at hU10
    have H:=fin m10 _ T10 hU10 hC10 b10 (hB7.kn _) (by simp [knP,Zbi];rw [y3];omega) (by simp [knP,Zbi];exact y5) ke (a78.trans a10 k78.le) ((k78.mono (by simp)).trans a78 (k10.mono (by simp)))
    intro meth
    simp [-Int.natCast_add,-w22_22,Za2 Zrl,Za u22 bs3 rfl,Zbf u22 sz3,hk,Zdl _ _ (Zpt _ _),hC6.lp,hC6.ln,hC7.lp,c7,c8,l1,l17,l2,l3,e9,e10,wx]
    exact Zb2 (E:=[(0,.pointer (some ⟨nx,0,none⟩)),(1,.pointer (some ⟨ub,0,none⟩)),(2,.pointer (some ⟨kb,0,none⟩)),(3,.pointer (some ⟨px,0,none⟩)),(4,.pointer (some ⟨sx,0,none⟩)),(5,.int .i64 (i:Int))]) (meth m10 H) (by repeat' constructor)
   by_cases hk13:k=13
   ·have hk:=hk13
    obtain⟨v7,m7,c7,rfl,hU7,hC7,k7⟩:=Zex hN hU6 hC6 hB6.a hol (k:=5) (by omega) (by omega)
    have hB7:=hB6.next 5
    have y0:=Zcg (ops:=ops) (s:=s6) (k:=5) (by omega)
    obtain⟨y1,y2,y3,y4,y5,y6⟩:=Za6 (ops:=ops) (s:=s6) 5
    have ke:Zd5 ops a b k s6=knP (17,a,0,(Zar ops 5 s6).2,[],0,()) (Zar ops 5 s6).1:=by unfold Zd5;rw [if_neg (by omega),if_neg (by omega),if_pos hk]
    generalize (Zar ops 5 s6).1=s7 at *
    generalize (Zar ops 5 s6).2=x at *
    have wx:(0:Int)=0:=rfl
    obtain⟨v8,m8,c8,rfl,T8,hU8,a8,k8,b8⟩:=Zdw hN hT' hU7 (by rw [y3,e6v];omega) (by have:=hB7.b;rw [y3,e6v] at this;omega) (d:=(17,a,0,x,[],0,())) (aa:=none) Zdn
    have c8:Zaq Tryd.prog TT S 19 [.agg #[.int .i64 17,.int .i64 a,.int .i64 0,.int .i64 x,.slice none 0 0,.int .i64 0],.pointer (some ⟨ub,0,none⟩),.pointer (some ⟨bb,0,none⟩)] m7=some (.int .i64 (s7.vals.length:Nat),m8):=c8
    have hC8:=hC7.keep k8 a8 (by simp) (by simp)
    have k78:KT T' [1,2,7,8,9] m6 m8:=(k7.mono (by simp)).trans Ag.refl (k8.mono (by simp))
    have a78:Ag T' T8 m6:=Ag.trans Ag.refl a8 k7.le
    obtain⟨ka,l1,l2,l3,m9,ka2,m10,T10,e9,l4,e10,hU10,a10,k10,b10⟩:=UM.kn hU6 hU8 k78 a78 (by simp) y1 b8 (by rw [e6k];exact hk1) (s7.vals.length:Nat)
    have l17:=(hU6.kl k7 (by simp)).trans l1
    have hC10:=hC8.keep k10 a10 (by simp) (by simp)
    have ke2:({ Zbi (17,a,0,x,[],0,()) s7 with known:=s6.known++[((s7.vals.length:Nat):Int)] }:Us)=knP (17,a,0,x,[],0,()) s7:=by unfold knP;rw [y1]
    rw [ke2] at hU10
    have H:=fin m10 _ T10 hU10 hC10 b10 (hB7.kn _) (by simp [knP,Zbi];rw [y3];omega) (by simp [knP,Zbi];exact y5) ke (a78.trans a10 k78.le) ((k78.mono (by simp)).trans a78 (k10.mono (by simp)))
    intro meth
    simp [-Int.natCast_add,-w22_22,Za2 Zrl,Za u22 bs3 rfl,Zbf u22 sz3,hk,Zdl _ _ (Zpt _ _),hC6.lp,hC6.ln,hC7.lp,c7,c8,l1,l17,l2,l3,e9,e10]
    exact Zb2 (E:=[(0,.pointer (some ⟨nx,0,none⟩)),(1,.pointer (some ⟨ub,0,none⟩)),(2,.pointer (some ⟨kb,0,none⟩)),(3,.pointer (some ⟨px,0,none⟩)),(4,.pointer (some ⟨sx,0,none⟩)),(5,.int .i64 (i:Int))]) (meth m10 H) (by repeat' constructor)
   by_cases hk14:k=14
   ·have hk:=hk14
    obtain⟨v7,m7,c7,rfl,T7,hU7,a7,k7,b7⟩:=Zdw hN hT' hU6 (by rw [e6v];omega) (by have:=hB6.b;rw [e6v] at this;omega) (d:=(18,a,b,0,[],0,())) (aa:=none) Zdn
    have c7:Zaq Tryd.prog TT S 19 [.agg #[.int .i64 18,.int .i64 a,.int .i64 b,.int .i64 0,.slice none 0 0,.int .i64 0],.pointer (some ⟨ub,0,none⟩),.pointer (some ⟨bb,0,none⟩)] m6=some (.int .i64 (s6.vals.length:Nat),m7):=c7
    have hC7:=hC6.keep k7 a7 (by simp) (by simp)
    obtain⟨ka,l1,l2,l3,m8,ka2,m9,T9,e8,l4,e9,hU9,a9,k9,b9⟩:=UM.kn hU6 hU7 k7 a7 (by simp) rfl b7 (by rw [e6k];exact hk1) (s6.vals.length:Nat)
    have hC9:=hC7.keep k9 a9 (by simp) (by simp)
    have H:=fin m9 _ T9 hU9 hC9 b9 (hB6.kn (18,a,b,0,[],0,())) (by simp [Zbi]) rfl (by unfold Zd5;rw [if_neg (by omega),if_neg (by omega),if_neg (by omega),if_pos hk];rfl) (a7.trans a9 k7.le) ((k7.mono (by simp)).trans a7 (k9.mono (by simp)))
    intro meth
    simp [-Int.natCast_add,-w22_22,Za2 Zrl,Za u22 bs3 rfl,Zbf u22 sz3,hk,Zdl _ _ (Zpt _ _),hC6.lp,c7,l1,l2,l3,e8,e9]
    exact Zb2 (E:=[(0,.pointer (some ⟨nx,0,none⟩)),(1,.pointer (some ⟨ub,0,none⟩)),(2,.pointer (some ⟨kb,0,none⟩)),(3,.pointer (some ⟨px,0,none⟩)),(4,.pointer (some ⟨sx,0,none⟩)),(5,.int .i64 (i:Int))]) (meth m9 H) (by repeat' constructor)
   by_cases hk15:k=15
   ·have hk:=hk15
    obtain⟨v7,m7,c7,rfl,hU7,hC7,k7⟩:=Zex hN hU6 hC6 hB6.a hol (k:=5) (by omega) (by omega)
    have hB7:=hB6.next 5
    obtain⟨y1,y2,y3,y4,y5,y6⟩:=Za6 (ops:=ops) (s:=s6) 5
    have ke:Zd5 ops a b k s6=Zbi (19,a,b,(Zar ops 5 s6).2,[],0,()) (Zar ops 5 s6).1:=by unfold Zd5;rw [if_neg (by omega),if_neg (by omega),if_neg (by omega),if_neg (by omega),if_pos hk]
    generalize (Zar ops 5 s6).1=s7 at *
    generalize (Zar ops 5 s6).2=x at *
    obtain⟨v8,m8,c8,rfl,T8,hU8,a8,k8,b8⟩:=Zdw hN hT' hU7 (by rw [y3,e6v];omega) (by have:=hB7.b;rw [y3,e6v] at this;omega) (d:=(19,a,b,x,[],0,())) (aa:=none) Zdn
    have c8:Zaq Tryd.prog TT S 19 [.agg #[.int .i64 19,.int .i64 a,.int .i64 b,.int .i64 x,.slice none 0 0,.int .i64 0],.pointer (some ⟨ub,0,none⟩),.pointer (some ⟨bb,0,none⟩)] m7=some (.int .i64 (s7.vals.length:Nat),m8):=c8
    have hC8:=hC7.keep k8 a8 (by simp) (by simp)
    have k78:KT T' [1,2,7,8,9] m6 m8:=(k7.mono (by simp)).trans Ag.refl (k8.mono (by simp))
    have a78:Ag T' T8 m6:=Ag.trans Ag.refl a8 k7.le
    have H:=fin m8 _ T8 hU8 hC8 b8 (hB7.put _) (by simp [Zbi];rw [y3];omega) (by simp [Zbi];exact y5) ke a78 (k78.mono (by simp))
    intro meth
    simp [-Int.natCast_add,-w22_22,Za2 Zrl,hk,Zdl _ _ (Zpt _ _),hC6.lp,hC6.ln,hC7.lp,c7,c8]
    exact Zb2 (E:=[(0,.pointer (some ⟨nx,0,none⟩)),(1,.pointer (some ⟨ub,0,none⟩)),(2,.pointer (some ⟨kb,0,none⟩)),(3,.pointer (some ⟨px,0,none⟩)),(4,.pointer (some ⟨sx,0,none⟩)),(5,.int .i64 (i:Int))]) (meth m8 H) (by repeat' constructor)
   by_cases hk16:k=16
   ·have hk:=hk16
    obtain⟨m7,kv7,x7,c7,hx7,hU7,hC7,k7,l71,l72,l73,y1,y3,y5⟩:=Zow hN hU6 hC6 hB6 hol (by rw [e6k];exact hk1)
    have hB7:=Zfy (ops:=ops) hB6
    have ke:Zd5 ops a b k s6=Zbi (20,a,b,0,[(Zbc ops s6).2],0,()) (Zbc ops s6).1:=by unfold Zd5;rw [if_neg (by omega),if_neg (by omega),if_neg (by omega),if_neg (by omega),if_neg (by omega),if_pos hk]
    generalize (Zbc ops s6).1=s7 at *
    generalize (Zbc ops s6).2=y at *
    obtain⟨T8,a8,o8,k8,n8,t8⟩:=Znw (m:=m7) T' 0 (cs:=[.int .i64 y]) (e:=3) rfl
    have kt8:KT T' [] m7 (m7.new [.int .i64 y] 3):=KT.of k8
    have hU8:=hU7.keep kt8 a8 (by simp)
    have hC8:=hC7.keep kt8 a8 (by simp) (by simp)
    have b8:∀ f,T8 f≤10:=fun f=>by have:=hT' f;have:=t8 f;omega
    obtain⟨f8,o8o,t8o⟩:=o8
    have dy:Zag (DQ T8 (m7.new [.int .i64 y] 3)) (m7.new [.int .i64 y] 3) (some ⟨m7.next,0,none⟩) [y]:=⟨f8,Zpg ⟨rfl,Or.inr ⟨_,rfl,o8o.rdo⟩⟩,fun _=>⟨t8o,o8o.flt⟩⟩
    obtain⟨v9,m9,c9,rfl,T9,hU9,a9,k9,b9⟩:=Zdw hN b8 hU8 (by rw [y3,e6v];omega) (by have:=hB7.b;rw [y3,e6v] at this;omega) (d:=(20,a,b,0,[y],0,())) (aa:=some ⟨m7.next,0,none⟩) dy
    have c9:Zaq Tryd.prog TT S 19 [.agg #[.int .i64 20,.int .i64 a,.int .i64 b,.int .i64 0,.slice (some ⟨m7.next,0,none⟩) 1 1,.int .i64 0],.pointer (some ⟨ub,0,none⟩),.pointer (some ⟨bb,0,none⟩)] (m7.new [.int .i64 y] 3)=some (.int .i64 (s7.vals.length:Nat),m9):=c9
    have hC9:=hC8.keep k9 a9 (by simp) (by simp)
    have k68:KT T' [9] m6 (m7.new [.int .i64 y] 3):=k7.trans Ag.refl (kt8.mono (by simp))
    have a68:Ag T' T8 m6:=Ag.trans Ag.refl a8 k7.le
    have H:=fin m9 _ T9 hU9 hC9 b9 (hB7.put _) (by simp [Zbi];rw [y3];omega) (by simp [Zbi];exact y5) ke (a68.trans a9 k68.le) ((k68.mono (by simp)).trans a68 (k9.mono (by simp)))
    have x7i:(x7:Int)≤9223372036854775807:=by rw [e6k] at hx7;omega
    have x7l:(x7:Int) < s6.known.length:=by omega
    intro meth
    simp [-Int.natCast_add,-w22_22,Za2 Zrl,Za u22 bs3 rfl,hk,Zdl _ _ (Zpt _ _),hC6.lp,hC6.ln,hC7.lp,hC8.lp,c7,c9,l71,l72,l73,x7i,hx7]
    exact Zb2 (E:=[(0,.pointer (some ⟨nx,0,none⟩)),(1,.pointer (some ⟨ub,0,none⟩)),(2,.pointer (some ⟨kb,0,none⟩)),(3,.pointer (some ⟨px,0,none⟩)),(4,.pointer (some ⟨sx,0,none⟩)),(5,.int .i64 (i:Int))]) (meth m9 H) (by repeat' constructor)
   by_cases hk17:k=17
   ·have hk:=hk17
    obtain⟨v7,m7,c7,rfl,T7,hU7,hC7,a7,k7,b7⟩:=Zkp hN hT' hU6 hC6 hB6.a hol ⟨by rw [e6k];exact hB.k1,by rw [e6k];exact hk1⟩ (by have:=hB6.st;rw [e6v,e6b,hbk] at this;omega)
    obtain⟨hB7,y3,y1,y4,y5,y6,y7⟩:=Zde hB6 (22,a,0,0,[],(Zac ops s6).2,())
    have ke:Zd5 ops a b k s6=Zbi (22,a,0,0,[],(Zac ops s6).2,()) (Zac ops s6).1:=by unfold Zd5;rw [if_neg (by omega),if_neg (by omega),if_neg (by omega),if_neg (by omega),if_neg (by omega),if_neg (by omega),if_pos hk]
    generalize (Zac ops s6).1=s7 at *
    generalize (Zac ops s6).2=st at *
    obtain⟨v8,m8,c8,rfl,T8,hU8,a8,k8,b8⟩:=Zdw hN b7 hU7 (by rw [y3,e6v];omega) (by rw [y4];have:=hB6.b;rw [e6v] at this;omega) (d:=(22,a,0,0,[],st,())) (aa:=none) Zdn
    have c8:Zaq Tryd.prog TT S 19 [.agg #[.int .i64 22,.int .i64 a,.int .i64 0,.int .i64 0,.slice none 0 0,.int .i64 st],.pointer (some ⟨ub,0,none⟩),.pointer (some ⟨bb,0,none⟩)] m7=some (.int .i64 (s7.vals.length:Nat),m8):=c8
    have hC8:=hC7.keep k8 a8 (by simp) (by simp)
    have H:=fin m8 _ T8 hU8 hC8 b8 hB7 (by simp [Zbi];rw [y3];omega) (by simp [Zbi];exact y5) ke (a7.trans a8 k7.le) ((k7.mono (by simp)).trans a7 (k8.mono (by simp)))
    intro meth
    simp [-Int.natCast_add,-w22_22,Za2 Zrl,hk,Zdl _ _ (Zpt _ _),Zdl _ _ (Z9d _ _ _),hC6.lp,hC6.ls,hC7.lp,c7,c8]
    exact Zb2 (E:=[(0,.pointer (some ⟨nx,0,none⟩)),(1,.pointer (some ⟨ub,0,none⟩)),(2,.pointer (some ⟨kb,0,none⟩)),(3,.pointer (some ⟨px,0,none⟩)),(4,.pointer (some ⟨sx,0,none⟩)),(5,.int .i64 (i:Int))]) (meth m8 H) (by repeat' constructor)
   by_cases hk18:k=18
   ·have hk:=hk18
    obtain⟨v7,m7,c7,rfl,T7,hU7,hC7,a7,k7,b7⟩:=Zkp hN hT' hU6 hC6 hB6.a hol ⟨by rw [e6k];exact hB.k1,by rw [e6k];exact hk1⟩ (by have:=hB6.st;rw [e6v,e6b,hbk] at this;omega)
    obtain⟨hB7,y3,y1,y4,y5,y6,y7⟩:=Zde hB6 (23,0,0,0,[],(Zac ops s6).2,())
    have ke:Zd5 ops a b k s6=Zbi (23,0,0,0,[],(Zac ops s6).2,()) (Zac ops s6).1:=by unfold Zd5;rw [if_neg (by omega),if_neg (by omega),if_neg (by omega),if_neg (by omega),if_neg (by omega),if_neg (by omega),if_neg (by omega),if_pos hk]
    generalize (Zac ops s6).1=s7 at *
    generalize (Zac ops s6).2=st at *
    obtain⟨v8,m8,c8,rfl,T8,hU8,a8,k8,b8⟩:=Zdw hN b7 hU7 (by rw [y3,e6v];omega) (by rw [y4];have:=hB6.b;rw [e6v] at this;omega) (d:=(23,0,0,0,[],st,())) (aa:=none) Zdn
    have c8:Zaq Tryd.prog TT S 19 [.agg #[.int .i64 23,.int .i64 0,.int .i64 0,.int .i64 0,.slice none 0 0,.int .i64 st],.pointer (some ⟨ub,0,none⟩),.pointer (some ⟨bb,0,none⟩)] m7=some (.int .i64 (s7.vals.length:Nat),m8):=c8
    have hC8:=hC7.keep k8 a8 (by simp) (by simp)
    have H:=fin m8 _ T8 hU8 hC8 b8 hB7 (by simp [Zbi];rw [y3];omega) (by simp [Zbi];exact y5) ke (a7.trans a8 k7.le) ((k7.mono (by simp)).trans a7 (k8.mono (by simp)))
    intro meth
    simp [-Int.natCast_add,-w22_22,Za2 Zrl,hk,Zdl _ _ (Zpt _ _),Zdl _ _ (Z9d _ _ _),hC6.lp,hC6.ls,hC7.lp,c7,c8]
    exact Zb2 (E:=[(0,.pointer (some ⟨nx,0,none⟩)),(1,.pointer (some ⟨ub,0,none⟩)),(2,.pointer (some ⟨kb,0,none⟩)),(3,.pointer (some ⟨px,0,none⟩)),(4,.pointer (some ⟨sx,0,none⟩)),(5,.int .i64 (i:Int))]) (meth m8 H) (by repeat' constructor)
   obtain⟨v7,m7,c7,rfl,hU7,hC7,k7⟩:=Zex hN hU6 hC6 hB6.a hol (k:=2) (by omega) (by omega)
   have hB7:=hB6.next 2
   have y0:=Zcg (ops:=ops) (s:=s6) (k:=2) (by omega)
   obtain⟨y1,y2,y3,y4,y5,y6⟩:=Za6 (ops:=ops) (s:=s6) 2
   have ke:Zd5 ops a b k s6=knP (15+(Zar ops 2 s6).2,a,0,0,[],0,()) (Zar ops 2 s6).1:=by unfold Zd5;rw [if_neg (by omega),if_neg (by omega),if_neg (by omega),if_neg (by omega),if_neg (by omega),if_neg (by omega),if_neg (by omega),if_neg (by omega)]
   generalize (Zar ops 2 s6).1=s7 at *
   generalize (Zar ops 2 s6).2=x at *
   have wx:IntKind.i64.wrap (15+x)=15+x:=Zab (by omega) (by omega)
   obtain⟨v8,m8,c8,rfl,T8,hU8,a8,k8,b8⟩:=Zdw hN hT' hU7 (by rw [y3,e6v];omega) (by have:=hB7.b;rw [y3,e6v] at this;omega) (d:=(15+x,a,0,0,[],0,())) (aa:=none) Zdn
   have c8:Zaq Tryd.prog TT S 19 [.agg #[.int .i64 (15+x),.int .i64 a,.int .i64 0,.int .i64 0,.slice none 0 0,.int .i64 0],.pointer (some ⟨ub,0,none⟩),.pointer (some ⟨bb,0,none⟩)] m7=some (.int .i64 (s7.vals.length:Nat),m8):=c8
   have hC8:=hC7.keep k8 a8 (by simp) (by simp)
   have k78:KT T' [1,2,7,8,9] m6 m8:=(k7.mono (by simp)).trans Ag.refl (k8.mono (by simp))
   have a78:Ag T' T8 m6:=Ag.trans Ag.refl a8 k7.le
   obtain⟨ka,l1,l2,l3,m9,ka2,m10,T10,e9,l4,e10,hU10,a10,k10,b10⟩:=UM.kn hU6 hU8 k78 a78 (by simp) y1 b8 (by rw [e6k];exact hk1) (s7.vals.length:Nat)
   have l17:=(hU6.kl k7 (by simp)).trans l1
   have hC10:=hC8.keep k10 a10 (by simp) (by simp)
   have ke2:({ Zbi (15+x,a,0,0,[],0,()) s7 with known:=s6.known++[((s7.vals.length:Nat):Int)] }:Us)=knP (15+x,a,0,0,[],0,()) s7:=by unfold knP;rw [y1]
   rw [ke2] at hU10
   have H:=fin m10 _ T10 hU10 hC10 b10 (hB7.kn _) (by simp [knP,Zbi];rw [y3];omega) (by simp [knP,Zbi];exact y5) ke (a78.trans a10 k78.le) ((k78.mono (by simp)).trans a78 (k10.mono (by simp)))
   intro meth
   simp [-Int.natCast_add,-w22_22,Za2 Zrl,Za u22 bs3 rfl,Zbf u22 sz3,h12,hk12,hk13,hk14,hk15,hk16,hk17,hk18,Zdl _ _ (Zpt _ _),hC6.lp,hC6.ln,hC7.lp,c7,c8,l1,l17,l2,l3,e9,e10,wx]
   exact Zb2 (E:=[(0,.pointer (some ⟨nx,0,none⟩)),(1,.pointer (some ⟨ub,0,none⟩)),(2,.pointer (some ⟨kb,0,none⟩)),(3,.pointer (some ⟨px,0,none⟩)),(4,.pointer (some ⟨sx,0,none⟩)),(5,.int .i64 (i:Int))]) (meth m10 H) (by repeat' constructor)
  rintro mX ⟨s'',T'',g1,g2,g3,g4,g5,g6,g7,g8,g9⟩
  simp [-Int.natCast_add,wj]
  exact ih _ _ _ _ ⟨j,s'',T'',rfl,by omega,g1,g2,g3,g4,g5,g6,g7,g8,g9,rfl⟩ (by omega) (by repeat' constructor)
 ·have h200':¬ (s'.vals.length:Int) < 200:=by omega
  rw [← hj,Zgj,if_neg h200] at hL
  simp [-Int.natCast_add,lU,hi1,h200']
  subst hL
  exact⟨T',hU,hC,aG,kG,hT',hB,hvl,hbk⟩
end Go.Proofs.YtcgmchechmbmeaaDoor.base
end
section
set_option maxRecDepth 100000
namespace Go.Proofs.YtcgmchechmbmeaaDoor.base
open Go.Sh gen
variable {S:Zb7}{T T':Tg}{m0 m m1 m2:Mem}{is js:List Nat}{s s1:Us}
structure Pl where
 (ub kb bb ab rb nx px sx rc bad rf:Nat)
 (ops sh:List Int)
 n:Int
def Z7v (T:Tg)(i:Nat)(m:Mem)(b:Nat)(cells:List Value)(e fam:Nat):Prop:=Own m b cells e fam∧T fam=i
theorem Z7v.keep {i b e f:Nat}{cells:List Value}(h:Z7v T i m b cells e f)(k:KT T is m m1)(a:Ag T T' m)(hi:i∉is):Z7v T' i m1 b cells e f:=by
 obtain⟨o,rfl⟩:=h
 obtain⟨fs,kk,hf⟩:=k
 exact⟨o.keep kk (fun hm=>hi (hf _ hm o.flt)),a _ o.flt⟩
structure UB (m0:Mem)(T:Tg)(m:Mem)(P:Pl)(s:Us):Prop where
 u:UM T m P.ub P.kb P.bb P.ab s
 c:UC T m P.ub P.kb P.bb P.ab P.rb P.nx P.px P.sx P.ops P.sh P.n
 t:∀ f,T f≤10
 j0:∀ f,f < m0.next→T f=if f=P.bad then 10 else 0
 j1:Zaa m0 m []
 o:Z7v T 10 m P.rc [.int .i64 0,.int .i64 0,.slice none 0 0,.slice none 0 0,.slice none 0 0] 29 P.rf
 ol:P.ops.length≤9223372036854775807
variable {P:Pl}
theorem jk {bd:Nat}(h0:∀ f,f < m0.next→T f=if f=bd then 10 else 0)(h1:Zaa m0 m [])(k:KT T is m m1)(hi:0∉is)(hi2:10∉is:=by simp):Zaa m0 m1 []:=by
 obtain⟨fs,kk,hf⟩:=k
 refine h1.fresh kk (fun f hm=>?_)
 have:=h1.1
 by_cases hl:f < m.next
 ·by_cases h:m0.next≤f
  ·exact h
  ·exact absurd (hf f hm hl) (by
    rw [h0 f (by omega)]
    split
    ·exact hi2
    ·exact hi)
 ·omega
theorem ja {bd:Nat}(h0:∀ f,f < m0.next→T f=if f=bd then 10 else 0)(h1:Zaa m0 m [])(a:Ag T T' m):∀ f,f < m0.next→T' f=if f=bd then 10 else 0:=fun f hf=>(a f (by have:=h1.1;omega)).trans (h0 f hf)
theorem UB.next (hN:Nq S)(h:UB m0 T m P s)(hb:Bd P.ops s){k:Int}(hk:0 < k)(hk2:k < 4611686018427387904) :
  ∃ m1,Zaq Tryd.prog TT S 20 [.int .i64 k,.pointer (some ⟨P.ab,0,none⟩),.pointer (some ⟨P.rb,0,none⟩)] m=some (.int .i64 (Zar P.ops k s).2,m1)∧UB m0 T m1 P (Zar P.ops k s).1:=by
 obtain⟨v1,m1,c1,rfl,h1,hc1,k1⟩:=Zex hN h.u h.c hb.a h.ol hk hk2
 exact⟨m1,c1,h1,hc1,h.t,h.j0,jk h.j0 h.j1 k1 (by simp),h.o.keep k1 Ag.refl (by simp),h.ol⟩
theorem UB.any (hN:Nq S)(h:UB m0 T m P s)(hb:Bd P.ops s)(hv:s.vals.length≤900) :
  ∃ m1 kv x,Zaq Tryd.prog TT S 20 [.int .i64 (s.known.length:Nat),.pointer (some ⟨P.ab,0,none⟩),.pointer (some ⟨P.rb,0,none⟩)] m=some (.int .i64 (x:Nat),m1)∧x < s.known.length∧(x:Int) < s.known.length∧(x:Int)≤9223372036854775807∧UB m0 T m1 P (Zbc P.ops s).1∧KT T [9] m m1∧
   loadRow m ⟨P.kb,0,none⟩ 1=some [.slice (some ⟨kv,0,none⟩) s.known.length s.known.length]∧loadRow m1 ⟨P.kb,0,none⟩ 1=some [.slice (some ⟨kv,0,none⟩) s.known.length s.known.length]∧loadRow m1 ⟨kv,x,none⟩ 1=some [.int .i64 (Zbc P.ops s).2]∧Bd P.ops (Zbc P.ops s).1∧(Zbc P.ops s).1.known=s.known∧(Zbc P.ops s).1.vals=s.vals∧(Zbc P.ops s).1.blks=s.blks:=by
 obtain⟨m1,kv,x,c1,hx,h1,hc1,k1,l1,l2,l3,e1,e2,e3⟩:=Zow hN h.u h.c hb h.ol (by have:=hb.k2;omega)
 exact⟨m1,kv,x,c1,hx,by omega,by have:=hb.k2;omega,⟨h1,hc1,h.t,h.j0,jk h.j0 h.j1 k1 (by simp),h.o.keep k1 Ag.refl (by simp),h.ol⟩,k1,l1,l2,l3,Zfy hb,e1,e2,e3⟩
theorem UB.put (hN:Nq S)(h:UB m0 T m P s)(hv:s.vals.length≤900)(hbv:s.bv.length≤1000)(d:Zb.D){aa:Option Addr}(hd:Zag (DQ T m) m aa (Zd3 d)) :
  ∃ m1 T',Zaq Tryd.prog TT S 19 [.agg (Zl4 d aa).toArray,.pointer (some ⟨P.ub,0,none⟩),.pointer (some ⟨P.bb,0,none⟩)] m=some (.int .i64 (s.vals.length:Nat),m1)∧UB m0 T' m1 P (Zbi d s)∧Ag T T' m∧KT T [1,2,7,8] m m1:=by
 obtain⟨v1,m1,c1,rfl,T1,h1,a1,k1,b1⟩:=Zdw hN h.t h.u (by omega) hbv hd
 exact⟨m1,T1,c1,⟨h1,h.c.keep k1 a1 (by simp) (by simp),b1,ja h.j0 h.j1 a1,jk h.j0 h.j1 k1 (by simp),h.o.keep k1 a1 (by simp),h.ol⟩,a1,k1⟩
theorem UB.state (hN:Nq S)(h:UB m0 T m P s)(hb:Bd P.ops s)(hv:s.vals.length≤900)(hbl:s.blks.length≤90) :
  ∃ m1 T',Zaq Tryd.prog TT S 21 [.pointer (some ⟨P.ub,0,none⟩),.pointer (some ⟨P.nx,0,none⟩),.pointer (some ⟨P.kb,0,none⟩)] m=some (.int .i64 (Zac P.ops s).2,m1)∧UB m0 T' m1 P (Zac P.ops s).1:=by
 have:=hb.k2
 have:=hb.st
 obtain⟨v1,m1,c1,rfl,T1,h1,hc1,a1,k1,b1⟩:=Zkp hN h.t h.u h.c hb.a h.ol ⟨hb.k1,by omega⟩ (by omega)
 exact⟨m1,T1,c1,h1,hc1,b1,ja h.j0 h.j1 a1,jk h.j0 h.j1 k1 (by simp),h.o.keep k1 a1 (by simp),h.ol⟩
theorem UB.row (hN:Nq S)(h:UB m0 T m P s)(hb:Bd P.ops s)(hv:s.vals.length≤600)(hbl:s.blks.length≤90) :
  ∃ v m1 T',Zaq Tryd.prog TT S 22 [.pointer (some ⟨P.nx,0,none⟩),.pointer (some ⟨P.ub,0,none⟩),.pointer (some ⟨P.kb,0,none⟩),.pointer (some ⟨P.px,0,none⟩),.pointer (some ⟨P.sx,0,none⟩)] m=some (v,m1)∧UB m0 T' m1 P (Zf0 P.ops s)∧Bd P.ops (Zf0 P.ops s)∧(Zf0 P.ops s).vals.length≤max s.vals.length 200∧(Zf0 P.ops s).blks=s.blks:=by
 obtain⟨v1,m1,c1,T1,h1,hc1,a1,k1,b1,d1,e1,e2⟩:=Z1t hN h.t h.u h.c h.ol hb hv (by omega)
 exact⟨v1,m1,T1,c1,⟨h1,hc1,b1,ja h.j0 h.j1 a1,jk h.j0 h.j1 k1 (by simp),h.o.keep k1 a1 (by simp),h.ol⟩,d1,e1,e2⟩
theorem UB.end (hN:Nq S)(h:UB m0 T m P s)(hbl:s.blks.length≤90)(e c:Int)(next:List Int)(st:Int){na:Option Addr}(hd:Zag (DQ T m) m na next) :
  ∃ m1 T',Zaq Tryd.prog TT S 23 [.agg #[.slice none 0 0,.int .i64 e,.int .i64 c,.slice na next.length next.length,.slice none 0 0,.int .i64 st],.pointer (some ⟨P.bb,0,none⟩),.pointer (some ⟨P.ub,0,none⟩)] m=some (.int .i64 (s.blks.length:Nat),m1)∧UB m0 T' m1 P (Zbp e c next st s):=by
 obtain⟨v1,m1,c1,rfl,T1,h1,hc1,a1,k1,b1⟩:=Z17 hN h.t h.u h.c (by omega) (e:=e) (c:=c) (st:=st) hd
 have hn:=h.j1.1
 obtain⟨oo,to⟩:=h.o
 obtain⟨fs,kk,hf⟩:=k1
 refine⟨m1,T1,c1,h1,hc1,b1,fun f hf=>(a1 f (by omega) (by rw [h.j0 f hf];split <;> omega)).trans (h.j0 f hf),jk h.j0 h.j1 ⟨fs,kk,hf⟩ (by simp),⟨oo.keep kk (fun hm=>?_),?_⟩,h.ol⟩
 ·have:=hf _ hm oo.flt
  rw [to] at this
  simp at this
 ·exact (a1 P.rf oo.flt (by rw [to];omega)).trans to
theorem UB.ints (h:UB m0 T m P s)(l:List Int){m1:Mem}(hr:m.new (ints l) 3=m1):∃ T',UB m0 T' m1 P s∧Zag (DQ T' m1) m1 (some ⟨m.next,0,none⟩) l∧Ag T T' m∧KT T [] m m1:=by
 obtain⟨T1,a1,⟨f1,o1,t1⟩,k1,n1,w1⟩:=Znw (m:=m) T 0 hr
 have kt:KT T [] m m1:=KT.of k1
 exact⟨T1,⟨h.u.keep kt a1 (by simp),h.c.keep kt a1 (by simp) (by simp),fun f=>by have:=h.t f;have:=w1 f;omega,ja h.j0 h.j1 a1,jk h.j0 h.j1 kt (by simp),h.o.keep kt a1 (by simp),h.ol⟩,⟨f1,Zpg ⟨by simp,Or.inr ⟨_,rfl,o1.rdo⟩⟩,fun _=>⟨t1,o1.flt⟩⟩,a1,kt⟩
theorem UB.preds (h:UB m0 T m P s){pa:Option Addr}{l:List Int}(hd:Zag (DQ T m) m pa l):∃ m1,Zad m ⟨P.bb,4,none⟩ [.slice pa l.length l.length]=some m1∧UB m0 T m1 P { s with bp:=l }:=by
 obtain⟨va,pa0,b1,b2,b3⟩:=h.u.b
 obtain⟨m1,e1,o1,k1⟩:=Zdq (off:=4) (vs:=[.slice pa l.length l.length]) rfl b1 (by simp) (by simp [Zae])
 simp [Zb1] at o1
 obtain⟨va',ba,sa,u1,u2,u3,u4⟩:=h.u.u
 obtain⟨ka,q1,q2⟩:=h.u.k
 exact⟨m1,e1,⟨⟨va',ba,sa,u1.keep k1 Ag.refl (by simp),u2.keep k1 Ag.refl (by simp) (by simp),u3.keep k1 Ag.refl (by simp) (by simp),u4.keep k1 Ag.refl (by simp) (by simp)⟩,⟨ka,q1.keep k1 Ag.refl (by simp),q2.keep k1 Ag.refl (by simp)⟩,⟨va,pa,o1,b2.keep k1 Ag.refl (by simp),Zan hd k1 Ag.refl (by simp)⟩,h.u.a.keep k1 Ag.refl (by simp)⟩,h.c.keep k1 Ag.refl (by simp) (by simp),h.t,h.j0,jk h.j0 h.j1 k1 (by simp),h.o.keep k1 Ag.refl (by simp),h.ol⟩
theorem UB.cut (h:UB m0 T m P s){k:Nat}(hk:k≤s.known.length)(h1:1≤k):∃ kv,loadRow m ⟨P.kb,0,none⟩ 1=some [.slice (some ⟨kv,0,none⟩) s.known.length s.known.length]∧∃ m1,Zad m ⟨P.kb,0,none⟩ [.slice (some ⟨kv,0,none⟩) k k]=some m1∧UB m0 T m1 P { s with known:=s.known.take k }:=by
 obtain⟨va,pa0,b1,b2,b3⟩:=h.u.b
 obtain⟨va',ba,sa,u1,u2,u3,u4⟩:=h.u.u
 obtain⟨ka,q1,q2⟩:=h.u.k
 obtain⟨f6,o6,t6⟩:=q2
 obtain⟨kv,rest,rfl,_⟩:=o6.own (by omega)
 obtain⟨f5,o5,t5⟩:=q1
 have l5:=o5.load1 (off:=0) rfl
 obtain⟨m1,e1,o1,k1⟩:=Zdq (off:=0) (vs:=[.slice (some ⟨kv,0,none⟩) k k]) rfl (⟨f5,o5,t5⟩:Zev T 5 m P.kb _ _) (by simp) (by simp [Zae])
 simp [Zb1] at o1
 have es:base.ints s.known=base.ints (s.known.take k)++base.ints (s.known.drop k):=by rw [← List.map_append,List.take_append_drop]
 have cut:SrT T 6 m (some ⟨kv,0,none⟩) k (base.ints (s.known.take k)) 3 1:=⟨f6,Sr.cut (more:=base.ints (s.known.drop k)) (n:=s.known.length) (by rw [← es];exact o6) (by simp;omega) (fun h=>by simp at h),t6⟩
 have lt:(s.known.take k).length=k:=by rw [List.length_take];omega
 refine⟨kv,l5,m1,e1,⟨⟨va',ba,sa,u1.keep k1 Ag.refl (by simp),u2.keep k1 Ag.refl (by simp) (by simp),u3.keep k1 Ag.refl (by simp) (by simp),u4.keep k1 Ag.refl (by simp) (by simp)⟩,⟨some ⟨kv,0,none⟩,?_,?_⟩,⟨va,pa0,b1.keep k1 Ag.refl (by simp),b2.keep k1 Ag.refl (by simp),Zan b3 k1 Ag.refl (by simp)⟩,h.u.a.keep k1 Ag.refl (by simp)⟩,h.c.keep k1 Ag.refl (by simp) (by simp),h.t,h.j0,jk h.j0 h.j1 k1 (by simp),h.o.keep k1 Ag.refl (by simp),h.ol⟩
 ·simp only [lt];exact o1
 ·simp only [lt];exact cut.keep k1 Ag.refl (by simp)
theorem UB.kns (h:UB m0 T m P s)(h1:UB m0 T' m1 P s1)(k:KT T is m m1)(a:Ag T T' m)(hi:5∉is)(e:s1.known=s.known)(hl:s.known.length≤900)(vs:List Int)(hvs:vs≠[])(hvl:vs.length≤2):∃ ka,loadRow m ⟨P.kb,0,none⟩ 1=some [.slice ka s.known.length s.known.length]∧loadRow m1 ⟨P.kb,0,none⟩ 1=some [.slice ka s.known.length s.known.length]∧
  loadRow (m1.new (base.ints vs) 3) ⟨P.kb,0,none⟩ 1=some [.slice ka s.known.length s.known.length]∧
  ∃ m2 ka2 m3 T2,Zal Tryd.prog 22 (m1.new (base.ints vs) 3) (.slice ka s.known.length s.known.length) (base.ints vs) vs.length=some (.slice ka2 (s.known.length+vs.length) (s.known.length+vs.length),m2)∧loadRow m2 ⟨P.kb,0,none⟩ 1=some [.slice ka s.known.length s.known.length]∧
   Zad m2 ⟨P.kb,0,none⟩ [.slice ka2 (s.known.length+vs.length) (s.known.length+vs.length)]=some m3∧UB m0 T2 m3 P { s1 with known:=s.known++vs }:=by
 have hz:vs.length≠0:=by simpa using hvs
 obtain⟨ka0,q1,q2⟩:=h.u.k
 obtain⟨ka,q11,q12⟩:=h1.u.k
 have q13:=q1.keep k a hi
 obtain⟨f0,o0,_⟩:=q1
 obtain⟨f1,o1,t1⟩:=q11
 obtain⟨f3,o3,_⟩:=q13
 have ec:=Zur o1 o3
 rw [e] at ec o1 q12
 have eka:ka=ka0:=by simpa using ec
 subst eka
 obtain⟨va,ba,sa,u1,u2,u3,u4⟩:=h1.u.u
 obtain⟨va',pa,b1,b2,b3⟩:=h1.u.b
 obtain⟨m2,ka2,T2,e2,r2,hne,a2,k2,w2⟩:=Z3c (m:=m1) (k:=vs.length) (news:=base.ints vs) (cs:=base.ints vs) (e0:=3) rfl u22 ap3 q12 hz (by simp) (by simp [Zau]) (by omega) (by omega)
 obtain⟨f2,o2,t2⟩:Zev T2 5 m2 P.kb _ _:=Zev.keep ⟨f1,o1,t1⟩ k2 a2 (by simp)
 obtain⟨m3,e3,o3',k3⟩:=Zdq (vs:=[.slice ka2 (s.known.length+vs.length) (s.known.length+vs.length)]) (off:=0) rfl (⟨f2,o2,t2⟩:Zev T2 5 m2 P.kb _ _) (by simp) (by simp [Zae])
 simp [Zb1] at o3'
 refine⟨ka,o0.load1 (off:=0) rfl,o1.load1 (off:=0) rfl,(o1.ln _ _ 0 1).trans (o1.load1 (off:=0) rfl),m2,ka2,m3,T2,e2,o2.load1 (off:=0) rfl,e3,⟨⟨va,ba,sa,(u1.keep k2 a2 (by simp)).keep k3 Ag.refl (by simp),(u2.keep k2 a2 (by simp) (by simp)).keep k3 Ag.refl (by simp) (by simp),(u3.keep k2 a2 (by simp) (by simp)).keep k3 Ag.refl (by simp) (by simp),(u4.keep k2 a2 (by simp) (by simp)).keep k3 Ag.refl (by simp) (by simp)⟩,⟨ka2,by simpa using o3',by simpa using r2.keep k3 Ag.refl (by simp)⟩,⟨va',pa,(b1.keep k2 a2 (by simp)).keep k3 Ag.refl (by simp),(b2.keep k2 a2 (by simp)).keep k3 Ag.refl (by simp),Zan (Zan b3 k2 a2 (by simp)) k3 Ag.refl (by simp)⟩,(h1.u.a.keep k2 a2 (by simp)).keep k3 Ag.refl (by simp)⟩,(h1.c.keep k2 a2 (by simp) (by simp)).keep k3 Ag.refl (by simp) (by simp),fun f=>by have:=h1.t f;have:=w2 f;omega,ja h1.j0 h1.j1 a2,jk h1.j0 h1.j1 ((k2.mono (by simp)).trans a2 (k3.mono (by simp)):KT T' [5,6] m1 m3) (by simp),(h1.o.keep k2 a2 (by simp)).keep k3 Ag.refl (by simp),h1.ol⟩
end Go.Proofs.YtcgmchechmbmeaaDoor.base
end
section
set_option maxRecDepth 100000
namespace Go.Proofs.YtcgmchechmbmeaaDoor.base
open Go.Sh gen
variable {S:Zb7}{T T':Tg}{m0 m m1 m2:Mem}{is js:List Nat}{s s1:Us}{P:Pl}
theorem Zgq {Q:Nat→Prop}{d:Zb.D}{c:List Value}(h:AtI Q m Zb d c):∃ ao,c=Zl4 d ao∧Zag Q m ao (Zd3 d):=by
 obtain⟨_,_,e1,rfl,_,_,e2,rfl,_,_,e3,rfl,_,_,e4,rfl,_,_,e5,h5,_,_,e6,rfl,h7⟩:=h
 simp only [AtI] at h7
 subst h7
 obtain⟨ao,f,rfl,hr,hqf⟩:=Zd h5
 exact⟨ao,by rw [e1,e2,e3,e4,e5,e6];rfl,f,hr,hqf⟩
theorem Ztn {css:List (List Value)}{z p k:Nat}(h:∀ x∈css,x.length=z)(hp:p < css.length)(hk:k < z):css.flatten[p * z+k]?=css[p][k]?:=by
 induction css generalizing p with
 | nil=>simp at hp
 | cons a r ih =>
  have ha:=h a (by simp)
  cases p with
  | zero=>simp only [Nat.zero_mul,Nat.zero_add,List.flatten_cons,List.getElem_cons_zero];rw [List.getElem?_append_left (by omega)]
  | succ p =>
   have:=ih (p:=p) (fun x hx=>h x (by simp [hx])) (by simpa using hp)
   simp only [List.flatten_cons,List.getElem_cons_succ] at this ⊢
   rw [List.getElem?_append_right (by rw [Nat.add_mul];omega),← this,Nat.add_mul]
   congr 1;omega
def Zrr (d:Zb.D)(l:List Int):Zb.D:=(d.1,d.2.1,d.2.2.1,d.2.2.2.1,l,d.2.2.2.2.2)
theorem Ziy.set {e i:Nat}{l:List Zb.D}{ao aa:Option Addr}{args:List Int}(h:Ziy T m e Zb l ao i)(hi:i≠0){p:Nat}(hp:p < l.length)(ha:Zag (DQ T m) m aa args) :
  ∃ vb m1,ao=some ⟨vb,0,none⟩∧Zad m ⟨vb,p * 6+4,none⟩ [.slice aa args.length args.length]=some m1∧Ziy T m1 e Zb (l.set p (Zrr l[p] args)) ao i∧KT T [i] m m1:=by
 obtain⟨css,h1,h2,fam,h3,h4⟩:=h
 obtain⟨vb,rfl,o⟩:=h3.own (by omega)
 have hpc:p < css.length:=by omega
 have hz:∀ x∈css,x.length=6:=fun x hx=>by
  obtain⟨j,hj,e⟩:=List.getElem_of_mem hx
  exact AtI.len (h2 j l[j] x (by simp) (by rw [← e];simp))
 have hlen:css.flatten.length=l.length * 6:=h3.1.symm
 have hb:p * 6+4+1≤css.flatten.length:=by omega
 obtain⟨m1,e1,o1,k1⟩:=Zdq (i:=i) (off:=p * 6+4) (vs:=[.slice aa args.length args.length]) rfl (⟨fam,o,h4 (by simp)⟩:Zev T i m vb css.flatten e) hb (by simp [Zae])
 rw [Zm7 hz hpc (by omega)] at o1
 obtain⟨fam1,o1,t1⟩:=o1
 refine⟨vb,m1,rfl,e1,⟨css.set p (css[p].set 4 (.slice aa args.length args.length)),by simp [h1],fun j d c hd hc=>?_,fam1,?_,fun _=>t1⟩,k1⟩
 ·have h0:(0:Nat)∉[i]:=by simp;omega
  by_cases hj:j=p
  ·subst hj
   rw [List.getElem?_set_self (by simpa using hp)] at hd
   rw [List.getElem?_set_self hpc] at hc
   simp at hd hc
   subst hd hc
   obtain⟨ao',e2,ha'⟩:=Zgq (h2 j l[j] css[j] (by simp) (by simp))
   have:=Zic (d:=Zrr l[j] args) (Zan ha k1 Ag.refl h0)
   rw [e2]
   exact this
  ·rw [List.getElem?_set_ne (by omega)] at hd
   rw [List.getElem?_set_ne (by omega)] at hc
   exact Zl3 (h2 j d c hd hc) k1 Ag.refl h0
 ·refine Sl.of o1 ?_
  rw [← Zm7 hz hpc (by omega)]
  simp [Zb1,-List.length_flatten]
  have:=h3.1
  omega
theorem Ziy.get {e i:Nat}{l:List Zb.D}{ao:Option Addr}(h:Ziy T m e Zb l ao i){p:Nat}(hp:p < l.length) :
  ∃ vb aa,ao=some ⟨vb,0,none⟩∧loadRow m ⟨vb,p * 6+4,none⟩ 1=some [.slice aa (Zd3 l[p]).length (Zd3 l[p]).length]∧Zag (DQ T m) m aa (Zd3 l[p]):=by
 obtain⟨css,h1,h2,fam,h3,h4⟩:=h
 obtain⟨vb,rfl,o⟩:=h3.own (by omega)
 have hpc:p < css.length:=by omega
 have hz:∀ x∈css,x.length=6:=fun x hx=>by
  obtain⟨j,hj,e⟩:=List.getElem_of_mem hx
  exact AtI.len (h2 j l[j] x (by simp) (by rw [← e];simp))
 obtain⟨aa,e2,ha⟩:=Zgq (h2 p l[p] css[p] (by simp) (by simp))
 refine⟨vb,aa,rfl,o.load1 ?_,ha⟩
 rw [Ztn hz hpc (by omega),e2]
 rfl
def Za8 (p:Nat)(l:List Int)(s:Us):Us:=if h:p < s.vals.length then { s with vals:=s.vals.set p (Zrr s.vals[p] l) } else s
theorem UB.args (h:UB m0 T m P s){p:Nat}(hp:p < s.vals.length)(l:List Int):∃ va,loadRow m ⟨P.ub,2,none⟩ 1=some [.slice (some ⟨va,0,none⟩) s.vals.length s.vals.length]∧
  ∃ m2 T2,Zad (m.new (base.ints l) 3) ⟨va,p * 6+4,none⟩ [.slice (some ⟨m.next,0,none⟩) l.length l.length]=some m2∧UB m0 T2 m2 P (Za8 p l s):=by
 obtain⟨T1,h1,d1,a1,k1⟩:=h.ints l rfl
 obtain⟨va,ba,sa,u1,u2,u3,u4⟩:=h.u.u
 obtain⟨ka,q1,q2⟩:=h1.u.k
 obtain⟨va',pa0,b1,b2,b3⟩:=h1.u.b
 have v1:=u1.keep k1 a1 (by simp)
 have v2:=u2.keep k1 a1 (by simp) (by simp)
 have v3:=u3.keep k1 a1 (by simp) (by simp)
 have v4:=u4.keep k1 a1 (by simp) (by simp)
 obtain⟨vb,m2,rfl,e2,r2,k2⟩:=v2.set (by omega) hp d1
 obtain⟨f1,o1,t1⟩:=u1
 have e:Za8 p l s={ s with vals:=s.vals.set p (Zrr s.vals[p] l) }:=dif_pos hp
 rw [e]
 exact⟨vb,o1.load1 (off:=2) rfl,m2,T1,e2,⟨⟨some ⟨vb,0,none⟩,ba,sa,by simpa using v1.keep k2 Ag.refl (by simp),r2,v3.keep k2 Ag.refl (by simp) (by simp),v4.keep k2 Ag.refl (by simp) (by simp)⟩,⟨ka,q1.keep k2 Ag.refl (by simp),q2.keep k2 Ag.refl (by simp)⟩,⟨va',pa0,b1.keep k2 Ag.refl (by simp),b2.keep k2 Ag.refl (by simp),Zan b3 k2 Ag.refl (by simp)⟩,h1.u.a.keep k2 Ag.refl (by simp)⟩,h1.c.keep k2 Ag.refl (by simp) (by simp),h1.t,h1.j0,jk h1.j0 h1.j1 k2 (by simp),h1.o.keep k2 Ag.refl (by simp),h1.ol⟩
theorem UB.arg0 (h:UB m0 T m P s){p:Nat}(hp:p < s.vals.length){x y:Int}(hx:Zd3 s.vals[p]=[x,y]):∃ (va:Nat) (aa:Nat × Nat),loadRow m ⟨P.ub,2,none⟩ 1=some [.slice (some ⟨va,0,none⟩) s.vals.length s.vals.length]∧
  loadRow m ⟨va,p * 6+4,none⟩ 1=some [.slice (some ⟨aa.1,aa.2,none⟩) 2 2]∧loadRow m ⟨aa.1,aa.2,none⟩ 1=some [.int .i64 x]:=by
 obtain⟨va,ba,sa,u1,u2,u3,u4⟩:=h.u.u
 obtain⟨vb,aa,rfl,l1,d1⟩:=u2.get hp
 obtain⟨f1,o1,t1⟩:=u1
 rw [hx] at l1 d1
 obtain⟨b,rfl,l2⟩:=d1.get (i:=0) (by simp)
 exact⟨vb,b,o1.load1 (off:=2) rfl,l1,l2⟩
end Go.Proofs.YtcgmchechmbmeaaDoor.base
end
section
set_option maxRecDepth 100000
namespace Go.Proofs.YtcgmchechmbmeaaDoor.base
open Go.Sh gen
variable {S:Zb7}{T T':Tg}{m0 m m1 m2:Mem}{is js:List Nat}{s s1:Us}{P:Pl}
def bpP (l:List Int)(s:Us):Us:={ s with bp:=l }
def Zgs (k:Nat)(s:Us):Us:={ s with known:=s.known.take k }
theorem UB.ll (h:UB m0 T m P s):∃ ka ba va,loadRow m ⟨P.kb,0,none⟩ 1=some [.slice ka s.known.length s.known.length]∧loadRow m ⟨P.ub,3,none⟩ 1=some [.slice ba s.blks.length s.blks.length]∧loadRow m ⟨P.ub,2,none⟩ 1=some [.slice va s.vals.length s.vals.length]∧
  loadRow m ⟨P.nx,0,none⟩ 1=some [.func (.func 20) #[] #[.pointer (some ⟨P.ab,0,none⟩),.pointer (some ⟨P.rb,0,none⟩)]]∧
  loadRow m ⟨P.px,0,none⟩ 1=some [.func (.func 19) #[] #[.pointer (some ⟨P.ub,0,none⟩),.pointer (some ⟨P.bb,0,none⟩)]]∧
  loadRow m ⟨P.sx,0,none⟩ 1=some [.func (.func 21) #[] #[.pointer (some ⟨P.ub,0,none⟩),.pointer (some ⟨P.nx,0,none⟩),.pointer (some ⟨P.kb,0,none⟩)]]:=by
 obtain⟨va,ba,sa,⟨f,o,_⟩,_⟩:=h.u.u
 obtain⟨ka,⟨f2,o2,_⟩,_⟩:=h.u.k
 exact⟨ka,ba,va,o2.load1 (off:=0) rfl,o.load1 (off:=3) rfl,o.load1 (off:=2) rfl,h.c.ln,h.c.lp,h.c.ls⟩
theorem UB.endn (hN:Nq S)(h:UB m0 T m P s)(hbl:s.blks.length≤90)(e c:Int)(next:List Int)(st:Int) :
  ∃ m1 T',Zaq Tryd.prog TT S 23 [.agg #[.slice none 0 0,.int .i64 e,.int .i64 c,.slice (some ⟨m.next,0,none⟩) next.length next.length,.slice none 0 0,.int .i64 st],.pointer (some ⟨P.bb,0,none⟩),.pointer (some ⟨P.ub,0,none⟩)] (m.new (base.ints next) 3)=some (.int .i64 (s.blks.length:Nat),m1)∧UB m0 T' m1 P (Zbp e c next st s):=by
 obtain⟨T1,h1,d1,a1,k1⟩:=h.ints next rfl
 exact h1.end hN hbl e c next st d1
theorem UB.predn (h:UB m0 T m P s)(l:List Int):∃ m2 T2,Zad (m.new (base.ints l) 3) ⟨P.bb,4,none⟩ [.slice (some ⟨m.next,0,none⟩) l.length l.length]=some m2∧UB m0 T2 m2 P (bpP l s):=by
 obtain⟨T1,h1,d1,a1,k1⟩:=h.ints l rfl
 obtain⟨m2,e2,h2⟩:=h1.preds d1
 exact⟨m2,T1,e2,h2⟩
theorem Bd.end (h:Bd P.ops s)(e c:Int)(next:List Int)(st:Int):Bd P.ops (Zbp e c next st s):=⟨h.k1,h.k2,by simp [Zbp],by simp [Zbp];have:=h.st;omega,h.a⟩
theorem Bd.bp (h:Bd P.ops s)(l:List Int):Bd P.ops (bpP l s):=⟨h.k1,h.k2,h.b,h.st,h.a⟩
theorem Bd.cut (h:Bd P.ops s){k:Nat}(hk:1≤k):Bd P.ops (Zgs k s):=⟨by have:=h.k1;simp only [Zgs,List.length_take];omega,by have:=h.k2;simp only [Zgs,List.length_take];omega,h.b,h.st,h.a⟩
theorem Bd.stend (h:Bd P.ops s)(e c:Int)(next:List Int)(st:Int):Bd P.ops (Zbp e c next st (Zac P.ops s).1):=by
 obtain⟨h0,h1,h2,h3,h4,h5,h6⟩:=Zde (d:=(0,0,0,0,[],0,())) h
 exact⟨by simp only [Zbp];rw [h2];exact h.k1,by simp only [Zbp];rw [h2,h1];exact h.k2,by simp [Zbp],by simp only [Zbp,List.length_append,List.length_cons,List.length_nil];rw [h5,h1,h4];have:=h.st;omega,h6⟩
theorem Zss {ops:List Int}(h:Bd ops s)(a b k:Int):s.known.length≤(Zd5 ops a b k s).known.length:=by
 have n:=fun q=>(Za6 (ops:=ops) (s:=s) q).1
 have e:=(Zde (d:=(0,0,0,0,[],0,())) h).2.2.1
 unfold Zd5
 repeat' split
 all_goals first
  | (simp only [knP,Zbi,List.length_append,List.length_cons,List.length_nil,n];omega)
  | (simp only [Zbi,Zbc,n,e];omega)
theorem Zuz {ops:List Int}(h:Bd ops s)(a b k:Int):Bd ops (Zd5 ops a b k s):=by
 unfold Zd5
 repeat' split
 all_goals first
  | exact h.kn _
  | exact (h.next _).kn _
  | exact (h.next _).put _
  | exact (Zfy h).put _
  | exact (Zde h _).1
theorem Ztp {ops:List Int}(k:Nat):∀ {s:Us},Bd ops s→s.known.length≤(Zgj ops k s).known.length:=by
 induction k with
 | zero=>intro s h;exact Nat.le_refl _
 | succ k ih =>
  intro s h
  rw [Zgj]
  split
  ·have h1:=Zfy h
   have h2:=Zfy h1
   have h3:=h2.next 20
   have e1:=(Za6 (ops:=ops) (s:=s) (s.known.length:Nat)).1
   have e2:=(Za6 (ops:=ops) (s:=(Zbc ops s).1) ((Zbc ops s).1.known.length:Nat)).1
   have e3:=(Za6 (ops:=ops) (s:=(Zbc ops (Zbc ops s).1).1) 20).1
   have h4:=Zss h3 (Zbc ops s).2 (Zbc ops (Zbc ops s).1).2 (Zar ops 20 (Zbc ops (Zbc ops s).1).1).2
   have h5:=ih (Zuz h3 (Zbc ops s).2 (Zbc ops (Zbc ops s).1).2 (Zar ops 20 (Zbc ops (Zbc ops s).1).1).2)
   have e12:(Zbc ops (Zbc ops s).1).1.known.length=s.known.length:=by
    have:(Zbc ops (Zbc ops s).1).1.known=(Zbc ops s).1.known:=e2
    rw [this]
    exact congrArg List.length e1
   rw [e3,e12] at h4
   exact Nat.le_trans h4 h5
  ·exact Nat.le_refl _
theorem Zit {ops:List Int}(h:Bd ops s):s.known.length≤(Zf0 ops s).known.length:=by
 have e:=(Za6 (ops:=ops) (s:=s) 6).1
 have:=Ztp (1+(Zar ops 6 s).2.toNat) (h.next 6)
 rw [e] at this
 exact this
theorem UB.last (h:UB m0 T m P s)(h1:1≤s.known.length):∃ kv,loadRow m ⟨P.kb,0,none⟩ 1=some [.slice (some ⟨kv,0,none⟩) s.known.length s.known.length]∧loadRow m ⟨kv,s.known.length - 1,none⟩ 1=some [.int .i64 (Zcw s)]:=by
 obtain⟨ka,kv,l1,rfl,l2⟩:=h.u.known (j:=s.known.length - 1) (by omega)
 exact⟨kv,l1,l2⟩
theorem UB.lvn (h:UB m0 T m P s)(cs:List Value)(e:TypeId):loadRow (m.new cs e) ⟨P.ub,2,none⟩ 1=loadRow m ⟨P.ub,2,none⟩ 1:=by
 obtain⟨va,ba,sa,⟨f,o,_⟩,_⟩:=h.u.u
 exact o.ln _ _ 2 1
theorem Zr8 (a:Option Addr)(n c:Nat):eqV (.slice a n c) (.slice a n c)=true:=by simp [eqV]
theorem UB.args0 (h:UB m0 T m P s){p:Nat}(hp:p < s.vals.length){x y:Int}(hx:Zd3 s.vals[p]=[x,y])(l:List Int):∃ (va:Nat) (aa:Nat × Nat),loadRow m ⟨P.ub,2,none⟩ 1=some [.slice (some ⟨va,0,none⟩) s.vals.length s.vals.length]∧
  loadRow m ⟨va,p * 6+4,none⟩ 1=some [.slice (some ⟨aa.1,aa.2,none⟩) 2 2]∧loadRow m ⟨aa.1,aa.2,none⟩ 1=some [.int .i64 x]∧
  ∃ m2 T2,Zad (m.new (base.ints l) 3) ⟨va,p * 6+4,none⟩ [.slice (some ⟨m.next,0,none⟩) l.length l.length]=some m2∧UB m0 T2 m2 P (Za8 p l s):=by
 obtain⟨va,aa,l1,l2,l3⟩:=h.arg0 hp hx
 obtain⟨vb,l4,m2,T2,e,h2⟩:=h.args hp l
 have ev:vb=va:=by
  rw [l1] at l4
  simpa using l4.symm
 subst ev
 exact⟨vb,aa,l1,l2,l3,m2,T2,e,h2⟩
theorem Zf2 {p:Nat}{l:List Int}:(Za8 p l s).vals.length=s.vals.length∧(Za8 p l s).known=s.known∧(Za8 p l s).blks=s.blks∧(Za8 p l s).bv=s.bv∧(Za8 p l s).sts=s.sts∧(Za8 p l s).at_=s.at_:=by
 unfold Za8
 split
 ·exact⟨by simp,rfl,rfl,rfl,rfl,rfl⟩
 ·exact⟨rfl,rfl,rfl,rfl,rfl,rfl⟩
theorem Bd.sets (h:Bd P.ops s)(p:Nat)(l:List Int):Bd P.ops (Za8 p l s):=by
 obtain⟨e1,e2,e3,e4,e5,e6⟩:=Zf2 (s:=s) (p:=p) (l:=l)
 exact⟨by rw [e2];exact h.k1,by rw [e2,e1];exact h.k2,by rw [e4,e1];exact h.b,by rw [e5,e1,e3];exact h.st,by rw [e6];exact h.a⟩
def Znx (ops:List Int)(q:Nat)(x:Int)(here:Nat)(hh:Int)(s:Us):Us:=Zf0 ops (bpP [hh] (Zbp 1 0 [hh] 0 (Zgs here (Za8 q [x,Zcw s] s))))
def Zmt (ops:List Int)(s:Us):Us:=
 let s2:=Zbp 2 (Zbc ops s).2 [(s.blks.length:Nat)+1,(s.blks.length:Nat)+2] 0 (Zbc ops s).1
 let s4:=Zf0 ops (bpP [(s.blks.length:Nat)] s2)
 let s5:=Zbp 3 0 [] (Zac ops s4).2 (Zac ops s4).1
 Zf0 ops (bpP [(s.blks.length:Nat)] (Zgs s.known.length s5))
def Zw0 (ops:List Int)(s:Us):Us:=
 let b:Int:=(s.blks.length:Nat)
 let s2:=Zbp 2 (Zbc ops s).2 [b+1,b+2] 0 (Zbc ops s).1
 let s4:=Zf0 ops (bpP [b] s2)
 let s5:=Zbp 1 0 [(s4.blks.length:Nat)+2] 0 (Zgs s.known.length s4)
 let s6:=Zf0 ops (bpP [b] s5)
 let s7:=Zbp 1 0 [(s6.blks.length:Nat)+1] 0 (Zgs s.known.length s6)
 Zf0 ops (knP (21,0,0,0,[Zcw s4,Zcw s6],0,()) (bpP [(s4.blks.length:Nat),(s6.blks.length:Nat)] s7))
def Zlt (ops:List Int)(s:Us):Us:=
 let b:Int:=(s.blks.length:Nat)
 let f:=(Zbc ops s).2
 let s1:=bpP [b,b+2] (Zbp 1 0 [b+1] 0 (Zbc ops s).1)
 let p:Int:=(s1.vals.length:Nat)
 let s2:=Zbi (21,0,0,0,[f,0],0,()) s1
 let a:=Zbc ops s2
 let q:Int:=(a.1.vals.length:Nat)
 let s3:=Zbi (21,0,0,0,[a.2,p],0,()) a.1
 let s4:={ s3 with known:=s3.known++[p,q] }
 let s5:=Zbi (23,0,0,0,[],(Zac ops s4).2,()) (Zac ops s4).1
 let s6:=Zbi (2,0,0,1,[],0,()) s5
 let s7:=knP (4,p,(s5.vals.length:Nat),0,[],0,()) s6
 let s8:=Zbp 2 p [b+2,b+3] 0 s7
 let s9:=Za8 p.toNat [f,(s6.vals.length:Nat)] (Zf0 ops (bpP [b+1] s8))
 let n:=Zar ops 3 s9
 let s10:=if n.2=0 then Za8 p.toNat [f,Zcw n.1] n.1 else n.1
 Znx ops q.toNat a.2 s8.known.length (b+1) s10
end Go.Proofs.YtcgmchechmbmeaaDoor.base
end
section
set_option maxRecDepth 100000
namespace Go.Proofs.YtcgmchechmbmeaaDoor.base
open Go.Sh gen
variable {S:Zb7}{T T':Tg}{m0 m m1 m2:Mem}{is js:List Nat}{s s1:Us}{P:Pl}
set_option maxHeartbeats 8000000 in
theorem Z1h (hN:Nq S)(h:UB m0 T m P s)(hb:Bd P.ops s)(hv:s.vals.length < 160)(hbl:s.blks.length≤20){K:List Fr}{rs:List ResultVar}{A:Value→Mem→Prop}{i:Nat} :
  (∀ m1 T1,UB m0 T1 m1 P (Zmt P.ops s)→Bd P.ops (Zmt P.ops s)→(Zmt P.ops s).blks.length≤s.blks.length+3→(Zmt P.ops s).vals.length≤300→W Tryd.prog TT S 86 [126,209,298] .skip K [(1,.pointer (some ⟨P.rb,0,none⟩)),(2,.pointer (some ⟨P.rc,0,none⟩)),(3,.pointer (some ⟨P.ub,0,none⟩)),(5,.pointer (some ⟨P.kb,0,none⟩)),(6,.pointer (some ⟨P.bb,0,none⟩)),(7,.pointer (some ⟨P.px,0,none⟩)),(10,.pointer (some ⟨P.nx,0,none⟩)),(11,.pointer (some ⟨P.sx,0,none⟩)),(12,.func (.func 22) #[] #[.pointer (some ⟨P.nx,0,none⟩),.pointer (some ⟨P.ub,0,none⟩),.pointer (some ⟨P.kb,0,none⟩),.pointer (some ⟨P.px,0,none⟩),.pointer (some ⟨P.sx,0,none⟩)]),(13,.func (.func 23) #[] #[.pointer (some ⟨P.bb,0,none⟩),.pointer (some ⟨P.ub,0,none⟩)]),(14,.int .i64 (i:Nat))] m1 (QF Tryd.prog rs A))→
  W Tryd.prog TT S 86 [126,209,298] (.seq (rgn TT 7 61) (.seq (rgn TT 7 62) (.seq (rgn TT 7 63) (.seq (rgn TT 7 64) (.seq (rgn TT 7 65) (.seq (rgn TT 7 66) (.seq (rgn TT 7 67) (.seq (rgn TT 7 68) (rgn TT 7 69))))))))) K [(1,.pointer (some ⟨P.rb,0,none⟩)),(2,.pointer (some ⟨P.rc,0,none⟩)),(3,.pointer (some ⟨P.ub,0,none⟩)),(5,.pointer (some ⟨P.kb,0,none⟩)),(6,.pointer (some ⟨P.bb,0,none⟩)),(7,.pointer (some ⟨P.px,0,none⟩)),(10,.pointer (some ⟨P.nx,0,none⟩)),(11,.pointer (some ⟨P.sx,0,none⟩)),(12,.func (.func 22) #[] #[.pointer (some ⟨P.nx,0,none⟩),.pointer (some ⟨P.ub,0,none⟩),.pointer (some ⟨P.kb,0,none⟩),.pointer (some ⟨P.px,0,none⟩),.pointer (some ⟨P.sx,0,none⟩)]),(13,.func (.func 23) #[] #[.pointer (some ⟨P.bb,0,none⟩),.pointer (some ⟨P.ub,0,none⟩)]),(14,.int .i64 (i:Nat))] m (QF Tryd.prog rs A):=by
 intro meth
 have g1:=hb.k1
 have g2:=hb.k2
 obtain⟨k,K0⟩:∃ k,s.known.length=k:=⟨_,rfl⟩
 obtain⟨b,L0⟩:∃ b,s.blks.length=b:=⟨_,rfl⟩
 obtain⟨m1,kv,x,c1,hx,hy,hz,B1,kt1,la,lb,lx,D1,K1,V1,L1⟩:=h.any hN hb (by omega)
 obtain⟨_,_,_,_,_,_,lN,_⟩:=h.ll
 obtain⟨_,_,_,_,_,_,lN1,_⟩:=B1.ll
 simp [-Int.natCast_add,-w7_62,Zdl _ _ (Zpt _ _),c1,hx,hz,la,lb,lx,lN]
 have w1:IntKind.i64.wrap ((b:Int)+1)=(b:Int)+1:=Zab (by omega) (by omega)
 have w2:IntKind.i64.wrap ((b:Int)+2)=(b:Int)+2:=Zab (by omega) (by omega)
 have ek:(Zbc P.ops s).1.known.length=k:=by rw [K1];exact K0
 have el:(Zbc P.ops s).1.blks.length=b:=by rw [L1];exact L0
 have ev:(Zbc P.ops s).1.vals.length < 160:=by rw [V1];exact hv
 obtain⟨E,hE⟩:∃ E,Zmt P.ops s=E:=⟨_,rfl⟩
 rw [hE] at meth
 unfold Zmt at hE
 dsimp only at hE
 rw [L0,K0] at hE
 generalize (Zbc P.ops s).1=s1 at *
 generalize (Zbc P.ops s).2=cv at *
 clear K1 V1 L1 lx
 obtain⟨m2,T2,c2,B2⟩:=B1.endn hN (by omega) 2 cv [(b:Int)+1,(b:Int)+2] 0
 obtain⟨_,ba1,_,_,lb1,_⟩:=B1.ll
 rw [el] at c2 lb1
 have c2:Zaq Tryd.prog TT S 23 [.agg #[.slice none 0 0,.int .i64 2,.int .i64 cv,.slice (some ⟨m1.next,0,none⟩) 2 2,.slice none 0 0,.int .i64 0],.pointer (some ⟨P.bb,0,none⟩),.pointer (some ⟨P.ub,0,none⟩)] (m1.new [.int .i64 ((b:Int)+1),.int .i64 ((b:Int)+2)] 3)=some (.int .i64 (b:Nat),m2):=c2
 simp [-Int.natCast_add,-w7_63,Za2 Zym,Za u22 bs3 rfl,lb1,w1,w2,c2]
 have D2:=D1.end 2 cv [(b:Int)+1,(b:Int)+2] 0
 have ek2:(Zbp 2 cv [(b:Int)+1,(b:Int)+2] 0 s1).known.length=k:=ek
 have ev2:(Zbp 2 cv [(b:Int)+1,(b:Int)+2] 0 s1).vals.length < 160:=ev
 have el2:(Zbp 2 cv [(b:Int)+1,(b:Int)+2] 0 s1).blks.length=b+1:=by simp [Zbp,el]
 generalize Zbp 2 cv [(b:Int)+1,(b:Int)+2] 0 s1=s2 at *
 obtain⟨ka2,_,_,lk2,_⟩:=B2.ll
 rw [ek2] at lk2
 obtain⟨m3,T3,e3,B3⟩:=B2.predn [(b:Int)]
 have e3:Zad (m2.new [.int .i64 (b:Int)] 3) ⟨P.bb,4,none⟩ [.slice (some ⟨m2.next,0,none⟩) 1 1]=some m3:=e3
 simp [-Int.natCast_add,-w7_64,lk2]
 simp [-Int.natCast_add,-w7_65,Za u22 bs3 rfl,e3]
 have D3:=D2.bp [(b:Int)]
 have ek3:(bpP [(b:Int)] s2).known.length=k:=ek2
 have ev3:(bpP [(b:Int)] s2).vals.length < 160:=ev2
 have el3:(bpP [(b:Int)] s2).blks.length=b+1:=el2
 generalize (bpP [(b:Int)] s2)=s3 at *
 obtain⟨v4,m4,T4,c4,B4,D4,V4,L4⟩:=B3.row hN D3 (by omega) (by omega)
 have ek4:=Zit D3
 rw [ek3] at ek4
 rw [L4.symm] at el3
 simp [-Int.natCast_add,-w7_66,c4]
 generalize Zf0 P.ops s3=s4 at *
 obtain⟨m5,T5,c5,B5⟩:=B4.state hN D4 (by omega) (by omega)
 obtain⟨_,_,_,_,_,_,_,_,lS4⟩:=B4.ll
 obtain⟨_,f1,f2,_,f4,_,_⟩:=Zde (d:=(0,0,0,0,[],0,())) D4
 have D6:=D4.stend 3 0 [] (Zac P.ops s4).2
 have ek6:k≤(Zbp 3 0 [] (Zac P.ops s4).2 (Zac P.ops s4).1).known.length:=by simp only [Zbp];rw [f2];exact ek4
 have ev6:(Zbp 3 0 [] (Zac P.ops s4).2 (Zac P.ops s4).1).vals.length≤200:=by simp only [Zbp];rw [f1];omega
 have el6:(Zbp 3 0 [] (Zac P.ops s4).2 (Zac P.ops s4).1).blks.length=b+2:=by simp only [Zbp,List.length_append,List.length_cons,List.length_nil];rw [f4];omega
 obtain⟨m6,T6,c6,B6⟩:=B5.end hN (by rw [f4];omega) 3 0 [] (Zac P.ops s4).2 Zdn
 have c6:Zaq Tryd.prog TT S 23 [.agg #[.slice none 0 0,.int .i64 3,.int .i64 0,.slice none 0 0,.slice none 0 0,.int .i64 (Zac P.ops s4).2],.pointer (some ⟨P.bb,0,none⟩),.pointer (some ⟨P.ub,0,none⟩)] m5=some (.int .i64 ((Zac P.ops s4).1.blks.length:Nat),m6):=c6
 simp [-Int.natCast_add,-w7_67,Za2 Zym,lS4,c5,c6]
 generalize Zbp 3 0 [] (Zac P.ops s4).2 (Zac P.ops s4).1=s6 at *
 obtain⟨kv7,l7,m7,e7,B7⟩:=B6.cut ek6 (by omega)
 have B7:UB m0 T6 m7 P (Zgs k s6):=B7
 have q6:=D6.k2
 have hk6:(k:Int)≤s6.known.length:=by omega
 have hk7:(k:Int)≤9223372036854775807:=by omega
 simp [-Int.natCast_add,-w7_68,Zcd u22 sz3,l7,ek6,hk7,e7]
 have D7:=D6.cut (k:=k) (by omega)
 have ev7:(Zgs k s6).vals.length≤200:=ev6
 have el7:(Zgs k s6).blks.length=b+2:=el6
 generalize (Zgs k s6)=s7 at *
 obtain⟨m8,T8,e8,B8⟩:=B7.predn [(b:Int)]
 have e8:Zad (m7.new [.int .i64 (b:Int)] 3) ⟨P.bb,4,none⟩ [.slice (some ⟨m7.next,0,none⟩) 1 1]=some m8:=e8
 simp [-Int.natCast_add,-w7_69,Za u22 bs3 rfl,e8]
 have D8:=D7.bp [(b:Int)]
 have ev8:(bpP [(b:Int)] s7).vals.length≤200:=ev7
 have el8:(bpP [(b:Int)] s7).blks.length=b+2:=el7
 generalize (bpP [(b:Int)] s7)=s8 at *
 obtain⟨v9,m9,T9,c9,B9,D9,V9,L9⟩:=B8.row hN D8 (by omega) (by omega)
 simp [-Int.natCast_add,c9]
 rw [hE] at B9 D9 V9 L9
 exact Zut.1 (Zb2 (E:=[(1,.pointer (some ⟨P.rb,0,none⟩)),(2,.pointer (some ⟨P.rc,0,none⟩)),(3,.pointer (some ⟨P.ub,0,none⟩)),(5,.pointer (some ⟨P.kb,0,none⟩)),(6,.pointer (some ⟨P.bb,0,none⟩)),(7,.pointer (some ⟨P.px,0,none⟩)),(10,.pointer (some ⟨P.nx,0,none⟩)),(11,.pointer (some ⟨P.sx,0,none⟩)),(12,.func (.func 22) #[] #[.pointer (some ⟨P.nx,0,none⟩),.pointer (some ⟨P.ub,0,none⟩),.pointer (some ⟨P.kb,0,none⟩),.pointer (some ⟨P.px,0,none⟩),.pointer (some ⟨P.sx,0,none⟩)]),(13,.func (.func 23) #[] #[.pointer (some ⟨P.bb,0,none⟩),.pointer (some ⟨P.ub,0,none⟩)]),(14,.int .i64 (i:Nat))]) (meth m9 T9 B9 D9 (by rw [L9];omega) (by omega)) (by repeat' constructor))
end Go.Proofs.YtcgmchechmbmeaaDoor.base
end
