/- This text proves what turnstonehand.Unit does, Zbr the abstract run: its start. Condition: nothing is known of the calls ahead ('S f = []'). -/
import Derived.Test.YtlogdohlcdhepaaDoorM15
import Derived.Test.YtlogdohlcdhepaaDoorM16
import Derived.Test.YtlogdohlcdhepaaDoorM12
set_option linter.unusedVariables false
set_option linter.unusedSimpArgs false
section
set_option maxRecDepth 100000
namespace Go.Proofs.YtlogdohlcdhepaaDoor.base
open Go.Sh gen
variable {S:Zb2}{T T':Tg}{m0 m m1 m2:Mem}{is js:List Nat}{s s1:Us}{P:Pl}
theorem Zo9 (f:Fn)(a b:Array Value):(Value.func f a b).cells=#[Value.func f a b]:=by
 rw [Value.cells]
 intro _ h
 cases h
theorem Zkj (T:Tg)(i:Nat){zs vs:List Value}{e:TypeId}{r:Option Mem}(hr:Zaf (m.new zs e) ⟨m.next,0,none⟩ vs=r)(hl:zs.length=vs.length)(h1:vs.all one=true) :
  ∃ m1 T',r=some m1∧Ag T T' m∧Zes T' i m1 m.next vs e∧KT T [] m m1∧∀ f,T' f=T f∨T' f=i:=by
 obtain⟨o,k,n⟩:=Zat (m:=m) (cs:=zs) (e:=e) rfl
 obtain⟨m1,h2,o1,k2⟩:=Zaj hr o (off:=0) (by omega) h1
 have e:Zbr zs 0 vs=vs:=by simp [Zbr,← hl]
 rw [e] at o1
 exact⟨m1,fun f=>if f=m.next then i else T f,h2,fun f hf=>if_neg (by omega),⟨_,o1,if_pos rfl⟩,KT.of (k.fresh k2 (by simp)),fun f=>by simp only;split <;> simp⟩
def Us0:Us:=⟨[],[],[],[],[],[],0⟩
def Zb:Nat→Us
 | 0=>Us0
 | i+1=>knP (1,0,0,(i:Nat),[],0,()) (Zb i)
theorem Zhz (k:Nat):(Zb k).vals.length=k∧(Zb k).known.length=k∧(Zb k).bv.length=k∧(Zb k).blks=[]∧(Zb k).sts=[]∧(Zb k).at_=0:=by
 induction k with
 | zero=>exact⟨rfl,rfl,rfl,rfl,rfl,rfl⟩
 | succ k ih=>obtain⟨h1,h2,h3,h4,h5,h6⟩:=ih;exact⟨by simp [Zb,knP,Zbi,h1],by simp [Zb,knP,h2],by simp [Zb,knP,Zbi,h3],h4,h5,h6⟩
theorem Zow {T:Tg}{m:Mem}{px ub bb:Nat}(o:Zes T 10 m px [.func (.func 31) #[] #[.pointer (some ⟨ub,0,none⟩),.pointer (some ⟨bb,0,none⟩)]] 85):loadRow m ⟨px,0,none⟩ 1=some [.func (.func 31) #[] #[.pointer (some ⟨ub,0,none⟩),.pointer (some ⟨bb,0,none⟩)]]∧∀ v:Int,loadRow (m.new [.int .i64 v] 3) ⟨px,0,none⟩ 1=some [.func (.func 31) #[] #[.pointer (some ⟨ub,0,none⟩),.pointer (some ⟨bb,0,none⟩)]]:=by
 obtain⟨f,o,_⟩:=o
 have l:=o.load1 (off:=0) rfl
 exact⟨l,fun v=>(o.ln _ _ 0 1).trans l⟩
theorem Zxc (ops:List Int)(d:Zbj.D)(k:Nat):Bd ops (knP d (Zb k)):=by
 obtain⟨h1,h2,h3,h4,h5,h6⟩:=Zhz k
 exact⟨by simp [knP],by simp [knP,Zbi,h1,h2],by simp [knP,Zbi,h1,h3],by simp [knP,Zbi,h5],by simp [knP,Zbi,h6]⟩
def Us.un (s:Us):UnT.D:=(1,2,s.vals,s.blks,s.sts,())
theorem Zig.at {T:Tg}{m:Mem}{e i:Nat}{t:Ty}{l:List t.D}{ao:Option Addr}(h:Zig T m e t l ao i):AtQ (fun f=>f < m.next) m (.slice e t) l [.slice ao l.length l.length]:=by
 obtain⟨css,h1,h2,fam,h3,_⟩:=h
 refine⟨ao,css,fam,rfl,h1,fun j d c hd hc=>(h2 j d c hd hc).mono (fun f hq=>hq.2),h3.rs,fun hn=>?_⟩
 obtain⟨b,_,o⟩:=h3.own hn
 exact o.flt
set_option maxHeartbeats 4000000 in
theorem Z17 (hN:Nq S)(h:UB m0 T m P s)(hb:Bd P.ops s)(hv:s.vals.length≤300)(hbl:s.blks.length≤20){A:Value→Mem→Prop}{i:Nat}
  (meth:∀ va ba sa m1,UAt (fun f=>f < m1.next) m1 (Zbn 3 0 [] (Zae P.ops s).2 (Zae P.ops s).1).un va ba sa→Zaa m0 m1 []→A (.agg #[.int .i64 1,.int .i64 2,.slice va (Zbn 3 0 [] (Zae P.ops s).2 (Zae P.ops s).1).vals.length (Zbn 3 0 [] (Zae P.ops s).2 (Zae P.ops s).1).vals.length,.slice ba (Zbn 3 0 [] (Zae P.ops s).2 (Zae P.ops s).1).blks.length (Zbn 3 0 [] (Zae P.ops s).2 (Zae P.ops s).1).blks.length,.slice sa (Zbn 3 0 [] (Zae P.ops s).2 (Zae P.ops s).1).sts.length (Zbn 3 0 [] (Zae P.ops s).2 (Zae P.ops s).1).sts.length]) m1) :
  W Tryd.prog TT S 86 [126,209,298] (.seq (rgn TT 13 71) (.seq (rgn TT 13 72) .ret)) [] [(1,.pointer (some ⟨P.rb,0,none⟩)),(2,.pointer (some ⟨P.rc,0,none⟩)),(3,.pointer (some ⟨P.ub,0,none⟩)),(5,.pointer (some ⟨P.kb,0,none⟩)),(6,.pointer (some ⟨P.bb,0,none⟩)),(7,.pointer (some ⟨P.px,0,none⟩)),(10,.pointer (some ⟨P.nx,0,none⟩)),(11,.pointer (some ⟨P.sx,0,none⟩)),(12,.func (.func 34) #[] #[.pointer (some ⟨P.nx,0,none⟩),.pointer (some ⟨P.ub,0,none⟩),.pointer (some ⟨P.kb,0,none⟩),.pointer (some ⟨P.px,0,none⟩),.pointer (some ⟨P.sx,0,none⟩)]),(13,.func (.func 35) #[] #[.pointer (some ⟨P.bb,0,none⟩),.pointer (some ⟨P.ub,0,none⟩)]),(14,.int .i64 (i:Nat))] m (QF Tryd.prog [.cell 2 34] A):=by
 obtain⟨m5,T5,c5,B5⟩:=h.state hN hb (by omega) (by omega)
 obtain⟨_,_,_,_,_,_,_,_,lS⟩:=h.ll
 obtain⟨_,f1,f2,_,f4,_,_⟩:=Zc7 (d:=(0,0,0,0,[],0,())) hb
 obtain⟨m6,T6,c6,B6⟩:=B5.end hN (by rw [f4];omega) 3 0 [] (Zae P.ops s).2 Zdr
 have c6:Zag Tryd.prog TT S 35 [.agg #[.slice none 0 0,.int .i64 3,.int .i64 0,.slice none 0 0,.slice none 0 0,.int .i64 (Zae P.ops s).2],.pointer (some ⟨P.bb,0,none⟩),.pointer (some ⟨P.ub,0,none⟩)] m5=some (.int .i64 ((Zae P.ops s).1.blks.length:Nat),m6):=c6
 simp [-Int.natCast_add,-w13_72,Zau Zz5,lS,c5,c6]
 generalize Zbn 3 0 [] (Zae P.ops s).2 (Zae P.ops s).1=s6 at *
 obtain⟨va,ba,sa,u1,u2,u3,u4⟩:=B6.u.u
 obtain⟨m7,e7,o7,k7⟩:=Zc6 (off:=0) (vs:=[.int .i64 1,.int .i64 2,.slice va s6.vals.length s6.vals.length,.slice ba s6.blks.length s6.blks.length,.slice sa s6.sts.length s6.sts.length]) rfl B6.o (by simp) (by simp [Zam,Zad])
 simp [Zbr] at o7
 obtain⟨f8,o8,_⟩:=o7
 have l8:=o8.load (off:=0) 5 (by simp)
 obtain⟨f9,o9,_⟩:=u1
 have l9:=o9.load (off:=0) 5 (by simp)
 simp only [Zao,List.drop_zero,List.take] at l8 l9
 simp [-Int.natCast_add,Zdf Ybj,l9,e7,l8]
 exact meth va ba sa m7 ⟨Zig.at (u2.keep k7 Ag.refl (by simp) (by simp)),Zig.at (u3.keep k7 Ag.refl (by simp) (by simp)),Zig.at (u4.keep k7 Ag.refl (by simp) (by simp))⟩ (jk B6.j0 B6.j1 k7 (by simp))
def Zdd (ops:List Int):List Int→Nat→Us→Us
 | [],_,s=>s
 | _::_,0,s=>s
 | x::r,j+1,s=>if s.vals.length < 160 then Zdd ops r j (if x % 3=0 then Zwx ops s else if x % 3=1 then Zla ops s else Zl7 ops s) else s
def Zcx (ops sh:List Int)(n:Int):Us:=
 let s:=Zdd ops sh 6 (Zfx ops (knP (2,0,0,5,[],0,()) (Zb (n % 5).toNat)))
 Zbn 3 0 [] (Zae ops s).2 (Zae ops s).1
set_option maxHeartbeats 8000000 in
theorem Z2o (hN:Nq S){oa sa:Option Addr}{ops sh:List Int}{n:Int}(ho:Za2 (fun f=>f < m0.next) m0 oa ops)(hs:Za2 (fun f=>f < m0.next) m0 sa sh)(hol:ops.length≤9223372036854775807) :
  ∃ v m1,Zag Tryd.prog TT S 13 [.agg #[.slice oa ops.length ops.length,.slice sa sh.length sh.length,.int .i64 n]] m0=some (v,m1)∧∃ va ba sa,v=.agg #[.int .i64 1,.int .i64 2,.slice va (Zcx ops sh n).vals.length (Zcx ops sh n).vals.length,.slice ba (Zcx ops sh n).blks.length (Zcx ops sh n).blks.length,.slice sa (Zcx ops sh n).sts.length (Zcx ops sh n).sts.length]∧UAt (fun f=>f < m1.next) m1 (Zcx ops sh n).un va ba sa∧Zaa m0 m1 []∧(1≤(Zcx ops sh n).vals.length∧(Zcx ops sh n).vals.length≤300∧(Zcx ops sh n).blks.length≤20∧(Zcx ops sh n).sts.length≤330):=by
 have ho:Za2 (DQ (fun _=>0) m0) m0 oa ops:=by
  obtain⟨f,h1,h2⟩:=ho
  exact⟨f,h1,fun hz=>⟨rfl,h2 hz⟩⟩
 have hs:Za2 (DQ (fun _=>0) m0) m0 sa sh:=by
  obtain⟨f,h1,h2⟩:=hs
  exact⟨f,h1,fun hz=>⟨rfl,h2 hz⟩⟩
 obtain⟨T1,a1,oR1,k1,n1,w1⟩:=Znh (m:=m0) (fun _=>0) 10 (cs:=[.slice oa ops.length ops.length,.slice sa sh.length sh.length,.int .i64 n]) (e:=47) rfl
 have J1:=k1
 have j1:∀ f,f < m0.next→T1 f=0:=fun f hf=>a1 f hf
 have k1:KT (fun _=>0) [] m0 _:=KT.of k1
 have ho1:=Zap ho k1 a1 (by simp)
 have hs1:=Zap hs k1 a1 (by simp)
 refine Zfi 86 [126,209,298] k13 hN.unit rfl ?_
 simp [-Int.natCast_add,-w13_1,Zcu b47]
 generalize m0.new _ _=m1 at *
 generalize hrb:m0.next=rb at oR1 ⊢
 obtain⟨T2,a2,oX2,k2,n2,w2⟩:=Znh (m:=m1) T1 10 (cs:=[.int .i64 0,.int .i64 0,.slice none 0 0,.slice none 0 0,.slice none 0 0]) (e:=34) rfl
 have k2:KT T1 [] m1 _:=KT.of k2
 have oR2:=oR1.keep k2 a2 (by simp)
 have ho2:=Zap ho1 k2 a2 (by simp)
 have hs2:=Zap hs1 k2 a2 (by simp)
 have j2:=ja j1 J1 a2
 have J2:=jk j1 J1 k2 (by simp)
 generalize m1.new _ _=m2 at *
 generalize m1.next=rc at *
 simp [-Int.natCast_add,-w13_2,Zau Ycj]
 generalize hr3:Zaf _ _ _=r3
 obtain⟨m3,T3,rfl,a3,oU3,k3,w3⟩:=Zkj T2 1 hr3 rfl (by simp [Zam,Zad])
 clear hr3
 have oR3:=oR2.keep k3 a3 (by simp)
 have oX3:=oX2.keep k3 a3 (by simp)
 have ho3:=Zap ho2 k3 a3 (by simp)
 have hs3:=Zap hs2 k3 a3 (by simp)
 have j3:=ja j2 J2 a3
 have J3:=jk j2 J2 k3 (by simp)
 generalize m2.next=ub at *
 have lR:loadRow m3 ⟨rb,2,none⟩ 1=some [.int .i64 n]:=by
  obtain⟨f,o,_⟩:=oR3
  exact o.load1 (off:=2) rfl
 have pk:=Zhf (m:=m3) hN.pick n 5 (by omega) (by omega)
 obtain⟨N,hN1⟩:∃ N:Nat,n % 5=N:=⟨(n % 5).toNat,by omega⟩
 have hN5:N≤4:=by omega
 rw [hN1] at pk
 simp [-Int.natCast_add,-w13_3,lR,pk]
 obtain⟨T4,a4,oK4,k4,n4,w4⟩:=Znh (m:=m3) T3 5 (cs:=[.slice none 0 0]) (e:=36) rfl
 have k4:KT T3 [] m3 _:=KT.of k4
 have oR4:=oR3.keep k4 a4 (by simp)
 have oX4:=oX3.keep k4 a4 (by simp)
 have oU4:=oU3.keep k4 a4 (by simp)
 have ho4:=Zap ho3 k4 a4 (by simp)
 have hs4:=Zap hs3 k4 a4 (by simp)
 have j4:=ja j3 J3 a4
 have J4:=jk j3 J3 k4 (by simp)
 simp [-Int.natCast_add,-w13_4]
 generalize m3.new _ _=m4 at *
 generalize m3.next=kb at *
 simp [-Int.natCast_add,-w13_5,Zau Zz5]
 generalize hr5:Zaf _ _ _=r5
 obtain⟨m5,T5,rfl,a5,oB5,k5,w5⟩:=Zkj T4 7 hr5 rfl (by simp [Zam,Zad])
 clear hr5
 have oR5:=oR4.keep k5 a5 (by simp)
 have oX5:=oX4.keep k5 a5 (by simp)
 have oU5:=oU4.keep k5 a5 (by simp)
 have oK5:=oK4.keep k5 a5 (by simp)
 have ho5:=Zap ho4 k5 a5 (by simp)
 have hs5:=Zap hs4 k5 a5 (by simp)
 have j5:=ja j4 J4 a5
 have J5:=jk j4 J4 k5 (by simp)
 generalize m4.next=bb at *
 simp [-Int.natCast_add,-w13_6,Zo9]
 generalize hr6:Zaf _ _ _=r6
 obtain⟨m6,T6,rfl,a6,oP6,k6,w6⟩:=Zkj T5 10 hr6 rfl rfl
 clear hr6
 have oR6:=oR5.keep k6 a6 (by simp)
 have oX6:=oX5.keep k6 a6 (by simp)
 have oU6:=oU5.keep k6 a6 (by simp)
 have oK6:=oK5.keep k6 a6 (by simp)
 have oB6:=oB5.keep k6 a6 (by simp)
 have ho6:=Zap ho5 k6 a6 (by simp)
 have hs6:=Zap hs5 k6 a6 (by simp)
 have j6:=ja j5 J5 a6
 have J6:=jk j5 J5 k6 (by simp)
 generalize m5.next=px at *
 have t6:∀ f,T6 f≤10:=fun f=>by
  have e1:=w1 f
  have e2:=w2 f
  have e3:=w3 f
  have e4:=w4 f
  have e5:=w5 f
  have e6:=w6 f
  omega
 have U6:UM T6 m6 ub kb bb 0 Us0:=⟨⟨none,none,none,oU6,Zig.nil _ _ _ _ _,Zig.nil _ _ _ _ _,Zig.nil _ _ _ _ _⟩,⟨none,oK6,⟨0,Sr.nil _ _ _ _,by simp⟩⟩,⟨none,none,oB6,⟨0,Sl.nil _ _ _ _,by simp⟩,Zdr⟩,Or.inl rfl⟩
 simp [-Int.natCast_add]
 refine Zai 86 [126,209,298] (fun d E mG=>∃ (i:Nat) (T':Tg),N - i=d∧i≤N∧UM T' mG ub kb bb 0 (Zb i)∧(∀ f,T' f≤10)∧Ag T6 T' m6∧KT T6 [1,2,5,6,7,8] m6 mG∧
  E=[(0,.agg #[.slice oa ops.length ops.length,.slice sa sh.length sh.length,.int .i64 n]),(1,.pointer (some ⟨rb,0,none⟩)),(2,.pointer (some ⟨rc,0,none⟩)),(3,.pointer (some ⟨ub,0,none⟩)),(4,.int .i64 (N:Int)),(5,.pointer (some ⟨kb,0,none⟩)),(6,.pointer (some ⟨bb,0,none⟩)),(7,.pointer (some ⟨px,0,none⟩)),(8,.int .i64 (i:Int))]) _ ⟨_,⟨0,T6,rfl,by omega,U6,t6,Ag.refl,KT.refl,rfl⟩,(by repeat' constructor)⟩ ?_
 rintro d E mG ih ⟨i,T',rfl,hiN,hU,hT',aG,kG,rfl⟩
 obtain⟨z1,z2,z3,z4,z5,z6⟩:=Zhz i
 have oP:Zes T' 10 mG px _ _:=oP6.keep kG aG (by simp)
 by_cases hi:i < N
 ·have hi':(i:Int) < N:=by omega
  obtain⟨J,hJ⟩:∃ J,i+1=J:=⟨_,rfl⟩
  have wi:IntKind.i64.wrap ((i:Int)+1)=(J:Int):=by rw [Zab (by omega) (by omega)];omega
  obtain⟨v7,m7,c7,rfl,T7,hU7,a7,k7,b7⟩:=Zdy hN hT' hU (by omega) (by omega) (d:=(1,0,0,(i:Nat),[],0,())) (aa:=none) Zdr
  have c7:Zag Tryd.prog TT S 31 [.agg #[.int .i64 1,.int .i64 0,.int .i64 0,.int .i64 (i:Nat),.slice none 0 0,.int .i64 0],.pointer (some ⟨ub,0,none⟩),.pointer (some ⟨bb,0,none⟩)] mG=some (.int .i64 ((Zb i).vals.length:Nat),m7):=c7
  obtain⟨ka,l1,l2,l3,m8,ka2,m9,T9,e8,l4,e9,hU9,a9,k9,b9⟩:=UM.kn hU hU7 k7 a7 (by simp) rfl b7 (by omega) ((Zb i).vals.length:Nat)
  obtain⟨lP,_⟩:=Zow oP
  obtain⟨lP7,lPn⟩:=Zow (oP.keep k7 a7 (by simp))
  simp [-Int.natCast_add,-w13_9,Zau Zr,Za u36 bs3 rfl,Za0 u36 sz3,hi',Zdk _ _ (Zoq _ _),lP,c7,l1,l2,l3,e8,e9]
  simp [-Int.natCast_add,wi]
  exact ih (N - J) [(0,.agg #[.slice oa ops.length ops.length,.slice sa sh.length sh.length,.int .i64 n]),(1,.pointer (some ⟨rb,0,none⟩)),(2,.pointer (some ⟨rc,0,none⟩)),(3,.pointer (some ⟨ub,0,none⟩)),(4,.int .i64 (N:Int)),(5,.pointer (some ⟨kb,0,none⟩)),(6,.pointer (some ⟨bb,0,none⟩)),(7,.pointer (some ⟨px,0,none⟩)),(8,.int .i64 (J:Int))] _ _ ⟨J,T9,rfl,by omega,by rw [← hJ];exact hU9,b9,(aG.trans a7 kG.le).trans a9 (by have:=kG.le;have:=k7.le;omega),(kG.trans aG (k7.mono (by simp))).trans (aG.trans a7 kG.le) (k9.mono (by simp)),rfl⟩ (by omega) (by repeat' constructor)
 ·have hi':¬ (i:Int) < N:=by omega
  obtain⟨v7,m7,c7,rfl,T7,hU7,a7,k7,b7⟩:=Zdy hN hT' hU (by omega) (by omega) (d:=(2,0,0,5,[],0,())) (aa:=none) Zdr
  have c7:Zag Tryd.prog TT S 31 [.agg #[.int .i64 2,.int .i64 0,.int .i64 0,.int .i64 5,.slice none 0 0,.int .i64 0],.pointer (some ⟨ub,0,none⟩),.pointer (some ⟨bb,0,none⟩)] mG=some (.int .i64 ((Zb i).vals.length:Nat),m7):=c7
  obtain⟨ka,l1,l2,l3,m8,ka2,m9,T9,e8,l4,e9,hU9,a9,k9,b9⟩:=UM.kn hU hU7 k7 a7 (by simp) rfl b7 (by omega) ((Zb i).vals.length:Nat)
  obtain⟨lP,_⟩:=Zow oP
  obtain⟨lP7,lPn⟩:=Zow (oP.keep k7 a7 (by simp))
  simp [-Int.natCast_add,-w13_10,hi']
  simp [-Int.natCast_add,-w13_11,Zau Zr,Za u36 bs3 rfl,Za0 u36 sz3,Zdk _ _ (Zoq _ _),lP,c7,l1,l2,l3,e8,e9]
  have aT:=(aG.trans a7 kG.le).trans a9 (by have:=kG.le;have:=k7.le;omega)
  have kT:KT T6 [1,2,5,6,7,8] m6 m9:=(kG.trans aG (k7.mono (by simp))).trans (aG.trans a7 kG.le) (k9.mono (by simp))
  have eN:i=N:=by omega
  subst eN
  have oR9:=oR6.keep kT aT (by simp)
  have oX9:=oX6.keep kT aT (by simp)
  have oP9:=oP6.keep kT aT (by simp)
  have ho9:=Zap ho6 kT aT (by simp)
  have hs9:=Zap hs6 kT aT (by simp)
  have j9:=ja j6 J6 aT
  have J9:=jk j6 J6 kT (by simp)
  simp [-Int.natCast_add,-w13_12]
  generalize hr10:Zaf _ _ _=r10
  obtain⟨m10,T10,rfl,a10,oA10,k10,w10⟩:=Zkj T9 9 hr10 rfl (by simp [Zam])
  clear hr10
  have oR10:=oR9.keep k10 a10 (by simp)
  have oX10:=oX9.keep k10 a10 (by simp)
  have oP10:=oP9.keep k10 a10 (by simp)
  have ho10:=Zap ho9 k10 a10 (by simp)
  have hs10:=Zap hs9 k10 a10 (by simp)
  have j10:=ja j9 J9 a10
  have J10:=jk j9 J9 k10 (by simp)
  have U10:=hU9.keep k10 a10 (by simp)
  have z:m9.next≠0:=by
   obtain⟨f,o,_⟩:=oP9
   have:=o.flt
   omega
  generalize m9.next=ab at *
  have U10:UM T10 m10 ub kb bb ab (knP (2,0,0,5,[],0,()) (Zb i)):=⟨U10.u,U10.k,U10.b,Or.inr (by simp only [knP,Zbi,z6];exact oA10)⟩
  simp [-Int.natCast_add,-w13_13,Zo9]
  generalize hr11:Zaf _ _ _=r11
  obtain⟨m11,T11,rfl,a11,oN11,k11,w11⟩:=Zkj T10 10 hr11 rfl rfl
  clear hr11
  have oR11:=oR10.keep k11 a11 (by simp)
  have oX11:=oX10.keep k11 a11 (by simp)
  have oP11:=oP10.keep k11 a11 (by simp)
  have ho11:=Zap ho10 k11 a11 (by simp)
  have hs11:=Zap hs10 k11 a11 (by simp)
  have j11:=ja j10 J10 a11
  have J11:=jk j10 J10 k11 (by simp)
  have U11:=U10.keep k11 a11 (by simp)
  generalize m10.next=nx at *
  simp [-Int.natCast_add,-w13_14,Zo9]
  generalize hr12:Zaf _ _ _=r12
  obtain⟨m12,T12,rfl,a12,oS12,k12,w12⟩:=Zkj T11 10 hr12 rfl rfl
  clear hr12
  have oR12:=oR11.keep k12 a12 (by simp)
  have oX12:=oX11.keep k12 a12 (by simp)
  have oP12:=oP11.keep k12 a12 (by simp)
  have oN12:=oN11.keep k12 a12 (by simp)
  have ho12:=Zap ho11 k12 a12 (by simp)
  have hs12:=Zap hs11 k12 a12 (by simp)
  have j12:=ja j11 J11 a12
  have J12:=jk j11 J11 k12 (by simp)
  have U12:=U11.keep k12 a12 (by simp)
  generalize m11.next=sx at *
  have B12:UB m0 T12 m12 ⟨ub,kb,bb,ab,rb,nx,px,sx,rc,ops,sh,n⟩ (knP (2,0,0,5,[],0,()) (Zb i)):=⟨U12,⟨⟨oa,sa,oR12,ho12,hs12⟩,oN12,oP12,oS12,z⟩,fun f=>by have e1:=b9 f;have e2:=w10 f;have e3:=w11 f;have e4:=w12 f;omega,j12,J12,oX12,hol⟩
  simp [-Int.natCast_add,-w13_16]
  obtain⟨v13,m13,T13,c13',B13,D13,y13,x13⟩:=B12.row hN (Zxc ops (2,0,0,5,[],0,()) i) (by simp only [knP,Zbi,List.length_append,List.length_cons,List.length_nil];omega) (by simp only [knP,Zbi,z4];simp)
  simp [-Int.natCast_add,-w13_17,c13']
  have eU:Zcx ops sh n=(let s:=Zdd ops sh 6 (Zfx ops (knP (2,0,0,5,[],0,()) (Zb i)));Zbn 3 0 [] (Zae ops s).2 (Zae ops s).1):=by unfold Zcx;rw [hN1];rfl
  dsimp only at B13 D13 x13 y13 eU
  have x13:(Zfx ops (knP (2,0,0,5,[],0,()) (Zb i))).blks.length=0:=by rw [x13];simp only [knP,Zbi,z4];rfl
  have y13:(Zfx ops (knP (2,0,0,5,[],0,()) (Zb i))).vals.length≤300:=by
   have e:(knP (2,0,0,5,[],0,()) (Zb i)).vals.length=i+1:=by simp [knP,Zbi,z1]
   rw [e] at y13
   omega
  generalize Zfx ops (knP (2,0,0,5,[],0,()) (Zb i))=s13 at *
  simp [-Int.natCast_add]
  obtain⟨R,hR⟩:∃ R,Zdd ops sh 6 s13=R:=⟨_,rfl⟩
  rw [hR] at eU
  refine Zai 86 [126,209,298] (fun d E mG=>∃ (k:Nat) (s':Us) (T':Tg),6 - k=d∧k≤6∧k≤sh.length∧UB m0 T' mG (⟨ub,kb,bb,ab,rb,nx,px,sx,rc,ops,sh,n⟩:Pl) s'∧Bd ops s'∧s'.blks.length≤3 * k∧s'.vals.length≤300∧Zdd ops (sh.drop k) (6 - k) s'=R∧
   E=[(1,.pointer (some ⟨rb,0,none⟩)),(2,.pointer (some ⟨rc,0,none⟩)),(3,.pointer (some ⟨ub,0,none⟩)),(5,.pointer (some ⟨kb,0,none⟩)),(6,.pointer (some ⟨bb,0,none⟩)),(7,.pointer (some ⟨px,0,none⟩)),(10,.pointer (some ⟨nx,0,none⟩)),(11,.pointer (some ⟨sx,0,none⟩)),(12,.func (.func 34) #[] #[.pointer (some ⟨nx,0,none⟩),.pointer (some ⟨ub,0,none⟩),.pointer (some ⟨kb,0,none⟩),.pointer (some ⟨px,0,none⟩),.pointer (some ⟨sx,0,none⟩)]),(13,.func (.func 35) #[] #[.pointer (some ⟨bb,0,none⟩),.pointer (some ⟨ub,0,none⟩)]),(14,.int .i64 (k:Nat))]) _ ⟨_,⟨0,s13,T13,rfl,by omega,by omega,B13,D13,by omega,y13,hR,rfl⟩,(by repeat' constructor)⟩ ?_
  clear hR B13 D13 x13 y13 U6 U10 U11 U12 B12
  rintro d E mG ih ⟨k,s',T',rfl,hk6,hkl,hB,hD,hbl,hvl,hS,rfl⟩
  obtain⟨ka,ba,va,lk,lb,lv,lN,lP,lS⟩:=hB.ll
  obtain⟨oa',sa',⟨fr,oR,_⟩,_,hSh⟩:=hB.c.r
  have lR:=oR.load1 (off:=1) rfl
  by_cases hc:k < sh.length∧k < 6∧s'.vals.length < 160
  ·obtain⟨q1,q2,q3⟩:=hc
   have q1':(k:Int) < sh.length:=by omega
   have q2':(k:Int) < 6:=by omega
   have q3':(s'.vals.length:Int) < 160:=by omega
   have q4:(k:Int)≤9223372036854775807:=by omega
   obtain⟨J,hJ⟩:∃ J,k+1=J:=⟨_,rfl⟩
   have wk:IntKind.i64.wrap ((k:Int)+1)=(J:Int):=by rw [Zab (by omega) (by omega)];omega
   obtain⟨sb,rfl,lo⟩:=hSh.get q1
   have e6:6 - k=(6 - J)+1:=by omega
   have ex:sh.drop k=sh.getD k 0::sh.drop J:=by rw [List.drop_eq_getElem_cons q1,← hJ];simp [List.getD,q1]
   rw [e6,ex,Zdd,if_pos q3] at hS
   generalize sh.getD k 0=x at *
   have pk:=Zhf (m:=mG) hN.pick x 3 (by omega) (by omega)
   by_cases x0:x % 3=0
   ·rw [if_pos x0] at hS
    rw [x0] at pk
    simp [-Int.natCast_add,-w13_21,q1,q1',q2',q3',q4,lR,lv,lo,pk]
    refine (Zof _ _).1 (Ze4 (E:=[(1,.pointer (some ⟨rb,0,none⟩)),(2,.pointer (some ⟨rc,0,none⟩)),(3,.pointer (some ⟨ub,0,none⟩)),(5,.pointer (some ⟨kb,0,none⟩)),(6,.pointer (some ⟨bb,0,none⟩)),(7,.pointer (some ⟨px,0,none⟩)),(10,.pointer (some ⟨nx,0,none⟩)),(11,.pointer (some ⟨sx,0,none⟩)),(12,.func (.func 34) #[] #[.pointer (some ⟨nx,0,none⟩),.pointer (some ⟨ub,0,none⟩),.pointer (some ⟨kb,0,none⟩),.pointer (some ⟨px,0,none⟩),.pointer (some ⟨sx,0,none⟩)]),(13,.func (.func 35) #[] #[.pointer (some ⟨bb,0,none⟩),.pointer (some ⟨ub,0,none⟩)]),(14,.int .i64 (k:Nat))]) (Z35 hN hB hD q3 (by omega) ?_) (by repeat' constructor))
    intro m1 T1 h1 d1 b1 v1
    simp [-Int.natCast_add,wk]
    exact ih (6 - J) [(1,.pointer (some ⟨rb,0,none⟩)),(2,.pointer (some ⟨rc,0,none⟩)),(3,.pointer (some ⟨ub,0,none⟩)),(5,.pointer (some ⟨kb,0,none⟩)),(6,.pointer (some ⟨bb,0,none⟩)),(7,.pointer (some ⟨px,0,none⟩)),(10,.pointer (some ⟨nx,0,none⟩)),(11,.pointer (some ⟨sx,0,none⟩)),(12,.func (.func 34) #[] #[.pointer (some ⟨nx,0,none⟩),.pointer (some ⟨ub,0,none⟩),.pointer (some ⟨kb,0,none⟩),.pointer (some ⟨px,0,none⟩),.pointer (some ⟨sx,0,none⟩)]),(13,.func (.func 35) #[] #[.pointer (some ⟨bb,0,none⟩),.pointer (some ⟨ub,0,none⟩)]),(14,.int .i64 (J:Nat))] _ _ ⟨J,_,T1,rfl,by omega,by omega,h1,d1,by omega,v1,hS,rfl⟩ (by omega) (by repeat' constructor)
   ·rw [if_neg x0] at hS
    by_cases x1:x % 3=1
    ·rw [if_pos x1] at hS
     rw [x1] at pk
     simp [-Int.natCast_add,-w13_38,q1,q1',q2',q3',q4,lR,lv,lo,pk]
     refine (Zof _ _).1 (Ze4 (E:=[(1,.pointer (some ⟨rb,0,none⟩)),(2,.pointer (some ⟨rc,0,none⟩)),(3,.pointer (some ⟨ub,0,none⟩)),(5,.pointer (some ⟨kb,0,none⟩)),(6,.pointer (some ⟨bb,0,none⟩)),(7,.pointer (some ⟨px,0,none⟩)),(10,.pointer (some ⟨nx,0,none⟩)),(11,.pointer (some ⟨sx,0,none⟩)),(12,.func (.func 34) #[] #[.pointer (some ⟨nx,0,none⟩),.pointer (some ⟨ub,0,none⟩),.pointer (some ⟨kb,0,none⟩),.pointer (some ⟨px,0,none⟩),.pointer (some ⟨sx,0,none⟩)]),(13,.func (.func 35) #[] #[.pointer (some ⟨bb,0,none⟩),.pointer (some ⟨ub,0,none⟩)]),(14,.int .i64 (k:Nat))]) (Z2v hN hB hD q3 (by omega) ?_) (by repeat' constructor))
     intro m1 T1 h1 d1 b1 v1
     simp [-Int.natCast_add,wk]
     exact ih (6 - J) [(1,.pointer (some ⟨rb,0,none⟩)),(2,.pointer (some ⟨rc,0,none⟩)),(3,.pointer (some ⟨ub,0,none⟩)),(5,.pointer (some ⟨kb,0,none⟩)),(6,.pointer (some ⟨bb,0,none⟩)),(7,.pointer (some ⟨px,0,none⟩)),(10,.pointer (some ⟨nx,0,none⟩)),(11,.pointer (some ⟨sx,0,none⟩)),(12,.func (.func 34) #[] #[.pointer (some ⟨nx,0,none⟩),.pointer (some ⟨ub,0,none⟩),.pointer (some ⟨kb,0,none⟩),.pointer (some ⟨px,0,none⟩),.pointer (some ⟨sx,0,none⟩)]),(13,.func (.func 35) #[] #[.pointer (some ⟨bb,0,none⟩),.pointer (some ⟨ub,0,none⟩)]),(14,.int .i64 (J:Nat))] _ _ ⟨J,_,T1,rfl,by omega,by omega,h1,d1,by omega,v1,hS,rfl⟩ (by omega) (by repeat' constructor)
    ·rw [if_neg x1] at hS
     simp [-Int.natCast_add,-w13_61,q1,q1',q2',q3',q4,lR,lv,lo,pk,x0,x1]
     refine (Zof _ _).1 (Ze4 (E:=[(1,.pointer (some ⟨rb,0,none⟩)),(2,.pointer (some ⟨rc,0,none⟩)),(3,.pointer (some ⟨ub,0,none⟩)),(5,.pointer (some ⟨kb,0,none⟩)),(6,.pointer (some ⟨bb,0,none⟩)),(7,.pointer (some ⟨px,0,none⟩)),(10,.pointer (some ⟨nx,0,none⟩)),(11,.pointer (some ⟨sx,0,none⟩)),(12,.func (.func 34) #[] #[.pointer (some ⟨nx,0,none⟩),.pointer (some ⟨ub,0,none⟩),.pointer (some ⟨kb,0,none⟩),.pointer (some ⟨px,0,none⟩),.pointer (some ⟨sx,0,none⟩)]),(13,.func (.func 35) #[] #[.pointer (some ⟨bb,0,none⟩),.pointer (some ⟨ub,0,none⟩)]),(14,.int .i64 (k:Nat))]) (Z1z hN hB hD q3 (by omega) ?_) (by repeat' constructor))
     intro m1 T1 h1 d1 b1 v1
     simp [-Int.natCast_add,wk]
     exact ih (6 - J) [(1,.pointer (some ⟨rb,0,none⟩)),(2,.pointer (some ⟨rc,0,none⟩)),(3,.pointer (some ⟨ub,0,none⟩)),(5,.pointer (some ⟨kb,0,none⟩)),(6,.pointer (some ⟨bb,0,none⟩)),(7,.pointer (some ⟨px,0,none⟩)),(10,.pointer (some ⟨nx,0,none⟩)),(11,.pointer (some ⟨sx,0,none⟩)),(12,.func (.func 34) #[] #[.pointer (some ⟨nx,0,none⟩),.pointer (some ⟨ub,0,none⟩),.pointer (some ⟨kb,0,none⟩),.pointer (some ⟨px,0,none⟩),.pointer (some ⟨sx,0,none⟩)]),(13,.func (.func 35) #[] #[.pointer (some ⟨bb,0,none⟩),.pointer (some ⟨ub,0,none⟩)]),(14,.int .i64 (J:Nat))] _ _ ⟨J,_,T1,rfl,by omega,by omega,h1,d1,by omega,v1,hS,rfl⟩ (by omega) (by repeat' constructor)
  ·have eS:s'=R:=by
    rw [← hS]
    by_cases q1:k < sh.length
    ·rw [List.drop_eq_getElem_cons q1]
     by_cases q2:k < 6
     ·rw [show 6 - k=(5 - k)+1 by omega,Zdd,if_neg (fun h=>hc ⟨q1,q2,h⟩)]
     ·rw [show 6 - k=0 by omega,Zdd]
    ·rw [List.drop_eq_nil_of_le (by omega)]
     rfl
   clear ih hS
   subst eS
   rw [eU]
   obtain⟨_,f1,_,_,f4,f5,_⟩:=Zc7 (d:=(0,0,0,0,[],0,())) hD
   have g1:=hD.k1
   have g2:=hD.k2
   have g3:=hD.st
   have hNum:(1≤(Zbn 3 0 [] (Zae ops s').2 (Zae ops s').1).vals.length∧(Zbn 3 0 [] (Zae ops s').2 (Zae ops s').1).vals.length≤300∧(Zbn 3 0 [] (Zae ops s').2 (Zae ops s').1).blks.length≤20∧(Zbn 3 0 [] (Zae ops s').2 (Zae ops s').1).sts.length≤330):=by
    simp only [Zbn,List.length_append,List.length_cons,List.length_nil]
    rw [f1,f4,f5]
    omega
   have H:=Z17 hN hB hD hvl (by omega) (i:=k) (A:=fun v m1=>∃ va ba sa,v=.agg #[.int .i64 1,.int .i64 2,.slice va (Zbn 3 0 [] (Zae ops s').2 (Zae ops s').1).vals.length (Zbn 3 0 [] (Zae ops s').2 (Zae ops s').1).vals.length,.slice ba (Zbn 3 0 [] (Zae ops s').2 (Zae ops s').1).blks.length (Zbn 3 0 [] (Zae ops s').2 (Zae ops s').1).blks.length,.slice sa (Zbn 3 0 [] (Zae ops s').2 (Zae ops s').1).sts.length (Zbn 3 0 [] (Zae ops s').2 (Zae ops s').1).sts.length]∧UAt (fun f=>f < m1.next) m1 (Zbn 3 0 [] (Zae ops s').2 (Zae ops s').1).un va ba sa∧Zaa m0 m1 []∧(1≤(Zbn 3 0 [] (Zae ops s').2 (Zae ops s').1).vals.length∧(Zbn 3 0 [] (Zae ops s').2 (Zae ops s').1).vals.length≤300∧(Zbn 3 0 [] (Zae ops s').2 (Zae ops s').1).blks.length≤20∧(Zbn 3 0 [] (Zae ops s').2 (Zae ops s').1).sts.length≤330)) (fun va ba sa m1 h1 h2=>⟨va,ba,sa,rfl,h1,h2,hNum⟩)
   by_cases q1:k < sh.length
   ·have q1':(k:Int) < sh.length:=by omega
    by_cases q2:k < 6
    ·have q2':(k:Int) < 6:=by omega
     have q3:¬ s'.vals.length < 160:=fun h=>hc ⟨q1,q2,h⟩
     have q3':¬ (s'.vals.length:Int) < 160:=by omega
     simp [-Int.natCast_add,-w13_71,lR,lv,q1',q2',q3']
     exact (Zof _ _).1 (Ze4 (E:=[(1,.pointer (some ⟨rb,0,none⟩)),(2,.pointer (some ⟨rc,0,none⟩)),(3,.pointer (some ⟨ub,0,none⟩)),(5,.pointer (some ⟨kb,0,none⟩)),(6,.pointer (some ⟨bb,0,none⟩)),(7,.pointer (some ⟨px,0,none⟩)),(10,.pointer (some ⟨nx,0,none⟩)),(11,.pointer (some ⟨sx,0,none⟩)),(12,.func (.func 34) #[] #[.pointer (some ⟨nx,0,none⟩),.pointer (some ⟨ub,0,none⟩),.pointer (some ⟨kb,0,none⟩),.pointer (some ⟨px,0,none⟩),.pointer (some ⟨sx,0,none⟩)]),(13,.func (.func 35) #[] #[.pointer (some ⟨bb,0,none⟩),.pointer (some ⟨ub,0,none⟩)]),(14,.int .i64 (k:Nat))]) H (by repeat' constructor))
    ·have q2':¬ (k:Int) < 6:=by omega
     simp [-Int.natCast_add,-w13_71,lR,q1',q2']
     exact (Zof _ _).1 (Ze4 (E:=[(1,.pointer (some ⟨rb,0,none⟩)),(2,.pointer (some ⟨rc,0,none⟩)),(3,.pointer (some ⟨ub,0,none⟩)),(5,.pointer (some ⟨kb,0,none⟩)),(6,.pointer (some ⟨bb,0,none⟩)),(7,.pointer (some ⟨px,0,none⟩)),(10,.pointer (some ⟨nx,0,none⟩)),(11,.pointer (some ⟨sx,0,none⟩)),(12,.func (.func 34) #[] #[.pointer (some ⟨nx,0,none⟩),.pointer (some ⟨ub,0,none⟩),.pointer (some ⟨kb,0,none⟩),.pointer (some ⟨px,0,none⟩),.pointer (some ⟨sx,0,none⟩)]),(13,.func (.func 35) #[] #[.pointer (some ⟨bb,0,none⟩),.pointer (some ⟨ub,0,none⟩)]),(14,.int .i64 (k:Nat))]) H (by repeat' constructor))
   ·have q1':¬ (k:Int) < sh.length:=by omega
    simp [-Int.natCast_add,-w13_71,lR,q1']
    exact (Zof _ _).1 (Ze4 (E:=[(1,.pointer (some ⟨rb,0,none⟩)),(2,.pointer (some ⟨rc,0,none⟩)),(3,.pointer (some ⟨ub,0,none⟩)),(5,.pointer (some ⟨kb,0,none⟩)),(6,.pointer (some ⟨bb,0,none⟩)),(7,.pointer (some ⟨px,0,none⟩)),(10,.pointer (some ⟨nx,0,none⟩)),(11,.pointer (some ⟨sx,0,none⟩)),(12,.func (.func 34) #[] #[.pointer (some ⟨nx,0,none⟩),.pointer (some ⟨ub,0,none⟩),.pointer (some ⟨kb,0,none⟩),.pointer (some ⟨px,0,none⟩),.pointer (some ⟨sx,0,none⟩)]),(13,.func (.func 35) #[] #[.pointer (some ⟨bb,0,none⟩),.pointer (some ⟨ub,0,none⟩)]),(14,.int .i64 (k:Nat))]) H (by repeat' constructor))
end Go.Proofs.YtlogdohlcdhepaaDoor.base
end
section
set_option maxRecDepth 100000
namespace Go.Proofs.YtlogdohlcdhepaaDoor.base
open Go.Sh gen
variable {s s1:Us}{ops:List Int}
structure Sz (s:Us):Prop where
 v:∀ x∈s.vals,(Ze3 x).length≤2∧-1048576≤(show Int from x.2.2.2.1)∧(show Int from x.2.2.2.1)≤1048576
 b:∀ x∈s.blks,List.length x.1≤s.vals.length∧List.length x.2.2.2.1≤2∧List.length x.2.2.2.2.1≤2
 t:∀ x∈s.sts,List.length x.1≤1∧∀ f∈x.1,List.length f.2.2.1≤4∧List.length f.2.2.2.1≤4
 p:s.bp.length≤2
 n:s.bv.length≤s.vals.length
theorem Sz.at (h:Sz s)(a:Nat):Sz { s with at_:=a }:=⟨h.v,h.b,h.t,h.p,h.n⟩
theorem Sz.next (h:Sz s)(k:Int):Sz (Zar ops k s).1:=by
 obtain⟨a,e⟩:=Zg8 ops k s
 rw [e];exact h.at a
theorem Sz.any (h:Sz s):Sz (Zbb ops s).1:=h.next _
theorem Sz.kn (h:Sz s)(l:List Int):Sz { s with known:=l }:=⟨h.v,h.b,h.t,h.p,h.n⟩
theorem Sz.bp (h:Sz s){l:List Int}(hl:l.length≤2):Sz (bpP l s):=⟨h.v,h.b,h.t,hl,h.n⟩
theorem Sz.cut (h:Sz s)(k:Nat):Sz (Zgg k s):=h.kn _
theorem Sz.put (h:Sz s){d:Zbj.D}(hd:(Ze3 d).length≤2∧-1048576≤(show Int from d.2.2.2.1)∧(show Int from d.2.2.2.1)≤1048576):Sz (Zbi d s):=by
 refine⟨fun x hx=>?_,fun x hx=>?_,h.t,h.p,?_⟩
 ·simp only [Zbi,List.mem_append,List.mem_singleton] at hx
  rcases hx with hx | rfl
  ·exact h.v x hx
  ·exact hd
 ·have:=h.b x hx
  simp only [Zbi,List.length_append,List.length_cons,List.length_nil]
  omega
 ·have:=h.n
  simp only [Zbi,List.length_append,List.length_cons,List.length_nil]
  omega
theorem Sz.knp (h:Sz s){d:Zbj.D}(hd:(Ze3 d).length≤2∧-1048576≤(show Int from d.2.2.2.1)∧(show Int from d.2.2.2.1)≤1048576):Sz (knP d s):=(h.put hd).kn _
theorem Ztx (k:Nat):∀ {s:Us} {l:List Int},(∃ a,(Zfq ops k s l).1={ s with at_:=a })∧(Zfq ops k s l).2.length=l.length+k:=by
 induction k with
 | zero=>intro s l;exact⟨⟨s.at_,rfl⟩,rfl⟩
 | succ k ih =>
  intro s l
  rw [Zfq]
  obtain⟨⟨a,e⟩,e2⟩:=ih (s:=(Zbb ops s).1) (l:=l++[(Zbb ops s).2])
  obtain⟨a2,e3⟩:=Zg8 ops (s.known.length:Nat) s
  have e3:(Zbb ops s).1={ s with at_:=a2 }:=e3
  refine⟨⟨a,?_⟩,?_⟩
  ·rw [e,e3]
  ·rw [e2];simp;omega
theorem Sz.state (h:Sz s):Sz (Zae ops s).1:=by
 have q:=Zcg (ops:=ops) (s:=s) (k:=4) (by omega)
 obtain⟨⟨a,e⟩,e2⟩:=Ztx (ops:=ops) (Zar ops 4 s).2.toNat (s:=(Zar ops 4 s).1) (l:=[])
 have h1:Sz (Zfq ops (Zar ops 4 s).2.toNat (Zar ops 4 s).1 []).1:=by rw [e];exact (h.next 4).at a
 refine⟨h1.v,h1.b,fun x hx=>?_,h1.p,h1.n⟩
 simp only [Zae,List.mem_append,List.mem_singleton] at hx
 rcases hx with hx | rfl
 ·exact h1.t x hx
 ·refine⟨by simp,fun f hf=>?_⟩
  simp only [List.mem_singleton] at hf
  subst hf
  simp only [e2,List.length_cons,List.length_nil]
  omega
theorem Sz.end (h:Sz s){e c:Int}{next:List Int}{st:Int}(hn:next.length≤2):Sz (Zbn e c next st s):=by
 refine⟨h.v,fun x hx=>?_,h.t,by simp [Zbn],by simp [Zbn]⟩
 simp only [Zbn,List.mem_append,List.mem_singleton] at hx
 rcases hx with hx | rfl
 ·exact h.b x hx
 ·exact⟨h.n,hn,h.p⟩
theorem Sz.sets (h:Sz s){p:Nat}{l:List Int}(hl:l.length≤2):Sz (Za9 p l s):=by
 unfold Za9
 split
 ·rename_i hp
  refine⟨fun x hx=>?_,fun x hx=>?_,h.t,h.p,?_⟩
  ·rcases List.mem_or_eq_of_mem_set hx with hx | rfl
   ·exact h.v x hx
   ·exact⟨hl,(h.v _ (List.getElem_mem hp)).2⟩
  ·have:=h.b x hx
   simpa using this
  ·have:=h.n
   simpa using this
 ·exact h
theorem Z1c (h:Sz s)(a b:Int){k:Int}:Sz (Zd7 ops a b k s):=by
 have q1:=Zcg (ops:=ops) (s:=s) (k:=1048576) (by omega)
 have q2:=Zcg (ops:=ops) (s:=s) (k:=5) (by omega)
 unfold Zd7
 split
 ·exact h.knp ⟨Nat.le_of_ble_eq_true rfl,by simp,by simp⟩
 split
 ·exact (h.next _).knp ⟨Nat.le_of_ble_eq_true rfl,by dsimp only;omega,by dsimp only;omega⟩
 split
 ·exact (h.next _).knp ⟨Nat.le_of_ble_eq_true rfl,by dsimp only;omega,by dsimp only;omega⟩
 split
 ·exact h.knp ⟨Nat.le_of_ble_eq_true rfl,by simp,by simp⟩
 split
 ·exact (h.next _).put ⟨Nat.le_of_ble_eq_true rfl,by dsimp only;omega,by dsimp only;omega⟩
 split
 ·exact h.any.put ⟨Nat.le_of_ble_eq_true rfl,by simp,by simp⟩
 split
 ·exact h.state.put ⟨Nat.le_of_ble_eq_true rfl,by simp,by simp⟩
 split
 ·exact h.state.put ⟨Nat.le_of_ble_eq_true rfl,by simp,by simp⟩
 ·exact (h.next _).knp ⟨Nat.le_of_ble_eq_true rfl,by simp,by simp⟩
theorem Z2z (k:Nat):∀ {s:Us},Sz s→Sz (Zgo ops k s):=by
 induction k with
 | zero=>intro s h;exact h
 | succ k ih =>
  intro s h
  rw [Zgo]
  split
  ·exact ih (Z1c ((h.any.any).next 20) _ _)
  ·exact h
theorem Zg5 (h:Sz s):Sz (Zfx ops s):=Z2z _ (h.next 6)
theorem Z06 (h:Sz s):Sz (Zl7 ops s):=Zg5 ((((Zg5 (h.any.end (by simp) |>.bp (by simp))).state.end (by simp)).cut _).bp (by simp))
theorem Z4a (h:Sz s):Sz (Zwx ops s):=by
 unfold Zwx
 have h4:=Zg5 (ops:=ops) ((h.any (ops:=ops)).end (e:=2) (c:=(Zbb ops s).2) (next:=[(s.blks.length:Nat)+1,(s.blks.length:Nat)+2]) (st:=0) (by simp) |>.bp (l:=[(s.blks.length:Nat)]) (by simp))
 exact Zg5 (((Zg5 (((h4.cut _).end (by simp)).bp (by simp))).cut _ |>.end (by simp) |>.bp (by simp)).knp ⟨Nat.le_of_ble_eq_true rfl,by simp,by simp⟩)
theorem Z2b (h:Sz s){q:Nat}{x:Int}{k:Nat}{hh:Int}:Sz (Znj ops q x k hh s):=Zg5 ((((h.sets (by simp)).cut _).end (by simp)).bp (by simp))
theorem Z13 (h:Sz s):Sz (Zla ops s):=by
 unfold Zla
 dsimp only
 refine Z2b ?_
 split
 ·exact (((Zg5 ((((((((((h.any.end (by simp)).bp (by simp)).put ⟨Nat.le_of_ble_eq_true rfl,by simp,by simp⟩).any.put ⟨Nat.le_of_ble_eq_true rfl,by simp,by simp⟩).kn _).state.put ⟨Nat.le_of_ble_eq_true rfl,by simp,by simp⟩).put ⟨Nat.le_of_ble_eq_true rfl,by simp,by simp⟩).knp ⟨Nat.le_of_ble_eq_true rfl,by simp,by simp⟩).end (by simp)).bp (by simp))).sets (by simp)).next _).sets (by simp)
 ·exact ((Zg5 ((((((((((h.any.end (by simp)).bp (by simp)).put ⟨Nat.le_of_ble_eq_true rfl,by simp,by simp⟩).any.put ⟨Nat.le_of_ble_eq_true rfl,by simp,by simp⟩).kn _).state.put ⟨Nat.le_of_ble_eq_true rfl,by simp,by simp⟩).put ⟨Nat.le_of_ble_eq_true rfl,by simp,by simp⟩).knp ⟨Nat.le_of_ble_eq_true rfl,by simp,by simp⟩).end (by simp)).bp (by simp))).sets (by simp)).next _
theorem Zn5:∀ (l:List Int) (k:Nat) {s:Us},Sz s→Sz (Zdd ops l k s)
 | [],_,s,h=>by rw [Zdd];exact h
 | _::_,0,s,h=>by rw [Zdd];exact h
 | x::r,k+1,s,h=>by
  rw [Zdd]
  split
  ·refine Zn5 r k ?_
   split
   ·exact Z4a h
   split
   ·exact Z13 h
   ·exact Z06 h
  ·exact h
theorem Zwz (k:Nat)(hk:k≤100):Sz (Zb k):=by
 induction k with
 | zero=>exact⟨by simp [Zb,Us0],by simp [Zb,Us0],by simp [Zb,Us0],by simp [Zb,Us0],by simp [Zb,Us0]⟩
 | succ k ih=>exact (ih (by omega)).knp ⟨Nat.le_of_ble_eq_true rfl,by dsimp only;omega,by dsimp only;omega⟩
theorem Zux (ops sh:List Int)(n:Int):Sz (Zcx ops sh n):=((Zn5 sh 6 (Zg5 ((Zwz _ (by omega)).knp ⟨Nat.le_of_ble_eq_true rfl,by simp,by simp⟩))).state).end (by simp)
end Go.Proofs.YtlogdohlcdhepaaDoor.base
end
section
set_option maxRecDepth 100000
namespace Go.Proofs.YtlogdohlcdhepaaDoor.base
open Go.Sh gen
inductive Av (u:UnT.D) (a:Nat):Nat→Prop
 | z:a≠0→Av u a 0
 | s {p b:Nat}:Av u a p→p < nb u→b < nb u→(p:Int)∈(Zaw u).getD b []→b≠a→Av u a b
def Kp (u:UnT.D)(I:List Int):Prop:=∀ x < nb u,0≤I.getD x 0→∀ a < nb u,¬ Anc I x a→Av u a x
abbrev pdU (u:UnT.D):Nat→List Int:=fun b=>(Zaw u).getD b []
theorem Z4e {u:UnT.D}{P T I:List Int}(R:Rpo (nb u) (pdU u) P T)(hd:DJ (nb u) P I)(hp:∀ x < nb u,0≤I.getD x 0)(hf:∀ x < nb u,x≠0→FwX (nb u) (pdU u) P I x){a y:Nat}(hAv:Av u a y)(hpa:P.getD a 0 < P.getD y 0) :
  ∀ (M z:Nat),z < nb u→(P.getD z 0).toNat≤M→Anc I z y→Av u a z:=by
 intro M
 induction M with
 | zero =>
  intro z hz hM hA
  have h0:z=0:=by
   apply Decidable.byContradiction
   intro h;have:=(R.pn hz).2.2 h;omega
  subst h0
  rw [hd.anc0 hA] at hAv
  exact hAv
 | succ M ih =>
  intro z hz hM hA
  have hza:=(hd.anc hA hz (hp z hz)).2.2
  by_cases h0:z=0
  ·subst h0
   rw [hd.anc0 hA] at hAv
   exact hAv
  cases hA with
  | refl=>exact hAv
  | up hA =>
   obtain⟨p,hpn,hpm,hpp⟩:=R.fw z hz h0
   have h1:=hf z hz h0 p hpn hpm hpp
   have h2:=ih p hpn (by have:=(R.pn hpn).1;omega) (h1.trans hA)
   exact .s h2 hpn hz hpm (fun e=>by subst e;omega)
theorem Zvn {n:Nat}{P I I':List Int}{b:Nat}(hd:DJ n P I)(hs:∀ x,x≠b→I'.getD x 0=I.getD x 0){x a:Nat}(h:Anc I x a):x < n→0≤I.getD x 0→P.getD b 0 < P.getD a 0→Anc I' x a:=by
 induction h with
 | refl x=>intro _ _ _;exact .refl x
 | @up x a h ih =>
  intro hx h0 hp
  have h1:=hd.upOk x hx h0
  have h2:=(hd.anc (.up h) hx h0).2.2
  refine .up ?_
  rw [hs x (fun e=>by subst e;omega)]
  exact ih (by omega) h1.2 hp
theorem Zsl {I I':List Int}{b:Nat}(hs:∀ x,x≠b→I'.getD x 0=I.getD x 0){x a:Nat}(h:Anc I x a):¬ Anc I' x b→Anc I' x a:=by
 induction h with
 | refl x=>intro _;exact .refl x
 | @up x a h ih =>
  intro hn
  have hxb:x≠b:=fun e=>hn (by rw [e];exact .refl b)
  refine .up ?_
  have e:=hs x hxb
  rw [e]
  exact ih (fun h2=>hn (.up (by rw [e];exact h2)))
theorem Zy {n:Nat}{pd:Nat→List Int}{P T I' Is:List Int}(R:Rpo n pd P T){b:Nat}(hb:b < n)(hd:DJ n P I')(hp:∀ x < n,0≤I'.getD x 0)(hs:∀ x < n,P.getD b 0 < P.getD x 0→I'.getD x 0=Is.getD x 0){x y:Nat}(h:Anc I' x y):y=b→x < n→Anc Is x b:=by
 induction h with
 | refl x=>intro e _;subst e;exact .refl _
 | @up x y h ih =>
  intro e hx
  subst e
  by_cases hxb:x=y
  ·subst hxb;exact .refl _
  have h2:=(hd.anc (.up h) hx (hp x hx)).2.2
  have h3:P.getD x 0≠P.getD y 0:=fun e=>hxb (R.inj hx hb e)
  have h4:=hd.upOk x hx (hp x hx)
  have e2:=hs x hx (by omega)
  refine .up ?_
  rw [← e2]
  exact ih rfl (by have:=hp x hx;omega)
theorem Z8q {u:UnT.D}{P T I:List Int}(R:Rpo (nb u) (pdU u) P T){j:Nat}(h:JJ u P j I)(hK:Kp u I){b:Nat}(hb:b < nb u)(hb0:b≠0)(hpb:P.getD b 0=((j+1:Nat):Int)):Kp u (I.set b (Zgs u P I b)):=by
 have hd:=h.d
 have hl:b < I.length:=by rw [hd.len];exact hb
 have hfw:∀ a < nb u,(a:Int)∈(Zaw u).getD b []→P.getD a 0 < P.getD b 0→0≤I.getD a 0:=by
  intro a ha _ hp
  rcases h with h | ⟨Is,h⟩
  ·exact (h.p a ha).2 (by omega)
  ·exact h.p a ha
 obtain⟨d,hdd,d1,d2,d3,d4,d5⟩:=Zi5 R hd hb hb0 hfw
 rw [hdd]
 have hDJ:=Zw2 hd hb hb0 d1 d2 d3
 have hset:∀ x,(I.set b (d:Int)).getD x 0=if b=x then (d:Int) else I.getD x 0:=fun x=>Zbe _ _ _ _ hl
 have hne:∀ x,x≠b→(I.set b (d:Int)).getD x 0=I.getD x 0:=fun x hx=>by rw [hset,if_neg (Ne.symm hx)]
 have heq:(I.set b (d:Int)).getD b 0=(d:Int):=by rw [hset,if_pos rfl]
 obtain⟨I',hI'⟩:∃ I',I.set b (d:Int)=I':=⟨_,rfl⟩
 have hav:∀ a < nb u,¬ Anc I' b a→Av u a b:=by
  intro a ha hn
  have hab:a≠b:=fun e=>hn (by rw [e];exact .refl b)
  have hn2:¬ Anc I d a:=fun hA=>hn (.up (by rw [← hI',heq,Int.toNat_natCast];exact (Zg0 hd hb _ d1 d2 d3).2 hA))
  apply Classical.byContradiction
  intro hc
  refine hn2 (d5 a fun p hp hpm hp0=>?_)
  apply Classical.byContradiction
  intro hnp
  exact hc (.s (hK p hp hp0 a ha hnp) hp hb hpm (Ne.symm hab))
 rw [hI'] at hDJ hne heq ⊢
 intro x hx h0 a ha hna
 by_cases hxb:x=b
 ·subst hxb;exact hav a ha hna
 have hIx:=hne x hxb
 rw [hIx] at h0
 by_cases hpx:P.getD x 0 < P.getD b 0
 ·exact hK x hx h0 a ha (fun hA=>hna (by rw [← hI'];exact (Zg0 hd hb _ hx h0 hpx).2 hA))
 have hpne:P.getD x 0≠P.getD b 0:=fun e=>hxb (R.inj hx hb e)
 rcases h with h | ⟨Is,h⟩
 ·have:=(h.p x hx).1 h0;omega
 ·have hp':∀ y < nb u,0≤I'.getD y 0:=by
   intro y hy
   by_cases e:y=b
   ·rw [e,heq];omega
   ·rw [hne y e];exact h.p y hy
  by_cases hA:Anc I' x b
  ·have h1:=hav a ha (fun h2=>hna (hA.trans h2))
   by_cases hpa:P.getD a 0 < P.getD b 0
   ·have hw:∀ y < nb u,P.getD b 0 < P.getD y 0→I'.getD y 0=Is.getD y 0:=fun y hy hp=>by
     rw [hne y (fun e=>by subst e;omega)];exact h.w y hy (by omega)
    exact Z4e R h.ds h.ps h.fs h1 hpa _ x hx (Nat.le_refl _) (Zy R hb hDJ hp' hw hA rfl hx)
   ·have hpab:P.getD a 0≠P.getD b 0:=fun e=>by
     have:=R.inj ha hb e
     subst this
     exact hna hA
    exact hK x hx h0 a ha (fun h2=>hna (Zvn hd hne h2 hx h0 (by omega)))
  ·exact hK x hx h0 a ha (fun h2=>hna (Zsl hne h2 hA))
theorem Z3v {u:UnT.D}{P T:List Int}(R:Rpo (nb u) (pdU u) P T):∀ (k j:Nat) (I:List Int) (ch:Bool),T.length - j=k→j≤T.length→JJ u P j I→Kp u I→JJ u P T.length ((T.drop j).foldl (Zns u P) (I,ch)).1∧Kp u ((T.drop j).foldl (Zns u P) (I,ch)).1:=by
 intro k
 induction k with
 | zero =>
  intro j I ch hk hj h hK
  have:j=T.length:=by omega
  subst this
  rw [List.drop_of_length_le (Nat.le_refl _),List.foldl_nil]
  exact⟨h,hK⟩
 | succ k ih =>
  intro j I ch hk hj h hK
  have hjt:j < T.length:=by omega
  obtain⟨b,h1,h2,h3,h4⟩:=R.t j hjt
  obtain⟨b',g1,g2,g3,g4,_⟩:=Zr4 R h hjt
  have e:b'=b:=by rw [h1] at g1;omega
  subst e
  rw [Zch hjt,List.foldl_cons,h1]
  have eB:Zns u P (I,ch) (b':Int)=(I.set b' (Zgs u P I b'),ch || !decide (I.getD b' 0=Zgs u P I b')):=by unfold Zns;rw [Int.toNat_natCast]
  rw [eB]
  exact ih (j+1) _ _ (by omega) (by omega) g4 (Z8q R h hK h2 h3 h4)
theorem Z99 {u:UnT.D}{P T:List Int}(R:Rpo (nb u) (pdU u) P T):∀ (D:Nat) (I:List Int) (ch:Bool) (I':List Int),JJ u P 0 I→Kp u I→Zgc u P T D (I,ch)=some I'→Kp u I':=by
 intro D
 induction D with
 | zero =>
  intro I ch I' h hK he
  rw [Zgc] at he
  split at he
  ·cases he
  ·simp at he;rw [← he];exact hK
 | succ D ih =>
  intro I ch I' h hK he
  rw [Zgc] at he
  split at he
  ·obtain⟨g1,g2⟩:=Z3v R _ 0 I false rfl (by omega) h hK
   rw [List.drop_zero] at g1 g2
   exact ih (Z2s u P T (I,false)).1 (Z2s u P T (I,false)).2 I' (Or.inr ⟨_,Zkc R g1⟩) g2 he
  ·cases he
theorem k_0 {u:UnT.D}{P T:List Int}(R:Rpo (nb u) (pdU u) P T):Kp u ((List.replicate (nb u) (-1)).set 0 0):=by
 intro x hx h0 a ha hn
 rw [Zyu R.pos hx] at h0
 split at h0
 ·rename_i e
  subst e
  exact .z (fun e=>hn (by rw [e];exact .refl 0))
 ·omega
theorem Z9a {u:UnT.D}(hnx:Ztg u)(hb:0 < nb u):∃ O I,Z2g u O I∧(∃ sn,Z1m u (sn,O.reverse,[]))∧
  (O.length=nb u→∀ a b:Nat,a < nb u→b < nb u→(upF I (a:Int) (nb u+2) (b:Int)=true↔¬ Av u a b)):=by
 obtain⟨O,I,hT,hO,hI⟩:=Z5g hnx hb
 refine⟨O,I,hT,hO,fun hl=>?_⟩
 obtain⟨I',e1,R,hJ,hfix⟩:=hI hl
 obtain⟨J,D2,I2,_,_,hdom,e2⟩:=hT.dom hl
 have hK:=Z99 R D2 _ true I2 (Z9r R) (k_0 R) hdom
 have hz2:I2.getD 0 0=0:=by
  have:∀ (D:Nat) (I:List Int) (ch:Bool) (I':List Int),JJ u (Zgk (nb u) O) 0 I→Zgc u (Zgk (nb u) O) (O.drop 1) D (I,ch)=some I'→I'.length=nb u∧I'.getD 0 0=0:=by
   intro D
   induction D with
   | zero =>
    intro I ch I' h he
    rw [Zgc] at he
    split at he
    ·cases he
    ·simp at he;rw [← he];exact⟨h.d.len,h.d.z⟩
   | succ D ih =>
    intro I ch I' h he
    rw [Zgc] at he
    split at he
    ·obtain⟨g1,_⟩:=Zpc R _ 0 I false rfl (by omega) h
     rw [List.drop_zero] at g1
     exact ih (Z2s u (Zgk (nb u) O) (O.drop 1) (I,false)).1 (Z2s u (Zgk (nb u) O) (O.drop 1) (I,false)).2 I' (Or.inr ⟨_,Zkc R g1⟩) he
    ·cases he
  exact (this D2 _ true I2 (Z9r R) hdom).2
 have hl2:I2.length=nb u:=by
  have:=congrArg List.length (e1.symm.trans e2)
  simp only [List.length_set] at this
  rw [← this];exact hJ.d.len
 have e12:I2=I':=by
  apply Zi (by rw [hl2,hJ.d.len])
  intro k hk
  have h1:(I'.set 0 (-1)).getD k 0=(I2.set 0 (-1)).getD k 0:=by rw [← e1,← e2]
  rw [Zbe _ _ _ _ (by rw [hJ.d.len];exact hb),Zbe _ _ _ _ (by rw [hl2];exact hb)] at h1
  by_cases h0:0=k
  ·rw [← h0,hz2,hJ.d.z]
  ·rw [if_neg h0,if_neg h0] at h1;exact h1.symm
 rw [e12] at hK
 have hs:∀ x,I.getD x 0=if 0=x then -1 else I'.getD x 0:=fun x=>by rw [e1];exact Zbe _ _ _ _ (by rw [hJ.d.len];exact hb)
 have hup:∀ (a d b:Nat) (r:Bool),b < nb u→Zkz I a d b=some r→(r=true↔Anc I' b a):=by
  intro a d
  induction d with
  | zero =>
   intro b r hbn he
   rw [Zkz,if_neg (by omega)] at he
   split at he
   ·rename_i e
    have e:a=b:=by omega
    subst e
    simp at he;subst he
    exact⟨fun _=>.refl a,fun _=>rfl⟩
   ·cases he
  | succ d ih =>
   intro b r hbn he
   rw [Zkz,if_neg (by omega)] at he
   split at he
   ·cases he
   ·rename_i hab
    rw [Int.toNat_natCast,hs] at he
    by_cases h0:0=b
    ·rw [if_pos h0] at he
     have hr:r=false:=by
      cases d with
      | zero=>rw [Zkz,if_pos (by omega)] at he;simpa using he.symm
      | succ d=>rw [Zkz,if_pos (by omega)] at he;cases he
     subst hr
     refine⟨fun h=>(by cases h),fun h=>?_⟩
     subst h0
     have:=hJ.d.anc0 h
     omega
    ·rw [if_neg h0] at he
     obtain⟨c,hc⟩:∃ c:Nat,I'.getD b 0=(c:Int):=⟨(I'.getD b 0).toNat,by have:=hJ.p b hbn;omega⟩
     rw [hc] at he
     have h1:=ih c r (by have:=(hJ.d.rg b hbn).2;omega) he
     rw [h1]
     constructor
     ·intro h;exact .up (by rw [hc,Int.toNat_natCast];exact h)
     ·intro h
      cases h with
      | refl=>omega
      | up h=>rwa [hc,Int.toNat_natCast] at h
 have hanc:∀ a b:Nat,Av u a b→b < nb u→¬ Anc I' b a:=by
  intro a b hA
  induction hA with
  | z h=>intro _ h2;exact h (hJ.d.anc0 h2)
  | @s p b hp hpn hbn hm hba ih =>
   intro _ h2
   by_cases h0:b=0
   ·subst h0;exact hba (hJ.d.anc0 h2).symm
   cases h2 with
   | refl=>exact hba rfl
   | up h2 =>
    obtain⟨d,hdd,d1,d2,d3,d4,d5⟩:=Zi5 R hJ.d hbn h0 (fun a ha _ _=>hJ.p a ha)
    rw [hfix b hbn h0,hdd,Int.toNat_natCast] at h2
    exact ih hpn ((d4 p hpn hm (hJ.p p hpn)).trans h2)
 intro a b ha hbn
 obtain⟨d,_,hd⟩:=hT.up hl a b hbn
 rw [hup a d b _ hbn hd]
 constructor
 ·intro h hA;exact hanc a b hA hbn h
 ·intro h
  apply Classical.byContradiction
  intro hn
  exact h (hK b hbn (hJ.p b hbn) a ha hn)
end Go.Proofs.YtlogdohlcdhepaaDoor.base
end
section
set_option maxRecDepth 100000
namespace Go.Proofs.YtlogdohlcdhepaaDoor.base
open Go.Sh gen
def Zfy (B:List Nat)(i:Nat):List Int:=List.map Int.ofNat ((List.range B.length).filter fun v=>decide (B.getD v 0=i))
theorem Zee {B:List Nat}{i:Nat}{z:Int}:z∈Zfy B i↔∃ n:Nat,z=n∧n < B.length∧B.getD n 0=i:=by
 unfold Zfy
 simp only [List.mem_map,List.mem_filter,List.mem_range,decide_eq_true_eq]
 constructor
 ·rintro⟨n,⟨h1,h2⟩,rfl⟩;exact⟨n,rfl,h1,h2⟩
 ·rintro⟨n,rfl,h1,h2⟩;exact⟨n,⟨h1,h2⟩,rfl⟩
theorem Zi6 (B:List Nat)(i:Nat):(Zfy B i).Pairwise (· < ·):=by
 unfold Zfy
 rw [List.pairwise_map]
 exact ((List.pairwise_lt_range).filter _).imp (fun h=>by simp only [Int.ofNat_eq_natCast];omega)
theorem Z3m {l:List Int}(h:l.Pairwise (· < ·)){i j:Nat}(hj:j < l.length)(hij:i < j):l.getD i 0 < l.getD j 0:=by
 rw [List.getD_eq_getElem?_getD,List.getElem?_eq_getElem (show i < l.length by omega),List.getD_eq_getElem?_getD,List.getElem?_eq_getElem hj]
 exact List.pairwise_iff_getElem.1 h i j (by omega) hj hij
def stL (fs:List Zmw.D):List Int:=fs.flatMap fun f=>(show List Int from f.2.2.1)++(show List Int from f.2.2.2.1)
def OkV (u:UnT.D)(B:List Nat)(D:List (List Nat))(i w:Nat)(z:Int):Prop:=∃ n:Nat,z=n∧n < w∧noW (Za1 u (n:Nat)).1=false∧B.getD n 0∈D.getD i []
abbrev agV (u:UnT.D)(v:Nat):List Int:=(Za1 u (v:Nat)).2.2.2.2.1
structure VCu (u:UnT.D)(B:List Nat)(D:List (List Nat))(v:Nat):Prop where
 op:Zvj (Za1 u (v:Nat)).1=true
 ph:(Za1 u (v:Nat)).1=21→(agV u v).length=(prD u (B.getD v 0)).length∧∀ j < (agV u v).length,∃ q:Nat,(prD u (B.getD v 0)).getD j 0=q∧q < nb u∧OkV u B D q (nv u) ((agV u v).getD j 0)
 us:(Za1 u (v:Nat)).1≠21→∀ z∈Zcc (Za1 u (v:Nat)),OkV u B D (B.getD v 0) v z
 pa:(Za1 u (v:Nat)).1=20→(agV u v).length=1
 lv:lvs (Za1 u (v:Nat)).1=true→∃ st < ns u,(show Int from (Za1 u (v:Nat)).2.2.2.2.2.1)=(st:Nat)∧∀ z∈stL (stD u st),OkV u B D (B.getD v 0) v z
 pm:(Za1 u (v:Nat)).1=1→0≤(show Int from (Za1 u (v:Nat)).2.2.2.1)∧(show Int from (Za1 u (v:Nat)).2.2.2.1) < 40∧∀ w < v,Zlh (show Int from (Za1 u (v:Nat)).2.2.2.1) (Za1 u (w:Nat))=false
structure UR (u:UnT.D)(B:List Nat)(D:List (List Nat)):Prop where
 sz:Zis u=true
 lb:B.length=nv u
 vb:∀ v < nv u,B.getD v 0 < nb u
 vl:∀ i < nb u,vlD u i=Zfy B i
 hd:∀ v w,v < w→w < nv u→B.getD v 0=B.getD w 0→Zaq (Za1 u (w:Nat)).1=true→Zaq (Za1 u (v:Nat)).1=true
 h1:∀ v < nv u,(Za1 u (v:Nat)).1=1→B.getD v 0=0
 h2:∀ v < nv u,(Za1 u (v:Nat)).1=21→B.getD v 0≠0
 pr:∀ b < nb u,(Zaw u).getD b []=prD u b
 p0:prD u 0=[]
 dm:∀ b < nb u,b≠0→∀ p∈prD u b,∃ q:Nat,p=q∧q < nb u∧∀ a∈D.getD b [],a=b∨a∈D.getD q []
 d0:∀ a∈D.getD 0 [],a=0
 rc:∀ b < nb u,b≠0→∃ p:Nat,p < b∧(p:Int)∈prD u b
 nx:∀ i < nb u,∀ t∈nxD u i,(0:Int)≤t∧t < nb u
 en:∀ i < nb u,((Zbt u i).2.1=1∧(nxD u i).length=1)∨((Zbt u i).2.1=2∧(nxD u i).length=2∧(∀ t∈nxD u i,(prD u t.toNat).length=1)∧OkV u B D i (nv u) (Zbt u i).2.2.1)∨
  ((Zbt u i).2.1=3∧(nxD u i).length=0∧∃ st < ns u,(show Int from (Zbt u i).2.2.2.2.2.1)=(st:Nat)∧∀ z∈stL (stD u st),OkV u B D i (nv u) z)
 va:∀ v < nv u,VCu u B D v
 st:∀ s < ns u,Ze2 u (stD u s)=true
variable {u:UnT.D}{B:List Nat}{D:List (List Nat)}
theorem UR.av (h:UR u B D){a x:Nat}(hA:Av u a x):x < nb u→a∉D.getD x []:=by
 induction hA with
 | z h0=>intro _ hm;exact h0 (h.d0 _ hm)
 | @s p b hp hpn hbn hm hba ih =>
  intro _ ha
  by_cases hb0:b=0
  ·subst hb0
   rw [h.pr 0 hbn,h.p0] at hm
   simp at hm
  rw [h.pr b hbn] at hm
  obtain⟨q,hq,_,hD⟩:=h.dm b hbn hb0 _ hm
  have:p=q:=by omega
  subst this
  rcases hD a ha with e | e
  ·exact hba e.symm
  ·exact ih hpn e
theorem Zyw (b:Nat):∀ (l:List Int) (k:Nat) (s:StS),l.Pairwise (· < ·)→(∀ z∈l,∃ n:Nat,z=n∧n < nv u∧s.1.getD n 0 < 0)→s.1.length=nv u→
  l.Pairwise (fun v w=>Zaq (Za1 u w).1=true→Zaq (Za1 u v).1=true)→(s.2.2.1=false→∀ z∈l,Zaq (Za1 u z).1=false)→(∀ z∈l,Zaq (Za1 u z).1=true→((Za1 u z).1=1↔b=0))→
  ∃ s',Zek u b k l s=some s'∧s'.1.length=nv u∧∀ n:Nat,(n:Int)∉l→s'.1.getD n 0=s.1.getD n 0:=by
 intro l
 induction l with
 | nil=>intro k s _ _ hl _ _ _;exact⟨s,rfl,hl,fun _ _=>rfl⟩
 | cons v r ih =>
  intro k s hpw hm hl hh hf hb
  obtain⟨n,rfl,hn,hneg⟩:=hm v (by simp)
  rw [List.pairwise_cons] at hpw hh
  have e:Zgd u b k s (n:Int)=some (s.1.set n b,s.2.1.set n k,Zaq (Za1 u (n:Int)).1,s.2.2.2+1):=by
   unfold Zgd
   rw [if_neg (by
    rw [Int.toNat_natCast,Bool.or_eq_true,not_or]
    refine⟨?_,by rw [decide_eq_true_eq];omega⟩
    have:Zc (n:Int) (nv u)=true:=Zcy.2 ⟨by omega,by omega⟩
    rw [this];simp),if_neg (by
    rw [Bool.or_eq_true,not_or]
    refine⟨fun h2=>?_,fun h2=>?_⟩
    ·rw [Bool.and_eq_true,Bool.not_eq_true'] at h2
     have:=hf h2.2 (n:Int) (by simp)
     rw [h2.1] at this;cases this
    ·rw [Bool.and_eq_true] at h2
     have:=hb (n:Int) (by simp) h2.2
     have h3:=h2.1
     by_cases e0:b=0
     ·rw [decide_eq_true (this.2 e0),decide_eq_true e0] at h3;cases h3
     ·rw [decide_eq_false (fun h=>e0 (this.1 h)),decide_eq_false e0] at h3;cases h3),Int.toNat_natCast]
  obtain⟨s',g1,g2,g3⟩:=ih (k+1) (s.1.set n b,s.2.1.set n k,Zaq (Za1 u (n:Int)).1,s.2.2.2+1) hpw.2 (fun z hz=>by
   obtain⟨q,rfl,hq,hqn⟩:=hm z (by simp [hz])
   have:=hpw.1 _ hz
   refine⟨q,rfl,hq,?_⟩
   dsimp only
   rw [Zbe _ _ _ _ (by rw [hl];exact hn),if_neg (by omega)]
   exact hqn) (by simpa using hl) hh.2 (fun h2 z hz=>by
    have:=hh.1 z hz
    dsimp only at h2
    cases h3:Zaq (Za1 u z).1 with
    | false=>rfl
    | true=>rw [this h3] at h2;cases h2) (fun z hz=>hb z (by simp [hz]))
  refine⟨s',by rw [Zek,e];exact g1,g2,fun q hq=>?_⟩
  rw [List.mem_cons,not_or] at hq
  rw [g3 q hq.2]
  dsimp only
  rw [Zbe _ _ _ _ (by rw [hl];exact hn),if_neg (by omega)]
theorem Zyy:∀ (bs:List Zfk.D) (b:Nat) (s:StS) (Bf:Nat→Nat),(∀ j x,bs[j]?=some x→(show List Int from x.1).Pairwise (· < ·)∧(∀ z∈(show List Int from x.1),∃ n:Nat,z=n∧n < nv u∧Bf n=b+j)∧
   (show List Int from x.1).Pairwise (fun v w=>Zaq (Za1 u w).1=true→Zaq (Za1 u v).1=true)∧(∀ z∈(show List Int from x.1),Zaq (Za1 u z).1=true→((Za1 u z).1=1↔b+j=0)))→
  (∀ n < nv u,b≤Bf n→s.1.getD n 0 < 0)→s.1.length=nv u→∃ s',Zdl u b bs s=some s':=by
 intro bs
 induction bs with
 | nil=>intro b s Bf _ _ _;exact⟨s,rfl⟩
 | cons x r ih =>
  intro b s Bf hx hneg hl
  obtain⟨h1,h2,h3,h4⟩:=hx 0 x rfl
  obtain⟨s',g1,g2,g3⟩:=Zyw (u:=u) b x.1 0 (s.1,s.2.1,true,s.2.2.2) h1 (fun z hz=>by
   obtain⟨n,rfl,hn,hB⟩:=h2 z hz
   exact⟨n,rfl,hn,hneg n hn (by omega)⟩) hl h3 (fun h=>by cases h) (fun z hz=>by have:=h4 z hz;rwa [Nat.add_zero] at this)
  rw [Zdl,g1]
  refine ih (b+1) s' Bf (fun j y hj=>?_) (fun n hn hB=>?_) g2
  ·have:=hx (j+1) y (by simpa using hj)
   rw [show b+(j+1)=b+1+j by omega] at this
   exact this
  ·rw [g3 n (fun hm=>by obtain⟨q,hq,_,hB2⟩:=h2 _ hm;have:n=q:=(by omega);subst this;omega)]
   exact hneg n hn (by omega)
theorem Z21 {i:Nat}{x:Zfk.D}(h:u.2.2.2.1[i]?=some x):i < nb u∧x=Zbt u i:=by
 obtain⟨h1,h2⟩:=List.getElem?_eq_some_iff.1 h
 exact⟨h1,by rw [Zci h1];exact h2.symm⟩
theorem UR.stand (h:UR u B D):∃ s,Zdm u=some s:=by
 have hne:∀ i,(Zfy B i).Pairwise (fun v w=>Zaq (Za1 u w).1=true→Zaq (Za1 u v).1=true):=by
  intro i
  refine List.Pairwise.imp_of_mem (fun {a b} ha hb hab hw=>?_) (Zi6 B i)
  obtain⟨n,rfl,hn,e1⟩:=Zee.1 ha
  obtain⟨q,rfl,hq,e2⟩:=Zee.1 hb
  exact h.hd n q (by omega) (by rw [← h.lb];exact hq) (by rw [e1,e2]) hw
 obtain⟨s,hs⟩:=Zyy (u:=u) u.2.2.2.1 0 (List.replicate (nv u) (-1),List.replicate (nv u) 0,true,0) (fun n=>B.getD n 0) (fun j x hx=>by
   obtain⟨hj,rfl⟩:=Z21 hx
   have e:=h.vl j hj
   rw [show (show List Int from (Zbt u j).1)=Zfy B j from e]
   refine⟨Zi6 B j,fun z hz=>?_,hne j,fun z hz hh=>?_⟩
   ·obtain⟨n,rfl,hn,e1⟩:=Zee.1 hz
    exact⟨n,rfl,by rw [← h.lb];exact hn,by omega⟩
   ·obtain⟨n,rfl,hn,e1⟩:=Zee.1 hz
    rw [h.lb] at hn
    constructor
    ·intro h1;have:=h.h1 n hn h1;omega
    ·intro h0
     unfold Zaq at hh
     rw [Bool.or_eq_true,decide_eq_true_eq,decide_eq_true_eq] at hh
     rcases hh with hh | hh
     ·exact absurd (show B.getD n 0=0 by omega) (h.h2 n hn hh)
     ·exact hh)
  (fun n hn _=>by dsimp only;rw [List.getD_eq_getElem?_getD,List.getElem?_replicate,if_pos hn];simp) (by simp)
 have i0:Z1p u (nb u) (List.replicate (nv u) (-1),List.replicate (nv u) 0,true,0):=by
  refine⟨by simp,by simp,?_,fun i hi=>?_⟩
  ·simp [Z26,List.countP_replicate]
  ·dsimp only
   rw [List.getD_eq_getElem?_getD,List.getElem?_replicate,if_pos hi]
   simp
   omega
 obtain⟨a1,_,a3⟩:=Znz (N:=nb u) (by rw [Nat.zero_add];exact Nat.le_refl _) i0 hs
 have hall:∀ x∈s.1,0≤x:=by
  intro x hx
  obtain⟨n,hn,rfl⟩:=List.mem_iff_getElem.1 hx
  have hn':n < nv u:=by rw [← a1.lb];exact hn
  have hbn:=h.vb n hn'
  have hm:(n:Int)∈Zfy B (B.getD n 0):=Zee.2 ⟨n,rfl,by rw [h.lb];exact hn',rfl⟩
  rw [← h.vl _ hbn] at hm
  obtain⟨q,hq,hqe⟩:=List.mem_iff_getElem.1 hm
  have e:vlD u (B.getD n 0)=(u.2.2.2.1[B.getD n 0]).1:=congrArg (fun x:Zfk.D=>x.1) (Zci hbn)
  obtain⟨n',g1,g2,g3,g4⟩:=a3 (B.getD n 0) _ (List.getElem?_eq_getElem hbn) q (by rw [← e];exact hq)
  rw [← e,List.getD_eq_getElem?_getD,List.getElem?_eq_getElem hq] at g1
  have:n'=n:=by
   have g1':(vlD u (B.getD n 0))[q]=(n':Int):=g1
   omega
  subst this
  rw [List.getD_eq_getElem?_getD,List.getElem?_eq_getElem hn] at g3
  have g3':s.1[n']=((0+B.getD n' 0:Nat):Int):=g3
  omega
 have hc:s.2.2.2=nv u:=by
  rw [a1.ct,← a1.lb]
  unfold Z26
  rw [List.countP_eq_length]
  intro x hx
  exact decide_eq_true (hall x hx)
 exact⟨s,by unfold Zdm;rw [hs];simp [Option.filter,hc]⟩
end Go.Proofs.YtlogdohlcdhepaaDoor.base
end
