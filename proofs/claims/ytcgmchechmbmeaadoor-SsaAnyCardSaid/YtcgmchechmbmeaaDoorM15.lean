/- This text proves what turnstonehand.Unit does, Zbx the abstract run: its start. Condition: nothing is known of the calls ahead ('S f = []'). -/
import Derived.Test.YtcgmchechmbmeaaDoorM13
import Derived.Test.YtcgmchechmbmeaaDoorM14
set_option linter.unusedVariables false
set_option linter.unusedSimpArgs false
section
set_option maxRecDepth 100000
namespace Go.Proofs.YtcgmchechmbmeaaDoor.base
open Go.Sh gen
variable {S:Zb4}{T T':Tg}{m0 m m1 m2:Mem}{is js:List Nat}{s s1:Us}{P:Pl}
theorem Zo1 (f:Fn)(a b:Array Value):(Value.func f a b).cells=#[Value.func f a b]:=by
 rw [Value.cells]
 intro _ h
 cases h
theorem Zkm (T:Tg)(i:Nat){zs vs:List Value}{e:TypeId}{r:Option Mem}(hr:Zad (m.new zs e) ⟨m.next,0,none⟩ vs=r)(hl:zs.length=vs.length)(h1:vs.all one=true) :
  ∃ m1 T',r=some m1∧Ag T T' m∧Zeu T' i m1 m.next vs e∧KT T [] m m1∧∀ f,T' f=T f∨T' f=i:=by
 obtain⟨o,k,n⟩:=Zar (m:=m) (cs:=zs) (e:=e) rfl
 obtain⟨m1,h2,o1,k2⟩:=Zap hr o (off:=0) (by omega) h1
 have e:Zbx zs 0 vs=vs:=by simp [Zbx,← hl]
 rw [e] at o1
 exact⟨m1,fun f=>if f=m.next then i else T f,h2,fun f hf=>if_neg (by omega),⟨_,o1,if_pos rfl⟩,KT.of (k.fresh k2 (by simp)),fun f=>by simp only;split <;> simp⟩
def Us0:Us:=⟨[],[],[],[],[],[],0⟩
def Zb9:Nat→Us
 | 0=>Us0
 | i+1=>knP (1,0,0,(i:Nat),[],0,()) (Zb9 i)
theorem Znx (k:Nat):(Zb9 k).vals.length=k∧(Zb9 k).known.length=k∧(Zb9 k).bv.length=k∧(Zb9 k).blks=[]∧(Zb9 k).sts=[]∧(Zb9 k).at_=0:=by
 induction k with
 | zero=>exact⟨rfl,rfl,rfl,rfl,rfl,rfl⟩
 | succ k ih=>obtain⟨h1,h2,h3,h4,h5,h6⟩:=ih;exact⟨by simp [Zb9,knP,Zbu,h1],by simp [Zb9,knP,h2],by simp [Zb9,knP,Zbu,h3],h4,h5,h6⟩
theorem Zow {T:Tg}{m:Mem}{px ub bb:Nat}(o:Zeu T 10 m px [.func (.func 19) #[] #[.pointer (some ⟨ub,0,none⟩),.pointer (some ⟨bb,0,none⟩)]] 49):loadRow m ⟨px,0,none⟩ 1=some [.func (.func 19) #[] #[.pointer (some ⟨ub,0,none⟩),.pointer (some ⟨bb,0,none⟩)]]∧∀ v:Int,loadRow (m.new [.int .i64 v] 3) ⟨px,0,none⟩ 1=some [.func (.func 19) #[] #[.pointer (some ⟨ub,0,none⟩),.pointer (some ⟨bb,0,none⟩)]]:=by
 obtain⟨f,o,_⟩:=o
 have l:=o.load1 (off:=0) rfl
 exact⟨l,fun v=>(o.ln _ _ 0 1).trans l⟩
theorem Zy3 (ops:List Int)(d:Za9.D)(k:Nat):Bd ops (knP d (Zb9 k)):=by
 obtain⟨h1,h2,h3,h4,h5,h6⟩:=Znx k
 exact⟨by simp [knP],by simp [knP,Zbu,h1,h2],by simp [knP,Zbu,h1,h3],by simp [knP,Zbu,h5],by simp [knP,Zbu,h6]⟩
def Us.un (s:Us):UnT.D:=(1,2,s.vals,s.blks,s.sts,())
def qU (m0 m:Mem)(bd f:Nat):Prop:=f < m.next∧(f < m0.next→f≠bd)
theorem Ziq.at {T:Tg}{m m0:Mem}{bd:Nat}{e i:Nat}{t:Ty}{l:List t.D}{ao:Option Addr}(h:Ziq T m e t l ao i)(h0:∀ f,f < m0.next→T f=if f=bd then 10 else 0)(hi:i≠10):AtI (qU m0 m bd) m (.slice e t) l [.slice ao l.length l.length]:=by
 obtain⟨css,h1,h2,fam,h3,h4⟩:=h
 have g1:∀ f,DQ T m f→qU m0 m bd f:=fun f hq=>⟨hq.2,fun hf e=>by
  have:=h0 f hf
  rw [if_pos e,hq.1] at this;omega⟩
 have g2:l.length≠0→qU m0 m bd fam:=fun hn=>by
  obtain⟨b,e,o⟩:=h3.own hn
  refine⟨o.flt,fun hf e2=>?_⟩
  have:=h0 fam hf
  rw [if_pos e2,h4 (by rw [e];simp)] at this;omega
 exact⟨ao,css,fam,rfl,h1,fun j d c hd hc=>(h2 j d c hd hc).mono g1,RsT.of h3.rs,g2⟩
set_option maxHeartbeats 4000000 in
theorem Z1f (hN:Nq S)(h:UB m0 T m P s)(hb:Bd P.ops s)(hv:s.vals.length≤300)(hbl:s.blks.length≤20){A:Value→Mem→Prop}{i:Nat}
  (hrf:m0.next≤P.rf) (meth:∀ va ba sa m1,UAt (qU m0 m1 P.bad) m1 (Zb6 3 0 [] (Zac P.ops s).2 (Zac P.ops s).1).un va ba sa→Zaa m0 m1 []→A (.agg #[.int .i64 1,.int .i64 2,.slice va (Zb6 3 0 [] (Zac P.ops s).2 (Zac P.ops s).1).vals.length (Zb6 3 0 [] (Zac P.ops s).2 (Zac P.ops s).1).vals.length,.slice ba (Zb6 3 0 [] (Zac P.ops s).2 (Zac P.ops s).1).blks.length (Zb6 3 0 [] (Zac P.ops s).2 (Zac P.ops s).1).blks.length,.slice sa (Zb6 3 0 [] (Zac P.ops s).2 (Zac P.ops s).1).sts.length (Zb6 3 0 [] (Zac P.ops s).2 (Zac P.ops s).1).sts.length]) m1) :
  W Tryd.prog TT S 86 [126,209,298] (.seq (rgn TT 7 71) (.seq (rgn TT 7 72) .ret)) [] [(1,.pointer (some ⟨P.rb,0,none⟩)),(2,.pointer (some ⟨P.rc,0,none⟩)),(3,.pointer (some ⟨P.ub,0,none⟩)),(5,.pointer (some ⟨P.kb,0,none⟩)),(6,.pointer (some ⟨P.bb,0,none⟩)),(7,.pointer (some ⟨P.px,0,none⟩)),(10,.pointer (some ⟨P.nx,0,none⟩)),(11,.pointer (some ⟨P.sx,0,none⟩)),(12,.func (.func 22) #[] #[.pointer (some ⟨P.nx,0,none⟩),.pointer (some ⟨P.ub,0,none⟩),.pointer (some ⟨P.kb,0,none⟩),.pointer (some ⟨P.px,0,none⟩),.pointer (some ⟨P.sx,0,none⟩)]),(13,.func (.func 23) #[] #[.pointer (some ⟨P.bb,0,none⟩),.pointer (some ⟨P.ub,0,none⟩)]),(14,.int .i64 (i:Nat))] m (QF Tryd.prog [.cell 2 29] A):=by
 obtain⟨m5,T5,c5,B5⟩:=h.state hN hb (by omega) (by omega)
 obtain⟨_,_,_,_,_,_,_,_,lS⟩:=h.ll
 obtain⟨_,f1,f2,_,f4,_,_⟩:=Zcy (d:=(0,0,0,0,[],0,())) hb
 obtain⟨m6,T6,c6,B6⟩:=B5.end hN (by rw [f4];omega) 3 0 [] (Zac P.ops s).2 Zdj
 have c6:Zaq Tryd.prog TT S 23 [.agg #[.slice none 0 0,.int .i64 3,.int .i64 0,.slice none 0 0,.slice none 0 0,.int .i64 (Zac P.ops s).2],.pointer (some ⟨P.bb,0,none⟩),.pointer (some ⟨P.ub,0,none⟩)] m5=some (.int .i64 ((Zac P.ops s).1.blks.length:Nat),m6):=c6
 simp [-Int.natCast_add,-w7_72,Zax Zy0,lS,c5,c6]
 generalize Zb6 3 0 [] (Zac P.ops s).2 (Zac P.ops s).1=s6 at *
 obtain⟨va,ba,sa,u1,u2,u3,u4⟩:=B6.u.u
 obtain⟨m7,e7,o8,k7'⟩:=Zap (r:=_) rfl B6.o.1 (off:=0) (vs:=[.int .i64 1,.int .i64 2,.slice va s6.vals.length s6.vals.length,.slice ba s6.blks.length s6.blks.length,.slice sa s6.sts.length s6.sts.length]) (by simp) (by simp [Zau,Zae])
 simp [Zbx] at o8
 have k7:KT T6 [10] m6 m7:=⟨[P.rf],k7',fun f hm _=>by simp at hm;subst hm;rw [B6.o.2];simp⟩
 have l8:=o8.load (off:=0) 5 (by simp)
 obtain⟨f9,o9,_⟩:=u1
 have l9:=o9.load (off:=0) 5 (by simp)
 simp only [Zao,List.drop_zero,List.take] at l8 l9
 simp [-Int.natCast_add,Zig Z3c,l9,e7,l8]
 exact meth va ba sa m7 ⟨Ziq.at (u2.keep k7 Ag.refl (by simp) (by simp)) B6.j0 (by omega),Ziq.at (u3.keep k7 Ag.refl (by simp) (by simp)) B6.j0 (by omega),Ziq.at (u4.keep k7 Ag.refl (by simp) (by simp)) B6.j0 (by omega)⟩ (B6.j1.fresh k7' (fun f hm=>by simp at hm;omega))
def Ze8 (ops:List Int):List Int→Nat→Us→Us
 | [],_,s=>s
 | _::_,0,s=>s
 | x::r,j+1,s=>if s.vals.length < 160 then Ze8 ops r j (if x % 3=0 then Zzx ops s else if x % 3=1 then Zpo ops s else Zq1 ops s) else s
def Zje (ops sh:List Int)(n:Int):Us:=
 let s:=Ze8 ops sh 6 (Zgv ops (knP (2,0,0,5,[],0,()) (Zb9 (n % 5).toNat)))
 Zb6 3 0 [] (Zac ops s).2 (Zac ops s).1
set_option maxHeartbeats 8000000 in
theorem Z0s (hN:Nq S)(bd:Nat){oa sa:Option Addr}{ops sh:List Int}{n:Int}(ho:Zah (qU m0 m0 bd) m0 oa ops)(hs:Zah (qU m0 m0 bd) m0 sa sh)(hol:ops.length≤9223372036854775807) :
  ∃ v m1,Zaq Tryd.prog TT S 7 [.agg #[.slice oa ops.length ops.length,.slice sa sh.length sh.length,.int .i64 n]] m0=some (v,m1)∧∃ va ba sa,v=.agg #[.int .i64 1,.int .i64 2,.slice va (Zje ops sh n).vals.length (Zje ops sh n).vals.length,.slice ba (Zje ops sh n).blks.length (Zje ops sh n).blks.length,.slice sa (Zje ops sh n).sts.length (Zje ops sh n).sts.length]∧UAt (qU m0 m1 bd) m1 (Zje ops sh n).un va ba sa∧Zaa m0 m1 []∧(1≤(Zje ops sh n).vals.length∧(Zje ops sh n).vals.length≤300∧(Zje ops sh n).blks.length≤20∧(Zje ops sh n).sts.length≤330):=by
 have ho:Zah (DQ (fun f=>if f=bd then 10 else 0) m0) m0 oa ops:=by
  obtain⟨f,h1,h2⟩:=ho
  exact⟨f,h1,fun hz=>⟨if_neg ((h2 hz).2 (h2 hz).1),(h2 hz).1⟩⟩
 have hs:Zah (DQ (fun f=>if f=bd then 10 else 0) m0) m0 sa sh:=by
  obtain⟨f,h1,h2⟩:=hs
  exact⟨f,h1,fun hz=>⟨if_neg ((h2 hz).2 (h2 hz).1),(h2 hz).1⟩⟩
 obtain⟨T1,a1,oR1,k1,n1,w1⟩:=Znh (m:=m0) (fun f=>if f=bd then 10 else 0) 10 (cs:=[.slice oa ops.length ops.length,.slice sa sh.length sh.length,.int .i64 n]) (e:=24) rfl
 have J1:=k1
 have j1:∀ f,f < m0.next→T1 f=if f=bd then 10 else 0:=fun f hf=>a1 f hf
 have k1:KT (fun f=>if f=bd then 10 else 0) [] m0 _:=KT.of k1
 have ho1:=Zan ho k1 a1 (by simp)
 have hs1:=Zan hs k1 a1 (by simp)
 refine Zhk 86 [126,209,298] k7 hN.unit rfl ?_
 simp [-Int.natCast_add,-w7_1,Zbn b24]
 generalize m0.new _ _=m1 at *
 generalize hrb:m0.next=rb at oR1 ⊢
 obtain⟨T2,a2,oX2,k2,n2,w2⟩:=Znh (m:=m1) T1 10 (cs:=[.int .i64 0,.int .i64 0,.slice none 0 0,.slice none 0 0,.slice none 0 0]) (e:=29) rfl
 obtain⟨rf,hrf,oX2⟩:∃ rf,m0.next≤rf∧Z5m T2 10 _ m1.next [.int .i64 0,.int .i64 0,.slice none 0 0,.slice none 0 0,.slice none 0 0] 29 rf:=by
  obtain⟨f,o,t⟩:=oX2
  have h1:=(Own.new m1 [.int .i64 0,.int .i64 0,.slice none 0 0,.slice none 0 0,.slice none 0 0] 29).blk
  rw [o.blk] at h1
  simp at h1
  have:=J1.1
  exact⟨f,by omega,o,t⟩
 have k2:KT T1 [] m1 _:=KT.of k2
 have oR2:=oR1.keep k2 a2 (by simp)
 have ho2:=Zan ho1 k2 a2 (by simp)
 have hs2:=Zan hs1 k2 a2 (by simp)
 have j2:=ja j1 J1 a2
 have J2:=jk j1 J1 k2 (by simp)
 generalize m1.new _ _=m2 at *
 generalize m1.next=rc at *
 simp [-Int.natCast_add,-w7_2,Zax Ybq]
 generalize hr3:Zad _ _ _=r3
 obtain⟨m3,T3,rfl,a3,oU3,k3,w3⟩:=Zkm T2 1 hr3 rfl (by simp [Zau,Zae])
 clear hr3
 have oR3:=oR2.keep k3 a3 (by simp)
 have oX3:=oX2.keep k3 a3 (by simp)
 have ho3:=Zan ho2 k3 a3 (by simp)
 have hs3:=Zan hs2 k3 a3 (by simp)
 have j3:=ja j2 J2 a3
 have J3:=jk j2 J2 k3 (by simp)
 generalize m2.next=ub at *
 have lR:loadRow m3 ⟨rb,2,none⟩ 1=some [.int .i64 n]:=by
  obtain⟨f,o,_⟩:=oR3
  exact o.load1 (off:=2) rfl
 have pk:=Zch (m:=m3) hN.pick n 5 (by omega) (by omega)
 obtain⟨N,hN1⟩:∃ N:Nat,n % 5=N:=⟨(n % 5).toNat,by omega⟩
 have hN5:N≤4:=by omega
 rw [hN1] at pk
 simp [-Int.natCast_add,-w7_3,lR,pk]
 obtain⟨T4,a4,oK4,k4,n4,w4⟩:=Znh (m:=m3) T3 5 (cs:=[.slice none 0 0]) (e:=22) rfl
 have k4:KT T3 [] m3 _:=KT.of k4
 have oR4:=oR3.keep k4 a4 (by simp)
 have oX4:=oX3.keep k4 a4 (by simp)
 have oU4:=oU3.keep k4 a4 (by simp)
 have ho4:=Zan ho3 k4 a4 (by simp)
 have hs4:=Zan hs3 k4 a4 (by simp)
 have j4:=ja j3 J3 a4
 have J4:=jk j3 J3 k4 (by simp)
 simp [-Int.natCast_add,-w7_4]
 generalize m3.new _ _=m4 at *
 generalize m3.next=kb at *
 simp [-Int.natCast_add,-w7_5,Zax Zy0]
 generalize hr5:Zad _ _ _=r5
 obtain⟨m5,T5,rfl,a5,oB5,k5,w5⟩:=Zkm T4 7 hr5 rfl (by simp [Zau,Zae])
 clear hr5
 have oR5:=oR4.keep k5 a5 (by simp)
 have oX5:=oX4.keep k5 a5 (by simp)
 have oU5:=oU4.keep k5 a5 (by simp)
 have oK5:=oK4.keep k5 a5 (by simp)
 have ho5:=Zan ho4 k5 a5 (by simp)
 have hs5:=Zan hs4 k5 a5 (by simp)
 have j5:=ja j4 J4 a5
 have J5:=jk j4 J4 k5 (by simp)
 generalize m4.next=bb at *
 simp [-Int.natCast_add,-w7_6,Zo1]
 generalize hr6:Zad _ _ _=r6
 obtain⟨m6,T6,rfl,a6,oP6,k6,w6⟩:=Zkm T5 10 hr6 rfl rfl
 clear hr6
 have oR6:=oR5.keep k6 a6 (by simp)
 have oX6:=oX5.keep k6 a6 (by simp)
 have oU6:=oU5.keep k6 a6 (by simp)
 have oK6:=oK5.keep k6 a6 (by simp)
 have oB6:=oB5.keep k6 a6 (by simp)
 have ho6:=Zan ho5 k6 a6 (by simp)
 have hs6:=Zan hs5 k6 a6 (by simp)
 have j6:=ja j5 J5 a6
 have J6:=jk j5 J5 k6 (by simp)
 generalize m5.next=px at *
 have t6:∀ f,T6 f≤10:=fun f=>by
  have e1:=w1 f
  have e0:(if f=bd then 10 else 0)≤10:=by split <;> omega
  have e2:=w2 f
  have e3:=w3 f
  have e4:=w4 f
  have e5:=w5 f
  have e6:=w6 f
  omega
 have U6:UM T6 m6 ub kb bb 0 Us0:=⟨⟨none,none,none,oU6,Ziq.nil _ _ _ _ _,Ziq.nil _ _ _ _ _,Ziq.nil _ _ _ _ _⟩,⟨none,oK6,⟨0,Sr.nil _ _ _ _,by simp⟩⟩,⟨none,none,oB6,⟨0,Sl.nil _ _ _ _,by simp⟩,Zdj⟩,Or.inl rfl⟩
 simp [-Int.natCast_add]
 refine Zag 86 [126,209,298] (fun d E mG=>∃ (i:Nat) (T':Tg),N - i=d∧i≤N∧UM T' mG ub kb bb 0 (Zb9 i)∧(∀ f,T' f≤10)∧Ag T6 T' m6∧KT T6 [1,2,5,6,7,8] m6 mG∧
  E=[(0,.agg #[.slice oa ops.length ops.length,.slice sa sh.length sh.length,.int .i64 n]),(1,.pointer (some ⟨rb,0,none⟩)),(2,.pointer (some ⟨rc,0,none⟩)),(3,.pointer (some ⟨ub,0,none⟩)),(4,.int .i64 (N:Int)),(5,.pointer (some ⟨kb,0,none⟩)),(6,.pointer (some ⟨bb,0,none⟩)),(7,.pointer (some ⟨px,0,none⟩)),(8,.int .i64 (i:Int))]) _ ⟨_,⟨0,T6,rfl,by omega,U6,t6,Ag.refl,KT.refl,rfl⟩,(by repeat' constructor)⟩ ?_
 rintro d E mG ih ⟨i,T',rfl,hiN,hU,hT',aG,kG,rfl⟩
 obtain⟨z1,z2,z3,z4,z5,z6⟩:=Znx i
 have oP:Zeu T' 10 mG px _ _:=oP6.keep kG aG (by simp)
 by_cases hi:i < N
 ·have hi':(i:Int) < N:=by omega
  obtain⟨J,hJ⟩:∃ J,i+1=J:=⟨_,rfl⟩
  have wi:IntKind.i64.wrap ((i:Int)+1)=(J:Int):=by rw [Zab (by omega) (by omega)];omega
  obtain⟨v7,m7,c7,rfl,T7,hU7,a7,k7,b7⟩:=Zdq hN hT' hU (by omega) (by omega) (d:=(1,0,0,(i:Nat),[],0,())) (aa:=none) Zdj
  have c7:Zaq Tryd.prog TT S 19 [.agg #[.int .i64 1,.int .i64 0,.int .i64 0,.int .i64 (i:Nat),.slice none 0 0,.int .i64 0],.pointer (some ⟨ub,0,none⟩),.pointer (some ⟨bb,0,none⟩)] mG=some (.int .i64 ((Zb9 i).vals.length:Nat),m7):=c7
  obtain⟨ka,l1,l2,l3,m8,ka2,m9,T9,e8,l4,e9,hU9,a9,k9,b9⟩:=UM.kn hU hU7 k7 a7 (by simp) rfl b7 (by omega) ((Zb9 i).vals.length:Nat)
  obtain⟨lP,_⟩:=Zow oP
  obtain⟨lP7,lPn⟩:=Zow (oP.keep k7 a7 (by simp))
  simp [-Int.natCast_add,-w7_9,Zax Zqw,Za u22 bs3 rfl,Zbb u22 sz3,hi',Zde _ _ (Zox _ _),lP,c7,l1,l2,l3,e8,e9]
  simp [-Int.natCast_add,wi]
  exact ih (N - J) [(0,.agg #[.slice oa ops.length ops.length,.slice sa sh.length sh.length,.int .i64 n]),(1,.pointer (some ⟨rb,0,none⟩)),(2,.pointer (some ⟨rc,0,none⟩)),(3,.pointer (some ⟨ub,0,none⟩)),(4,.int .i64 (N:Int)),(5,.pointer (some ⟨kb,0,none⟩)),(6,.pointer (some ⟨bb,0,none⟩)),(7,.pointer (some ⟨px,0,none⟩)),(8,.int .i64 (J:Int))] _ _ ⟨J,T9,rfl,by omega,by rw [← hJ];exact hU9,b9,(aG.trans a7 kG.le).trans a9 (by have:=kG.le;have:=k7.le;omega),(kG.trans aG (k7.mono (by simp))).trans (aG.trans a7 kG.le) (k9.mono (by simp)),rfl⟩ (by omega) (by repeat' constructor)
 ·have hi':¬ (i:Int) < N:=by omega
  obtain⟨v7,m7,c7,rfl,T7,hU7,a7,k7,b7⟩:=Zdq hN hT' hU (by omega) (by omega) (d:=(2,0,0,5,[],0,())) (aa:=none) Zdj
  have c7:Zaq Tryd.prog TT S 19 [.agg #[.int .i64 2,.int .i64 0,.int .i64 0,.int .i64 5,.slice none 0 0,.int .i64 0],.pointer (some ⟨ub,0,none⟩),.pointer (some ⟨bb,0,none⟩)] mG=some (.int .i64 ((Zb9 i).vals.length:Nat),m7):=c7
  obtain⟨ka,l1,l2,l3,m8,ka2,m9,T9,e8,l4,e9,hU9,a9,k9,b9⟩:=UM.kn hU hU7 k7 a7 (by simp) rfl b7 (by omega) ((Zb9 i).vals.length:Nat)
  obtain⟨lP,_⟩:=Zow oP
  obtain⟨lP7,lPn⟩:=Zow (oP.keep k7 a7 (by simp))
  simp [-Int.natCast_add,-w7_10,hi']
  simp [-Int.natCast_add,-w7_11,Zax Zqw,Za u22 bs3 rfl,Zbb u22 sz3,Zde _ _ (Zox _ _),lP,c7,l1,l2,l3,e8,e9]
  have aT:=(aG.trans a7 kG.le).trans a9 (by have:=kG.le;have:=k7.le;omega)
  have kT:KT T6 [1,2,5,6,7,8] m6 m9:=(kG.trans aG (k7.mono (by simp))).trans (aG.trans a7 kG.le) (k9.mono (by simp))
  have eN:i=N:=by omega
  subst eN
  have oR9:=oR6.keep kT aT (by simp)
  have oX9:=oX6.keep kT aT (by simp)
  have oP9:=oP6.keep kT aT (by simp)
  have ho9:=Zan ho6 kT aT (by simp)
  have hs9:=Zan hs6 kT aT (by simp)
  have j9:=ja j6 J6 aT
  have J9:=jk j6 J6 kT (by simp)
  simp [-Int.natCast_add,-w7_12]
  generalize hr10:Zad _ _ _=r10
  obtain⟨m10,T10,rfl,a10,oA10,k10,w10⟩:=Zkm T9 9 hr10 rfl (by simp [Zau])
  clear hr10
  have oR10:=oR9.keep k10 a10 (by simp)
  have oX10:=oX9.keep k10 a10 (by simp)
  have oP10:=oP9.keep k10 a10 (by simp)
  have ho10:=Zan ho9 k10 a10 (by simp)
  have hs10:=Zan hs9 k10 a10 (by simp)
  have j10:=ja j9 J9 a10
  have J10:=jk j9 J9 k10 (by simp)
  have U10:=hU9.keep k10 a10 (by simp)
  have z:m9.next≠0:=by
   obtain⟨f,o,_⟩:=oP9
   have:=o.flt
   omega
  generalize m9.next=ab at *
  have U10:UM T10 m10 ub kb bb ab (knP (2,0,0,5,[],0,()) (Zb9 i)):=⟨U10.u,U10.k,U10.b,Or.inr (by simp only [knP,Zbu,z6];exact oA10)⟩
  simp [-Int.natCast_add,-w7_13,Zo1]
  generalize hr11:Zad _ _ _=r11
  obtain⟨m11,T11,rfl,a11,oN11,k11,w11⟩:=Zkm T10 10 hr11 rfl rfl
  clear hr11
  have oR11:=oR10.keep k11 a11 (by simp)
  have oX11:=oX10.keep k11 a11 (by simp)
  have oP11:=oP10.keep k11 a11 (by simp)
  have ho11:=Zan ho10 k11 a11 (by simp)
  have hs11:=Zan hs10 k11 a11 (by simp)
  have j11:=ja j10 J10 a11
  have J11:=jk j10 J10 k11 (by simp)
  have U11:=U10.keep k11 a11 (by simp)
  generalize m10.next=nx at *
  simp [-Int.natCast_add,-w7_14,Zo1]
  generalize hr12:Zad _ _ _=r12
  obtain⟨m12,T12,rfl,a12,oS12,k12,w12⟩:=Zkm T11 10 hr12 rfl rfl
  clear hr12
  have oR12:=oR11.keep k12 a12 (by simp)
  have oX12:=oX11.keep k12 a12 (by simp)
  have oP12:=oP11.keep k12 a12 (by simp)
  have oN12:=oN11.keep k12 a12 (by simp)
  have ho12:=Zan ho11 k12 a12 (by simp)
  have hs12:=Zan hs11 k12 a12 (by simp)
  have j12:=ja j11 J11 a12
  have J12:=jk j11 J11 k12 (by simp)
  have U12:=U11.keep k12 a12 (by simp)
  generalize m11.next=sx at *
  have B12:UB m0 T12 m12 ⟨ub,kb,bb,ab,rb,nx,px,sx,rc,bd,rf,ops,sh,n⟩ (knP (2,0,0,5,[],0,()) (Zb9 i)):=⟨U12,⟨⟨oa,sa,oR12,ho12,hs12⟩,oN12,oP12,oS12,z⟩,fun f=>by have e1:=b9 f;have e2:=w10 f;have e3:=w11 f;have e4:=w12 f;omega,j12,J12,oX12,hol⟩
  simp [-Int.natCast_add,-w7_16]
  obtain⟨v13,m13,T13,c13',B13,D13,y13,x13⟩:=B12.row hN (Zy3 ops (2,0,0,5,[],0,()) i) (by simp only [knP,Zbu,List.length_append,List.length_cons,List.length_nil];omega) (by simp only [knP,Zbu,z4];simp)
  simp [-Int.natCast_add,-w7_17,c13']
  have eU:Zje ops sh n=(let s:=Ze8 ops sh 6 (Zgv ops (knP (2,0,0,5,[],0,()) (Zb9 i)));Zb6 3 0 [] (Zac ops s).2 (Zac ops s).1):=by unfold Zje;rw [hN1];rfl
  dsimp only at B13 D13 x13 y13 eU
  have x13:(Zgv ops (knP (2,0,0,5,[],0,()) (Zb9 i))).blks.length=0:=by rw [x13];simp only [knP,Zbu,z4];rfl
  have y13:(Zgv ops (knP (2,0,0,5,[],0,()) (Zb9 i))).vals.length≤300:=by
   have e:(knP (2,0,0,5,[],0,()) (Zb9 i)).vals.length=i+1:=by simp [knP,Zbu,z1]
   rw [e] at y13
   omega
  generalize Zgv ops (knP (2,0,0,5,[],0,()) (Zb9 i))=s13 at *
  simp [-Int.natCast_add]
  obtain⟨R,hR⟩:∃ R,Ze8 ops sh 6 s13=R:=⟨_,rfl⟩
  rw [hR] at eU
  refine Zag 86 [126,209,298] (fun d E mG=>∃ (k:Nat) (s':Us) (T':Tg),6 - k=d∧k≤6∧k≤sh.length∧UB m0 T' mG (⟨ub,kb,bb,ab,rb,nx,px,sx,rc,bd,rf,ops,sh,n⟩:Pl) s'∧Bd ops s'∧s'.blks.length≤3 * k∧s'.vals.length≤300∧Ze8 ops (sh.drop k) (6 - k) s'=R∧
   E=[(1,.pointer (some ⟨rb,0,none⟩)),(2,.pointer (some ⟨rc,0,none⟩)),(3,.pointer (some ⟨ub,0,none⟩)),(5,.pointer (some ⟨kb,0,none⟩)),(6,.pointer (some ⟨bb,0,none⟩)),(7,.pointer (some ⟨px,0,none⟩)),(10,.pointer (some ⟨nx,0,none⟩)),(11,.pointer (some ⟨sx,0,none⟩)),(12,.func (.func 22) #[] #[.pointer (some ⟨nx,0,none⟩),.pointer (some ⟨ub,0,none⟩),.pointer (some ⟨kb,0,none⟩),.pointer (some ⟨px,0,none⟩),.pointer (some ⟨sx,0,none⟩)]),(13,.func (.func 23) #[] #[.pointer (some ⟨bb,0,none⟩),.pointer (some ⟨ub,0,none⟩)]),(14,.int .i64 (k:Nat))]) _ ⟨_,⟨0,s13,T13,rfl,by omega,by omega,B13,D13,by omega,y13,hR,rfl⟩,(by repeat' constructor)⟩ ?_
  clear hR B13 D13 x13 y13 U6 U10 U11 U12 B12
  rintro d E mG ih ⟨k,s',T',rfl,hk6,hkl,hB,hD,hbl,hvl,hS,rfl⟩
  obtain⟨ka,ba,va,lk,lb,lv,lN,lP,lS⟩:=hB.ll
  obtain⟨oa',sa',⟨fr,oR,_⟩,_,hSh⟩:=hB.c.r
  have lR:=oR.load1 (off:=1) rfl
  by_cases hc:k < sh.length∧k < 6∧s'.vals.length < 160
  ·obtain⟨q1,q2,q3⟩:=hc
   have q1':(k:Int) < sh.length:=by omega
   have q2':(k:Int) < 6:=by omega
   have q3':(s'.vals.length:Int) < 160:=by omega
   have q4:(k:Int)≤9223372036854775807:=by omega
   obtain⟨J,hJ⟩:∃ J,k+1=J:=⟨_,rfl⟩
   have wk:IntKind.i64.wrap ((k:Int)+1)=(J:Int):=by rw [Zab (by omega) (by omega)];omega
   obtain⟨sb,rfl,lo⟩:=hSh.get q1
   have e6:6 - k=(6 - J)+1:=by omega
   have ex:sh.drop k=sh.getD k 0::sh.drop J:=by rw [List.drop_eq_getElem_cons q1,← hJ];simp [List.getD,q1]
   rw [e6,ex,Ze8,if_pos q3] at hS
   generalize sh.getD k 0=x at *
   have pk:=Zch (m:=mG) hN.pick x 3 (by omega) (by omega)
   by_cases x0:x % 3=0
   ·rw [if_pos x0] at hS
    rw [x0] at pk
    simp [-Int.natCast_add,-w7_21,q1,q1',q2',q3',q4,lR,lv,lo,pk]
    refine (Zor _ _).1 (Zbz (E:=[(1,.pointer (some ⟨rb,0,none⟩)),(2,.pointer (some ⟨rc,0,none⟩)),(3,.pointer (some ⟨ub,0,none⟩)),(5,.pointer (some ⟨kb,0,none⟩)),(6,.pointer (some ⟨bb,0,none⟩)),(7,.pointer (some ⟨px,0,none⟩)),(10,.pointer (some ⟨nx,0,none⟩)),(11,.pointer (some ⟨sx,0,none⟩)),(12,.func (.func 22) #[] #[.pointer (some ⟨nx,0,none⟩),.pointer (some ⟨ub,0,none⟩),.pointer (some ⟨kb,0,none⟩),.pointer (some ⟨px,0,none⟩),.pointer (some ⟨sx,0,none⟩)]),(13,.func (.func 23) #[] #[.pointer (some ⟨bb,0,none⟩),.pointer (some ⟨ub,0,none⟩)]),(14,.int .i64 (k:Nat))]) (Z20 hN hB hD q3 (by omega) ?_) (by repeat' constructor))
    intro m1 T1 h1 d1 b1 v1
    simp [-Int.natCast_add,wk]
    exact ih (6 - J) [(1,.pointer (some ⟨rb,0,none⟩)),(2,.pointer (some ⟨rc,0,none⟩)),(3,.pointer (some ⟨ub,0,none⟩)),(5,.pointer (some ⟨kb,0,none⟩)),(6,.pointer (some ⟨bb,0,none⟩)),(7,.pointer (some ⟨px,0,none⟩)),(10,.pointer (some ⟨nx,0,none⟩)),(11,.pointer (some ⟨sx,0,none⟩)),(12,.func (.func 22) #[] #[.pointer (some ⟨nx,0,none⟩),.pointer (some ⟨ub,0,none⟩),.pointer (some ⟨kb,0,none⟩),.pointer (some ⟨px,0,none⟩),.pointer (some ⟨sx,0,none⟩)]),(13,.func (.func 23) #[] #[.pointer (some ⟨bb,0,none⟩),.pointer (some ⟨ub,0,none⟩)]),(14,.int .i64 (J:Nat))] _ _ ⟨J,_,T1,rfl,by omega,by omega,h1,d1,by omega,v1,hS,rfl⟩ (by omega) (by repeat' constructor)
   ·rw [if_neg x0] at hS
    by_cases x1:x % 3=1
    ·rw [if_pos x1] at hS
     rw [x1] at pk
     simp [-Int.natCast_add,-w7_38,q1,q1',q2',q3',q4,lR,lv,lo,pk]
     refine (Zor _ _).1 (Zbz (E:=[(1,.pointer (some ⟨rb,0,none⟩)),(2,.pointer (some ⟨rc,0,none⟩)),(3,.pointer (some ⟨ub,0,none⟩)),(5,.pointer (some ⟨kb,0,none⟩)),(6,.pointer (some ⟨bb,0,none⟩)),(7,.pointer (some ⟨px,0,none⟩)),(10,.pointer (some ⟨nx,0,none⟩)),(11,.pointer (some ⟨sx,0,none⟩)),(12,.func (.func 22) #[] #[.pointer (some ⟨nx,0,none⟩),.pointer (some ⟨ub,0,none⟩),.pointer (some ⟨kb,0,none⟩),.pointer (some ⟨px,0,none⟩),.pointer (some ⟨sx,0,none⟩)]),(13,.func (.func 23) #[] #[.pointer (some ⟨bb,0,none⟩),.pointer (some ⟨ub,0,none⟩)]),(14,.int .i64 (k:Nat))]) (Z1b hN hB hD q3 (by omega) ?_) (by repeat' constructor))
     intro m1 T1 h1 d1 b1 v1
     simp [-Int.natCast_add,wk]
     exact ih (6 - J) [(1,.pointer (some ⟨rb,0,none⟩)),(2,.pointer (some ⟨rc,0,none⟩)),(3,.pointer (some ⟨ub,0,none⟩)),(5,.pointer (some ⟨kb,0,none⟩)),(6,.pointer (some ⟨bb,0,none⟩)),(7,.pointer (some ⟨px,0,none⟩)),(10,.pointer (some ⟨nx,0,none⟩)),(11,.pointer (some ⟨sx,0,none⟩)),(12,.func (.func 22) #[] #[.pointer (some ⟨nx,0,none⟩),.pointer (some ⟨ub,0,none⟩),.pointer (some ⟨kb,0,none⟩),.pointer (some ⟨px,0,none⟩),.pointer (some ⟨sx,0,none⟩)]),(13,.func (.func 23) #[] #[.pointer (some ⟨bb,0,none⟩),.pointer (some ⟨ub,0,none⟩)]),(14,.int .i64 (J:Nat))] _ _ ⟨J,_,T1,rfl,by omega,by omega,h1,d1,by omega,v1,hS,rfl⟩ (by omega) (by repeat' constructor)
    ·rw [if_neg x1] at hS
     simp [-Int.natCast_add,-w7_61,q1,q1',q2',q3',q4,lR,lv,lo,pk,x0,x1]
     refine (Zor _ _).1 (Zbz (E:=[(1,.pointer (some ⟨rb,0,none⟩)),(2,.pointer (some ⟨rc,0,none⟩)),(3,.pointer (some ⟨ub,0,none⟩)),(5,.pointer (some ⟨kb,0,none⟩)),(6,.pointer (some ⟨bb,0,none⟩)),(7,.pointer (some ⟨px,0,none⟩)),(10,.pointer (some ⟨nx,0,none⟩)),(11,.pointer (some ⟨sx,0,none⟩)),(12,.func (.func 22) #[] #[.pointer (some ⟨nx,0,none⟩),.pointer (some ⟨ub,0,none⟩),.pointer (some ⟨kb,0,none⟩),.pointer (some ⟨px,0,none⟩),.pointer (some ⟨sx,0,none⟩)]),(13,.func (.func 23) #[] #[.pointer (some ⟨bb,0,none⟩),.pointer (some ⟨ub,0,none⟩)]),(14,.int .i64 (k:Nat))]) (Zz8 hN hB hD q3 (by omega) ?_) (by repeat' constructor))
     intro m1 T1 h1 d1 b1 v1
     simp [-Int.natCast_add,wk]
     exact ih (6 - J) [(1,.pointer (some ⟨rb,0,none⟩)),(2,.pointer (some ⟨rc,0,none⟩)),(3,.pointer (some ⟨ub,0,none⟩)),(5,.pointer (some ⟨kb,0,none⟩)),(6,.pointer (some ⟨bb,0,none⟩)),(7,.pointer (some ⟨px,0,none⟩)),(10,.pointer (some ⟨nx,0,none⟩)),(11,.pointer (some ⟨sx,0,none⟩)),(12,.func (.func 22) #[] #[.pointer (some ⟨nx,0,none⟩),.pointer (some ⟨ub,0,none⟩),.pointer (some ⟨kb,0,none⟩),.pointer (some ⟨px,0,none⟩),.pointer (some ⟨sx,0,none⟩)]),(13,.func (.func 23) #[] #[.pointer (some ⟨bb,0,none⟩),.pointer (some ⟨ub,0,none⟩)]),(14,.int .i64 (J:Nat))] _ _ ⟨J,_,T1,rfl,by omega,by omega,h1,d1,by omega,v1,hS,rfl⟩ (by omega) (by repeat' constructor)
  ·have eS:s'=R:=by
    rw [← hS]
    by_cases q1:k < sh.length
    ·rw [List.drop_eq_getElem_cons q1]
     by_cases q2:k < 6
     ·rw [show 6 - k=(5 - k)+1 by omega,Ze8,if_neg (fun h=>hc ⟨q1,q2,h⟩)]
     ·rw [show 6 - k=0 by omega,Ze8]
    ·rw [List.drop_eq_nil_of_le (by omega)]
     rfl
   clear ih hS
   subst eS
   rw [eU]
   obtain⟨_,f1,_,_,f4,f5,_⟩:=Zcy (d:=(0,0,0,0,[],0,())) hD
   have g1:=hD.k1
   have g2:=hD.k2
   have g3:=hD.st
   have hNum:(1≤(Zb6 3 0 [] (Zac ops s').2 (Zac ops s').1).vals.length∧(Zb6 3 0 [] (Zac ops s').2 (Zac ops s').1).vals.length≤300∧(Zb6 3 0 [] (Zac ops s').2 (Zac ops s').1).blks.length≤20∧(Zb6 3 0 [] (Zac ops s').2 (Zac ops s').1).sts.length≤330):=by
    simp only [Zb6,List.length_append,List.length_cons,List.length_nil]
    rw [f1,f4,f5]
    omega
   have H:=Z1f hN hB hD hvl (by omega) hrf (i:=k) (A:=fun v m1=>∃ va ba sa,v=.agg #[.int .i64 1,.int .i64 2,.slice va (Zb6 3 0 [] (Zac ops s').2 (Zac ops s').1).vals.length (Zb6 3 0 [] (Zac ops s').2 (Zac ops s').1).vals.length,.slice ba (Zb6 3 0 [] (Zac ops s').2 (Zac ops s').1).blks.length (Zb6 3 0 [] (Zac ops s').2 (Zac ops s').1).blks.length,.slice sa (Zb6 3 0 [] (Zac ops s').2 (Zac ops s').1).sts.length (Zb6 3 0 [] (Zac ops s').2 (Zac ops s').1).sts.length]∧UAt (qU m0 m1 bd) m1 (Zb6 3 0 [] (Zac ops s').2 (Zac ops s').1).un va ba sa∧Zaa m0 m1 []∧(1≤(Zb6 3 0 [] (Zac ops s').2 (Zac ops s').1).vals.length∧(Zb6 3 0 [] (Zac ops s').2 (Zac ops s').1).vals.length≤300∧(Zb6 3 0 [] (Zac ops s').2 (Zac ops s').1).blks.length≤20∧(Zb6 3 0 [] (Zac ops s').2 (Zac ops s').1).sts.length≤330)) (fun va ba sa m1 h1 h2=>⟨va,ba,sa,rfl,h1,h2,hNum⟩)
   by_cases q1:k < sh.length
   ·have q1':(k:Int) < sh.length:=by omega
    by_cases q2:k < 6
    ·have q2':(k:Int) < 6:=by omega
     have q3:¬ s'.vals.length < 160:=fun h=>hc ⟨q1,q2,h⟩
     have q3':¬ (s'.vals.length:Int) < 160:=by omega
     simp [-Int.natCast_add,-w7_71,lR,lv,q1',q2',q3']
     exact (Zor _ _).1 (Zbz (E:=[(1,.pointer (some ⟨rb,0,none⟩)),(2,.pointer (some ⟨rc,0,none⟩)),(3,.pointer (some ⟨ub,0,none⟩)),(5,.pointer (some ⟨kb,0,none⟩)),(6,.pointer (some ⟨bb,0,none⟩)),(7,.pointer (some ⟨px,0,none⟩)),(10,.pointer (some ⟨nx,0,none⟩)),(11,.pointer (some ⟨sx,0,none⟩)),(12,.func (.func 22) #[] #[.pointer (some ⟨nx,0,none⟩),.pointer (some ⟨ub,0,none⟩),.pointer (some ⟨kb,0,none⟩),.pointer (some ⟨px,0,none⟩),.pointer (some ⟨sx,0,none⟩)]),(13,.func (.func 23) #[] #[.pointer (some ⟨bb,0,none⟩),.pointer (some ⟨ub,0,none⟩)]),(14,.int .i64 (k:Nat))]) H (by repeat' constructor))
    ·have q2':¬ (k:Int) < 6:=by omega
     simp [-Int.natCast_add,-w7_71,lR,q1',q2']
     exact (Zor _ _).1 (Zbz (E:=[(1,.pointer (some ⟨rb,0,none⟩)),(2,.pointer (some ⟨rc,0,none⟩)),(3,.pointer (some ⟨ub,0,none⟩)),(5,.pointer (some ⟨kb,0,none⟩)),(6,.pointer (some ⟨bb,0,none⟩)),(7,.pointer (some ⟨px,0,none⟩)),(10,.pointer (some ⟨nx,0,none⟩)),(11,.pointer (some ⟨sx,0,none⟩)),(12,.func (.func 22) #[] #[.pointer (some ⟨nx,0,none⟩),.pointer (some ⟨ub,0,none⟩),.pointer (some ⟨kb,0,none⟩),.pointer (some ⟨px,0,none⟩),.pointer (some ⟨sx,0,none⟩)]),(13,.func (.func 23) #[] #[.pointer (some ⟨bb,0,none⟩),.pointer (some ⟨ub,0,none⟩)]),(14,.int .i64 (k:Nat))]) H (by repeat' constructor))
   ·have q1':¬ (k:Int) < sh.length:=by omega
    simp [-Int.natCast_add,-w7_71,lR,q1']
    exact (Zor _ _).1 (Zbz (E:=[(1,.pointer (some ⟨rb,0,none⟩)),(2,.pointer (some ⟨rc,0,none⟩)),(3,.pointer (some ⟨ub,0,none⟩)),(5,.pointer (some ⟨kb,0,none⟩)),(6,.pointer (some ⟨bb,0,none⟩)),(7,.pointer (some ⟨px,0,none⟩)),(10,.pointer (some ⟨nx,0,none⟩)),(11,.pointer (some ⟨sx,0,none⟩)),(12,.func (.func 22) #[] #[.pointer (some ⟨nx,0,none⟩),.pointer (some ⟨ub,0,none⟩),.pointer (some ⟨kb,0,none⟩),.pointer (some ⟨px,0,none⟩),.pointer (some ⟨sx,0,none⟩)]),(13,.func (.func 23) #[] #[.pointer (some ⟨bb,0,none⟩),.pointer (some ⟨ub,0,none⟩)]),(14,.int .i64 (k:Nat))]) H (by repeat' constructor))
end Go.Proofs.YtcgmchechmbmeaaDoor.base
end
