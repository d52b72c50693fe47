/- This text proves what turnstonehand.Unit does, Zb1 the abstract run: a loop. Condition: nothing is known of the calls ahead ('S f = []'). -/
import Derived.Test.YtcgmchechmbmeaaDoorM13
import Derived.Test.YtcgmchechmbmeaaDoorM12
set_option linter.unusedVariables false
set_option linter.unusedSimpArgs false
section
set_option maxRecDepth 100000
namespace Go.Proofs.YtcgmchechmbmeaaDoor.base
open Go.Sh gen
variable {S:Zb7}{T T':Tg}{m0 m m1 m2:Mem}{is js:List Nat}{s s1:Us}{P:Pl}
theorem Zpy {α:Type}{l r:List α}{j:Nat}{x:α}(h:l[j]?=some x):(l++r)[j]?=some x:=by
 rw [List.getElem?_append_left (List.getElem?_eq_some_iff.1 h).1];exact h
theorem Znb {p j:Nat}{l:List Int}{x:Zb.D}(h:s.vals[j]?=some x)(hj:p≠j):(Za8 p l s).vals[j]?=some x:=by
 unfold Za8
 split
 ·simp only
  rw [List.getElem?_set_ne hj];exact h
 ·exact h
theorem Bd.kns (h:Bd P.ops s){vs:List Int}(hl:s.known.length+vs.length≤s.vals.length):Bd P.ops { s with known:=s.known++vs }:=⟨by simp only [List.length_append];have:=h.k1;omega,by simpa using hl,h.b,h.st,h.a⟩
theorem Bd.any (h:Bd P.ops s):Bd P.ops (Zbc P.ops s).1:=Zfy h
set_option maxHeartbeats 8000000 in
theorem Z16 (hN:Nq S)(h:UB m0 T m P s)(hb:Bd P.ops s)(hv:s.vals.length < 160)(hbl:s.blks.length≤20){K:List Fr}{rs:List ResultVar}{A:Value→Mem→Prop}{i:Nat} :
  (∀ m1 T1,UB m0 T1 m1 P (Zlt P.ops s)→Bd P.ops (Zlt P.ops s)→(Zlt P.ops s).blks.length≤s.blks.length+3→(Zlt P.ops s).vals.length≤300→W Tryd.prog TT S 86 [126,209,298] .skip K [(1,.pointer (some ⟨P.rb,0,none⟩)),(2,.pointer (some ⟨P.rc,0,none⟩)),(3,.pointer (some ⟨P.ub,0,none⟩)),(5,.pointer (some ⟨P.kb,0,none⟩)),(6,.pointer (some ⟨P.bb,0,none⟩)),(7,.pointer (some ⟨P.px,0,none⟩)),(10,.pointer (some ⟨P.nx,0,none⟩)),(11,.pointer (some ⟨P.sx,0,none⟩)),(12,.func (.func 22) #[] #[.pointer (some ⟨P.nx,0,none⟩),.pointer (some ⟨P.ub,0,none⟩),.pointer (some ⟨P.kb,0,none⟩),.pointer (some ⟨P.px,0,none⟩),.pointer (some ⟨P.sx,0,none⟩)]),(13,.func (.func 23) #[] #[.pointer (some ⟨P.bb,0,none⟩),.pointer (some ⟨P.ub,0,none⟩)]),(14,.int .i64 (i:Nat))] m1 (QF Tryd.prog rs A))→
  W Tryd.prog TT S 86 [126,209,298] (.seq (rgn TT 7 38) (.seq (rgn TT 7 39) (.seq (rgn TT 7 40) (.seq (rgn TT 7 41) (.seq (rgn TT 7 42) (.seq (rgn TT 7 43) (.seq (rgn TT 7 44) (.seq (rgn TT 7 45) (.seq (rgn TT 7 46) (.seq (rgn TT 7 47) (.seq (rgn TT 7 48) (.seq (rgn TT 7 49) (.seq (rgn TT 7 50) (.seq (rgn TT 7 51) (.seq (rgn TT 7 52) (.seq (rgn TT 7 53) (.seq (.seq (rgn TT 7 54) (.cond (.tmp 298) (rgn TT 7 55) .skip)) (.seq (rgn TT 7 56) (.seq (rgn TT 7 57) (.seq (rgn TT 7 58) (.seq (rgn TT 7 59) (rgn TT 7 60)))))))))))))))))))))) K [(1,.pointer (some ⟨P.rb,0,none⟩)),(2,.pointer (some ⟨P.rc,0,none⟩)),(3,.pointer (some ⟨P.ub,0,none⟩)),(5,.pointer (some ⟨P.kb,0,none⟩)),(6,.pointer (some ⟨P.bb,0,none⟩)),(7,.pointer (some ⟨P.px,0,none⟩)),(10,.pointer (some ⟨P.nx,0,none⟩)),(11,.pointer (some ⟨P.sx,0,none⟩)),(12,.func (.func 22) #[] #[.pointer (some ⟨P.nx,0,none⟩),.pointer (some ⟨P.ub,0,none⟩),.pointer (some ⟨P.kb,0,none⟩),.pointer (some ⟨P.px,0,none⟩),.pointer (some ⟨P.sx,0,none⟩)]),(13,.func (.func 23) #[] #[.pointer (some ⟨P.bb,0,none⟩),.pointer (some ⟨P.ub,0,none⟩)]),(14,.int .i64 (i:Nat))] m (QF Tryd.prog rs A):=by
 intro meth
 have g1:=hb.k1
 have g2:=hb.k2
 have g3:=hb.b
 obtain⟨k,K0⟩:∃ k,s.known.length=k:=⟨_,rfl⟩
 obtain⟨b,L0⟩:∃ b,s.blks.length=b:=⟨_,rfl⟩
 obtain⟨v,V0⟩:∃ v,s.vals.length=v:=⟨_,rfl⟩
 have hb3:b+1+1+1≤90:=by omega
 have hb2:b+1+1≤80:=by omega
 have hv9:v+5≤200:=by omega
 have hkv:k≤v:=by omega
 have hk1:1≤k:=by omega
 obtain⟨m1,kv,x,c1,hx,hy,hz,B1,kt1,la,lb,lx,D1,K1,V1,L1⟩:=h.any hN hb (by omega)
 obtain⟨_,_,_,_,_,_,lN,_⟩:=h.ll
 obtain⟨_,_,_,_,_,_,lN1,_⟩:=B1.ll
 simp [-Int.natCast_add,-w7_39,Zdl _ _ (Zpt _ _),c1,hx,hz,la,lb,lx,lN]
 have w1:IntKind.i64.wrap ((b:Int)+1)=(b:Int)+1:=Zab (by omega) (by omega)
 have w2:IntKind.i64.wrap ((b:Int)+1+1)=(b:Int)+2:=by rw [Zab (by omega) (by omega)];omega
 have w3:IntKind.i64.wrap ((b:Int)+1+2)=(b:Int)+3:=by rw [Zab (by omega) (by omega)];omega
 have ek1:(Zbc P.ops s).1.known.length=k:=by rw [K1];exact K0
 have el1:(Zbc P.ops s).1.blks.length=b:=by rw [L1];exact L0
 have ev1:(Zbc P.ops s).1.vals.length=v:=by rw [V1];exact V0
 obtain⟨E,hE⟩:∃ E,Zlt P.ops s=E:=⟨_,rfl⟩
 rw [hE] at meth
 unfold Zlt at hE
 dsimp only at hE
 rw [L0] at hE meth
 clear g1 g2 g3 hv hbl K0 V0 L0 hx hy hz la lb lx K1 V1 L1 c1 lN lN1 kt1
 generalize (Zbc P.ops s).1=s1 at *
 generalize (Zbc P.ops s).2=f at *
 obtain⟨m2,T2,c2,B2⟩:=B1.endn hN (by omega) 1 0 [(b:Int)+1] 0
 obtain⟨_,ba1,_,_,lb1,_⟩:=B1.ll
 rw [el1] at c2 lb1
 have c2:Zaq Tryd.prog TT S 23 [.agg #[.slice none 0 0,.int .i64 1,.int .i64 0,.slice (some ⟨m1.next,0,none⟩) 1 1,.slice none 0 0,.int .i64 0],.pointer (some ⟨P.bb,0,none⟩),.pointer (some ⟨P.ub,0,none⟩)] (m1.new [.int .i64 ((b:Int)+1)] 3)=some (.int .i64 (b:Nat),m2):=c2
 simp [-Int.natCast_add,-w7_40,Za2 Zym,Za u22 bs3 rfl,lb1,w1,c2]
 simp [-Int.natCast_add,-w7_41,w1]
 have D2:=D1.end 1 0 [(b:Int)+1] 0
 have ek2:(Zbp 1 0 [(b:Int)+1] 0 s1).known.length=k:=ek1
 have ev2:(Zbp 1 0 [(b:Int)+1] 0 s1).vals.length=v:=ev1
 have el2:(Zbp 1 0 [(b:Int)+1] 0 s1).blks.length=b+1:=by simp [Zbp,el1]
 generalize Zbp 1 0 [(b:Int)+1] 0 s1=s2 at *
 obtain⟨m3,T3,e3,B3⟩:=B2.predn [(b:Int),(b:Int)+2]
 have e3:Zad (m2.new [.int .i64 (b:Int),.int .i64 ((b:Int)+2)] 3) ⟨P.bb,4,none⟩ [.slice (some ⟨m2.next,0,none⟩) 2 2]=some m3:=e3
 simp [-Int.natCast_add,-w7_42,Za u22 bs3 rfl,w2,e3]
 have D3:=D2.bp [(b:Int),(b:Int)+2]
 have ek3:(bpP [(b:Int),(b:Int)+2] s2).known.length=k:=ek2
 have ev3:(bpP [(b:Int),(b:Int)+2] s2).vals.length=v:=ev2
 have el3:(bpP [(b:Int),(b:Int)+2] s2).blks.length=b+1:=el2
 generalize bpP [(b:Int),(b:Int)+2] s2=s3 at *
 clear ek1 ev1 el1 ek2 ev2 el2 D1 D2 B1 B2 c2 e3
 rw [ev3] at hE
 have hb3':=D3.b
 obtain⟨_,_,_,_,_,_,_,lP3,_⟩:=B3.ll
 obtain⟨T3',B3',d3,a3,k3⟩:=B3.ints [f,0] rfl
 obtain⟨m4,T4,c4,B4,a4,k4⟩:=B3'.put hN (by omega) (by omega) ((21,0,0,0,[f,0],0,()):Zb.D) d3
 have c4:Zaq Tryd.prog TT S 19 [.agg #[.int .i64 21,.int .i64 0,.int .i64 0,.int .i64 0,.slice (some ⟨m3.next,0,none⟩) 2 2,.int .i64 0],.pointer (some ⟨P.ub,0,none⟩),.pointer (some ⟨P.bb,0,none⟩)] (m3.new [.int .i64 f,.int .i64 0] 3)=some (.int .i64 (s3.vals.length:Nat),m4):=c4
 rw [ev3] at c4
 simp [-Int.natCast_add,-w7_43,Za2 Zrl,Za u22 bs3 rfl,lP3,c4]
 have D4:=D3.put ((21,0,0,0,[f,0],0,()):Zb.D)
 have ek4:(Zbi ((21,0,0,0,[f,0],0,()):Zb.D) s3).known.length=k:=ek3
 have ev4:(Zbi ((21,0,0,0,[f,0],0,()):Zb.D) s3).vals.length=v+1:=by simp [Zbi,ev3]
 have el4:(Zbi ((21,0,0,0,[f,0],0,()):Zb.D) s3).blks.length=b+1:=el3
 generalize Zbi ((21,0,0,0,[f,0],0,()):Zb.D) s3=s4 at *
 clear ek3 ev3 el3 D3 B3 B3' c4 lP3 d3 a3 k3 a4 k4 hb3'
 obtain⟨m5,kv,x,c5,hx,hy,hz,B5,kt5,la,lb,lx,D5,K5,V5,L5⟩:=B4.any hN D4 (by omega)
 have ek5:(Zbc P.ops s4).1.known.length=k:=by rw [K5];exact ek4
 have el5:(Zbc P.ops s4).1.blks.length=b+1:=by rw [L5];exact el4
 have ev5:(Zbc P.ops s4).1.vals.length=v+1:=by rw [V5];exact ev4
 rw [ev5] at hE
 clear K5 V5 L5
 generalize (Zbc P.ops s4).1=s5 at *
 generalize (Zbc P.ops s4).2=a at *
 obtain⟨_,_,_,_,_,_,lN4,lP4,_⟩:=B4.ll
 obtain⟨_,_,_,_,_,_,lN5,lP5,_⟩:=B5.ll
 have hb5:=D5.b
 obtain⟨T5',B5',d5,a5,k5⟩:=B5.ints [a,(v:Int)] rfl
 obtain⟨_,_,_,_,_,_,_,lP5',_⟩:=B5'.ll
 have lP5':loadRow (m5.new [.int .i64 a,.int .i64 (v:Int)] 3) ⟨P.px,0,none⟩ 1=_:=lP5'
 obtain⟨m6,T6,c6,B6,a6,k6⟩:=B5'.put hN (by omega) (by omega) ((21,0,0,0,[a,(v:Int)],0,()):Zb.D) d5
 have c6:Zaq Tryd.prog TT S 19 [.agg #[.int .i64 21,.int .i64 0,.int .i64 0,.int .i64 0,.slice (some ⟨m5.next,0,none⟩) 2 2,.int .i64 0],.pointer (some ⟨P.ub,0,none⟩),.pointer (some ⟨P.bb,0,none⟩)] (m5.new [.int .i64 a,.int .i64 (v:Int)] 3)=some (.int .i64 (s5.vals.length:Nat),m6):=c6
 rw [ev5] at c6
 simp [-Int.natCast_add,-w7_44,Za2 Zrl,Za u22 bs3 rfl,Zdl _ _ (Zpt _ _),c5,hx,hz,la,lb,lx,lN4,lP4,lP5,lP5',c6]
 have D6:=D5.put ((21,0,0,0,[a,(v:Int)],0,()):Zb.D)
 have ek6:(Zbi ((21,0,0,0,[a,(v:Int)],0,()):Zb.D) s5).known.length=k:=ek5
 have ev6:(Zbi ((21,0,0,0,[a,(v:Int)],0,()):Zb.D) s5).vals.length=v+2:=by simp [Zbi,ev5]
 have el6:(Zbi ((21,0,0,0,[a,(v:Int)],0,()):Zb.D) s5).blks.length=b+1:=el5
 have X6:(Zbi ((21,0,0,0,[a,(v:Int)],0,()):Zb.D) s5).vals[v+1]?=some ((21,0,0,0,[a,(v:Int)],0,()):Zb.D):=by
  simp only [Zbi]
  rw [List.getElem?_append_right (by omega),ev5,Nat.sub_self]
  rfl
 generalize Zbi ((21,0,0,0,[a,(v:Int)],0,()):Zb.D) s5=s6 at *
 clear ek4 ev4 el4 ek5 ev5 el5 D4 D5 B4 B5 B5' c5 c6 hx hy hz la lb lx lN4 lN5 lP4 lP5 lP5' d5 a5 k5 a6 k6 kt5 hb5
 obtain⟨ka,l1,_,l3,m7,ka2,m7',T7,e7,l4,e7',B7⟩:=B6.kns B6 (KT.refl (is:=[])) Ag.refl (by simp) rfl (by omega) [(v:Int),((v+1:Nat):Int)] (by simp) (by simp)
 rw [ek6] at l1 e7 l4 e7'
 have e7:Zal Tryd.prog 22 (m6.new [.int .i64 (v:Int),.int .i64 ((v+1:Nat):Int)] 3) (.slice ka k k) [.int .i64 (v:Int),.int .i64 ((v+1:Nat):Int)] 2=some (.slice ka2 (k+2) (k+2),m7):=e7
 have e7':Zad m7 ⟨P.kb,0,none⟩ [.slice ka2 (k+2) (k+2)]=some m7':=e7'
 simp [-Int.natCast_add,-w7_45,Za u22 bs3 rfl,Zbf u22 sz3,l1,e7,e7']
 have D7:Bd P.ops ({ s6 with known:=s6.known++[(v:Int),((v+1:Nat):Int)] }:Us):=D6.kns (by simp only [List.length_cons,List.length_nil];omega)
 have ek7:(({ s6 with known:=s6.known++[(v:Int),((v+1:Nat):Int)] }:Us):Us).known.length=k+2:=by simp [ek6]
 have ev7:(({ s6 with known:=s6.known++[(v:Int),((v+1:Nat):Int)] }:Us):Us).vals.length=v+2:=ev6
 have el7:(({ s6 with known:=s6.known++[(v:Int),((v+1:Nat):Int)] }:Us):Us).blks.length=b+1:=el6
 have X7:(({ s6 with known:=s6.known++[(v:Int),((v+1:Nat):Int)] }:Us):Us).vals[v+1]?=some ((21,0,0,0,[a,(v:Int)],0,()):Zb.D):=X6
 generalize (({ s6 with known:=s6.known++[(v:Int),((v+1:Nat):Int)] }:Us):Us)=s7 at *
 clear ek6 ev6 el6 D6 B6 l1 l3 e7 e7' l4 X6
 obtain⟨m8,T8,c8,B8⟩:=B7.state hN D7 (by omega) (by omega)
 obtain⟨_,f1,f2,f3,f4,_,_⟩:=Zde (d:=(0,0,0,0,[],0,())) D7
 have D9:=(Zde D7 ((23,0,0,0,[],(Zac P.ops s7).2,()):Zb.D)).1
 have hb8:=D7.b
 obtain⟨_,_,_,_,_,_,_,lP7,lS7⟩:=B7.ll
 obtain⟨_,_,_,_,_,_,_,lP8,lS8⟩:=B8.ll
 obtain⟨m9,T9,c9,B9,_,_⟩:=B8.put hN (by rw [f1];omega) (by rw [f3];omega) ((23,0,0,0,[],(Zac P.ops s7).2,()):Zb.D) Zdn
 have c9:Zaq Tryd.prog TT S 19 [.agg #[.int .i64 23,.int .i64 0,.int .i64 0,.int .i64 0,.slice none 0 0,.int .i64 (Zac P.ops s7).2],.pointer (some ⟨P.ub,0,none⟩),.pointer (some ⟨P.bb,0,none⟩)] m8=some (.int .i64 ((Zac P.ops s7).1.vals.length:Nat),m9):=c9
 simp [-Int.natCast_add,-w7_46,Za2 Zrl,Zdl _ _ (Zpt _ _),Zdl _ _ (Z9d _ _ _),lP7,lP8,lS7,c8,c9]
 have ek9:(Zbi ((23,0,0,0,[],(Zac P.ops s7).2,()):Zb.D) (Zac P.ops s7).1).known.length=k+2:=by simp only [Zbi];rw [f2];exact ek7
 have ev9:(Zbi ((23,0,0,0,[],(Zac P.ops s7).2,()):Zb.D) (Zac P.ops s7).1).vals.length=v+3:=by simp only [Zbi,List.length_append,List.length_cons,List.length_nil];rw [f1];omega
 have el9:(Zbi ((23,0,0,0,[],(Zac P.ops s7).2,()):Zb.D) (Zac P.ops s7).1).blks.length=b+1:=by simp only [Zbi];rw [f4];exact el7
 have X9:(Zbi ((23,0,0,0,[],(Zac P.ops s7).2,()):Zb.D) (Zac P.ops s7).1).vals[v+1]?=some ((21,0,0,0,[a,(v:Int)],0,()):Zb.D):=by simp only [Zbi];rw [f1];exact Zpy X7
 generalize Zbi ((23,0,0,0,[],(Zac P.ops s7).2,()):Zb.D) (Zac P.ops s7).1=s9 at *
 clear ek7 ev7 el7 X7 D7 B7 B8 c8 c9 lP7 lP8 lS7 lS8 f1 f2 f3 f4 hb8
 rw [ev9] at hE
 have hb9:=D9.b
 obtain⟨_,_,_,_,_,_,_,lP9,_⟩:=B9.ll
 obtain⟨m10,T10,c10,B10,_,_⟩:=B9.put hN (by omega) (by omega) ((2,0,0,1,[],0,()):Zb.D) Zdn
 have c10:Zaq Tryd.prog TT S 19 [.agg #[.int .i64 2,.int .i64 0,.int .i64 0,.int .i64 1,.slice none 0 0,.int .i64 0],.pointer (some ⟨P.ub,0,none⟩),.pointer (some ⟨P.bb,0,none⟩)] m9=some (.int .i64 (s9.vals.length:Nat),m10):=c10
 rw [ev9] at c10
 simp [-Int.natCast_add,-w7_47,Za2 Zrl,lP9,c10]
 have D10:=D9.put ((2,0,0,1,[],0,()):Zb.D)
 have ek10:(Zbi ((2,0,0,1,[],0,()):Zb.D) s9).known.length=k+2:=ek9
 have ev10:(Zbi ((2,0,0,1,[],0,()):Zb.D) s9).vals.length=v+4:=by simp [Zbi,ev9]
 have el10:(Zbi ((2,0,0,1,[],0,()):Zb.D) s9).blks.length=b+1:=el9
 have X10:(Zbi ((2,0,0,1,[],0,()):Zb.D) s9).vals[v+1]?=some ((21,0,0,0,[a,(v:Int)],0,()):Zb.D):=Zpy X9
 generalize Zbi ((2,0,0,1,[],0,()):Zb.D) s9=s10 at *
 clear ek9 ev9 el9 X9 D9 B9 c10 lP9 hb9
 rw [ev10] at hE
 have hb10:=D10.b
 obtain⟨_,_,_,_,_,_,_,lP10,_⟩:=B10.ll
 obtain⟨m11,T11,c11,B11,_,_⟩:=B10.put hN (by omega) (by omega) ((4,(v:Int),((v+3:Nat):Int),0,[],0,()):Zb.D) Zdn
 have c11:Zaq Tryd.prog TT S 19 [.agg #[.int .i64 4,.int .i64 (v:Int),.int .i64 ((v+3:Nat):Int),.int .i64 0,.slice none 0 0,.int .i64 0],.pointer (some ⟨P.ub,0,none⟩),.pointer (some ⟨P.bb,0,none⟩)] m10=some (.int .i64 (s10.vals.length:Nat),m11):=c11
 rw [ev10] at c11
 simp [-Int.natCast_add,-w7_48,Za2 Zrl,lP10,c11]
 have ekp:(Zbi ((4,(v:Int),((v+3:Nat):Int),0,[],0,()):Zb.D) s10).known.length=k+2:=ek10
 obtain⟨ka,l1,_,l3,m12,ka2,mb,T12,e12,l4,e12',B12⟩:=B11.kns B11 (KT.refl (is:=[])) Ag.refl (by simp) rfl (by omega) [((v+4:Nat):Int)] (by simp) (by simp)
 rw [ekp] at l1 e12 l4 e12'
 have e12:Zal Tryd.prog 22 (m11.new [.int .i64 ((v+4:Nat):Int)] 3) (.slice ka (k+2) (k+2)) [.int .i64 ((v+4:Nat):Int)] 1=some (.slice ka2 (k+2+1) (k+2+1),m12):=e12
 have e12':Zad m12 ⟨P.kb,0,none⟩ [.slice ka2 (k+2+1) (k+2+1)]=some mb:=e12'
 have eK:knP ((4,(v:Int),((v+3:Nat):Int),0,[],0,()):Zb.D) s10={ Zbi ((4,(v:Int),((v+3:Nat):Int),0,[],0,()):Zb.D) s10 with known:=(Zbi ((4,(v:Int),((v+3:Nat):Int),0,[],0,()):Zb.D) s10).known++[((v+4:Nat):Int)] }:=by unfold knP;rw [ev10];rfl
 rw [← eK] at B12
 simp [-Int.natCast_add,-w7_49,Za u22 bs3 rfl,Zbf u22 sz3,l1,e12,e12']
 have D12:=D10.kn ((4,(v:Int),((v+3:Nat):Int),0,[],0,()):Zb.D)
 have ek12:(knP ((4,(v:Int),((v+3:Nat):Int),0,[],0,()):Zb.D) s10).known.length=k+3:=by simp [knP,ek10]
 have ev12:(knP ((4,(v:Int),((v+3:Nat):Int),0,[],0,()):Zb.D) s10).vals.length=v+5:=by simp [knP,Zbi,ev10]
 have el12:(knP ((4,(v:Int),((v+3:Nat):Int),0,[],0,()):Zb.D) s10).blks.length=b+1:=el10
 have X12:(knP ((4,(v:Int),((v+3:Nat):Int),0,[],0,()):Zb.D) s10).vals[v+1]?=some ((21,0,0,0,[a,(v:Int)],0,()):Zb.D):=Zpy X10
 generalize knP ((4,(v:Int),((v+3:Nat):Int),0,[],0,()):Zb.D) s10=s12 at *
 clear ek10 ev10 el10 X10 D10 B10 B11 c11 lP10 hb10 ekp l1 l3 e12 e12' l4 eK
 obtain⟨m13,T13,c13,B13⟩:=B12.endn hN (by omega) 2 (v:Int) [(b:Int)+2,(b:Int)+3] 0
 rw [el12] at c13
 have c13:Zaq Tryd.prog TT S 23 [.agg #[.slice none 0 0,.int .i64 2,.int .i64 (v:Int),.slice (some ⟨mb.next,0,none⟩) 2 2,.slice none 0 0,.int .i64 0],.pointer (some ⟨P.bb,0,none⟩),.pointer (some ⟨P.ub,0,none⟩)] (mb.new [.int .i64 ((b:Int)+2),.int .i64 ((b:Int)+3)] 3)=some (.int .i64 ((b+1:Nat):Int),m13):=c13
 simp [-Int.natCast_add,-w7_50,Za2 Zym,Za u22 bs3 rfl,w2,w3,c13]
 have D13:=D12.end 2 (v:Int) [(b:Int)+2,(b:Int)+3] 0
 have ek13:(Zbp 2 (v:Int) [(b:Int)+2,(b:Int)+3] 0 s12).known.length=k+3:=ek12
 have ev13:(Zbp 2 (v:Int) [(b:Int)+2,(b:Int)+3] 0 s12).vals.length=v+5:=ev12
 have el13:(Zbp 2 (v:Int) [(b:Int)+2,(b:Int)+3] 0 s12).blks.length=b+1+1:=by simp [Zbp,el12]
 have X13:(Zbp 2 (v:Int) [(b:Int)+2,(b:Int)+3] 0 s12).vals[v+1]?=some ((21,0,0,0,[a,(v:Int)],0,()):Zb.D):=X12
 rw [ek13] at hE
 generalize Zbp 2 (v:Int) [(b:Int)+2,(b:Int)+3] 0 s12=s13 at *
 clear ek12 ev12 el12 X12 D12 B12 c13
 obtain⟨ka,_,_,lk13,_⟩:=B13.ll
 rw [ek13] at lk13
 simp [-Int.natCast_add,-w7_51,lk13]
 obtain⟨m14,T14,e14,B14⟩:=B13.predn [(b:Int)+1]
 have e14:Zad (m13.new [.int .i64 ((b:Int)+1)] 3) ⟨P.bb,4,none⟩ [.slice (some ⟨m13.next,0,none⟩) 1 1]=some m14:=e14
 simp [-Int.natCast_add,-w7_52,Za u22 bs3 rfl,e14]
 have D14:=D13.bp [(b:Int)+1]
 have ek14:(bpP [(b:Int)+1] s13).known.length=k+3:=ek13
 have ev14:(bpP [(b:Int)+1] s13).vals.length=v+5:=ev13
 have el14:(bpP [(b:Int)+1] s13).blks.length=b+1+1:=el13
 have X14:(bpP [(b:Int)+1] s13).vals[v+1]?=some ((21,0,0,0,[a,(v:Int)],0,()):Zb.D):=X13
 generalize bpP [(b:Int)+1] s13=s14 at *
 clear ek13 ev13 el13 X13 D13 B13 e14 lk13
 obtain⟨v15,m15,T15,c15,B15,D15,V15,L15⟩:=B14.row hN D14 (by omega) (by omega)
 simp [-Int.natCast_add,-w7_53,c15]
 have ek15:=Zit D14
 obtain⟨lv,V15'⟩:=Zx4 D14
 have X15:(Zf0 P.ops s14).vals[v+1]?=some ((21,0,0,0,[a,(v:Int)],0,()):Zb.D):=by rw [V15'];exact Zpy X14
 have ev15:v+5≤(Zf0 P.ops s14).vals.length:=by rw [V15',List.length_append];omega
 have ew15:(Zf0 P.ops s14).vals.length≤200:=by omega
 have el15:(Zf0 P.ops s14).blks.length=b+1+1:=by rw [L15];exact el14
 rw [ek14] at ek15
 clear V15' V15 L15 c15
 generalize Zf0 P.ops s14=s15 at *
 clear ek14 ev14 el14 X14 D14 B14
 have hvl:v < s15.vals.length:=by omega
 have hvi:(v:Int) < s15.vals.length:=by omega
 have hvj:(v:Int)≤9223372036854775807:=by omega
 obtain⟨va,l1,m16,T16,e16,B16⟩:=B15.args hvl [f,((v+4:Nat):Int)]
 have e16:Zad (m15.new [.int .i64 f,.int .i64 ((v+4:Nat):Int)] 3) ⟨va,v * 6+4,none⟩ [.slice (some ⟨m15.next,0,none⟩) 2 2]=some m16:=e16
 simp [-Int.natCast_add,-w7_54,Za u22 bs3 rfl,l1,hvl,hvj,e16]
 simp only [Int.toNat_natCast] at hE
 have D16:=D15.sets v [f,((v+4:Nat):Int)]
 obtain⟨f1,f2,f3,_,_,_⟩:=Zf2 (s:=s15) (p:=v) (l:=[f,((v+4:Nat):Int)])
 have X16:=Znb (l:=[f,((v+4:Nat):Int)]) X15 (p:=v) (by omega)
 have ek16:k+3≤(Za8 v [f,((v+4:Nat):Int)] s15).known.length:=by rw [f2];exact ek15
 have ew16:(Za8 v [f,((v+4:Nat):Int)] s15).vals.length≤200:=by rw [f1];exact ew15
 have ev16:v+5≤(Za8 v [f,((v+4:Nat):Int)] s15).vals.length:=by rw [f1];exact ev15
 have el16:(Za8 v [f,((v+4:Nat):Int)] s15).blks.length=b+1+1:=by rw [f3];exact el15
 clear f1 f2 f3
 generalize Za8 v [f,((v+4:Nat):Int)] s15=s16 at *
 clear ek15 ev15 ew15 el15 X15 D15 B15 hvl hvi e16 l1
 obtain⟨m17,c17,B17⟩:=B16.next hN D16 (k:=3) (by omega) (by omega)
 have D17:=D16.next 3
 obtain⟨_,_,_,_,_,_,lN16,_⟩:=B16.ll
 obtain⟨f1,_,f3,_,f5,_⟩:=Za6 (ops:=P.ops) (s:=s16) 3
 have ek17:k+3≤(Zar P.ops 3 s16).1.known.length:=by rw [f1];exact ek16
 have ew17:(Zar P.ops 3 s16).1.vals.length≤200:=by rw [f3];exact ew16
 have ev17:v+5≤(Zar P.ops 3 s16).1.vals.length:=by rw [f3];exact ev16
 have el17:(Zar P.ops 3 s16).1.blks.length=b+1+1:=by rw [f5];exact el16
 have X17:(Zar P.ops 3 s16).1.vals[v+1]?=some ((21,0,0,0,[a,(v:Int)],0,()):Zb.D):=by rw [f3];exact X16
 clear f1 f3 f5
 generalize (Zar P.ops 3 s16).1=s17 at *
 generalize (Zar P.ops 3 s16).2=n at *
 clear ek16 ev16 ew16 el16 X16 D16 B16
 have fin:∀ (s18:Us) (m18:Mem) (T18:Tg),UB m0 T18 m18 P s18→Bd P.ops s18→s18.vals.length≤200→s18.blks.length=b+1+1→k+3≤s18.known.length→s18.vals[v+1]?=some ((21,0,0,0,[a,(v:Int)],0,()):Zb.D)→Znx P.ops (v+1) a (k+3) ((b:Int)+1) s18=E→
   W Tryd.prog TT S 86 [126,209,298] (.seq (rgn TT 7 56) (.seq (rgn TT 7 57) (.seq (rgn TT 7 58) (.seq (rgn TT 7 59) (rgn TT 7 60))))) K [(1,.pointer (some ⟨P.rb,0,none⟩)),(2,.pointer (some ⟨P.rc,0,none⟩)),(3,.pointer (some ⟨P.ub,0,none⟩)),(5,.pointer (some ⟨P.kb,0,none⟩)),(6,.pointer (some ⟨P.bb,0,none⟩)),(7,.pointer (some ⟨P.px,0,none⟩)),(10,.pointer (some ⟨P.nx,0,none⟩)),(11,.pointer (some ⟨P.sx,0,none⟩)),(12,.func (.func 22) #[] #[.pointer (some ⟨P.nx,0,none⟩),.pointer (some ⟨P.ub,0,none⟩),.pointer (some ⟨P.kb,0,none⟩),.pointer (some ⟨P.px,0,none⟩),.pointer (some ⟨P.sx,0,none⟩)]),(13,.func (.func 23) #[] #[.pointer (some ⟨P.bb,0,none⟩),.pointer (some ⟨P.ub,0,none⟩)]),(14,.int .i64 (i:Nat)),(24,.int .i64 ((b:Int)+1)),(26,.int .i64 ((v+1:Nat):Int)),(29,.int .i64 ((k+3:Nat):Int))] m18 (QF Tryd.prog rs A):=by
  intro s18 m18 T18 B18 D18 ev18 el18 ek18 X18 hE
  obtain⟨hq,hx⟩:=List.getElem?_eq_some_iff.1 X18
  refine Zx9 hN B18 D18 (Nat.le_trans ev18 (by decide)) (by rw [el18];exact hb2) (y:=(v:Int)) hq (by rw [hx]) ek18 (by omega) ?_
  rw [hE]
  exact fun m1 T1 h1 h2 h3 h4=>meth m1 T1 h1 h2 (by rw [h3,el18];omega) h4
 clear meth
 by_cases hn:n=0
 ·rw [if_pos hn] at hE
  have g1:=D17.k1
  have g2:=D17.k2
  obtain⟨kv,lk,ll⟩:=B17.last g1
  have hvl:v < s17.vals.length:=by omega
  have hvi:(v:Int) < s17.vals.length:=by omega
  obtain⟨va,l1,m18,T18,e18,B18⟩:=B17.args hvl [f,Zcw s17]
  have e18:Zad (m17.new [.int .i64 f,.int .i64 (Zcw s17)] 3) ⟨va,v * 6+4,none⟩ [.slice (some ⟨m17.next,0,none⟩) 2 2]=some m18:=e18
  have l1n:=(B17.lvn [.int .i64 f,.int .i64 (Zcw s17)] 3).trans l1
  obtain⟨N,hN1⟩:∃ n,s17.known.length=n+1:=⟨s17.known.length - 1,by omega⟩
  rw [hN1] at lk ll
  rw [Nat.add_sub_cancel] at ll
  have wn:IntKind.i64.wrap (((N+1:Nat):Int) - 1)=(N:Int):=by rw [Zab (by omega) (by omega)];omega
  have x1:N < N+1:=by omega
  have x2:(N:Int) < (N+1:Nat):=by omega
  have x3:(N:Int)≤9223372036854775807:=by omega
  obtain⟨f1,f2,f3,_,_,_⟩:=Zf2 (s:=s17) (p:=v) (l:=[f,Zcw s17])
  have H:=fin _ m18 T18 B18 (D17.sets v _) (by rw [f1];exact ew17) (by rw [f3];exact el17) (by rw [f2];exact ek17) (Znb X17 (by omega)) hE
  simp [-Int.natCast_add,-w7_56,Za u22 bs3 rfl,lN16,c17,hn,l1,l1n,lk,ll,wn,x1,x3,hvl,hvj,e18]
  exact (Zo5 _ _).1 (Zb2 (E:=[(1,.pointer (some ⟨P.rb,0,none⟩)),(2,.pointer (some ⟨P.rc,0,none⟩)),(3,.pointer (some ⟨P.ub,0,none⟩)),(5,.pointer (some ⟨P.kb,0,none⟩)),(6,.pointer (some ⟨P.bb,0,none⟩)),(7,.pointer (some ⟨P.px,0,none⟩)),(10,.pointer (some ⟨P.nx,0,none⟩)),(11,.pointer (some ⟨P.sx,0,none⟩)),(12,.func (.func 22) #[] #[.pointer (some ⟨P.nx,0,none⟩),.pointer (some ⟨P.ub,0,none⟩),.pointer (some ⟨P.kb,0,none⟩),.pointer (some ⟨P.px,0,none⟩),.pointer (some ⟨P.sx,0,none⟩)]),(13,.func (.func 23) #[] #[.pointer (some ⟨P.bb,0,none⟩),.pointer (some ⟨P.ub,0,none⟩)]),(14,.int .i64 (i:Nat)),(24,.int .i64 ((b:Int)+1)),(26,.int .i64 ((v+1:Nat):Int)),(29,.int .i64 ((k+3:Nat):Int))]) H (by repeat' constructor))
 ·rw [if_neg hn] at hE
  have H:=fin _ m17 _ B17 D17 ew17 el17 ek17 X17 hE
  simp [-Int.natCast_add,-w7_56,lN16,c17,hn]
  exact (Zo5 _ _).1 (Zb2 (E:=[(1,.pointer (some ⟨P.rb,0,none⟩)),(2,.pointer (some ⟨P.rc,0,none⟩)),(3,.pointer (some ⟨P.ub,0,none⟩)),(5,.pointer (some ⟨P.kb,0,none⟩)),(6,.pointer (some ⟨P.bb,0,none⟩)),(7,.pointer (some ⟨P.px,0,none⟩)),(10,.pointer (some ⟨P.nx,0,none⟩)),(11,.pointer (some ⟨P.sx,0,none⟩)),(12,.func (.func 22) #[] #[.pointer (some ⟨P.nx,0,none⟩),.pointer (some ⟨P.ub,0,none⟩),.pointer (some ⟨P.kb,0,none⟩),.pointer (some ⟨P.px,0,none⟩),.pointer (some ⟨P.sx,0,none⟩)]),(13,.func (.func 23) #[] #[.pointer (some ⟨P.bb,0,none⟩),.pointer (some ⟨P.ub,0,none⟩)]),(14,.int .i64 (i:Nat)),(24,.int .i64 ((b:Int)+1)),(26,.int .i64 ((v+1:Nat):Int)),(29,.int .i64 ((k+3:Nat):Int))]) H (by repeat' constructor))
end Go.Proofs.YtcgmchechmbmeaaDoor.base
end
section
set_option maxRecDepth 100000
namespace Go.Proofs.YtcgmchechmbmeaaDoor.base
open Go.Sh gen
variable {S:Zb7}{T T':Tg}{m0 m m1 m2:Mem}{is js:List Nat}{s s1:Us}{P:Pl}
theorem Zph (f:Fn)(a b:Array Value):(Value.func f a b).cells=#[Value.func f a b]:=by
 rw [Value.cells]
 intro _ h
 cases h
theorem Zk3 (T:Tg)(i:Nat){zs vs:List Value}{e:TypeId}{r:Option Mem}(hr:Zad (m.new zs e) ⟨m.next,0,none⟩ vs=r)(hl:zs.length=vs.length)(h1:vs.all one=true) :
  ∃ m1 T',r=some m1∧Ag T T' m∧Zev T' i m1 m.next vs e∧KT T [] m m1∧∀ f,T' f=T f∨T' f=i:=by
 obtain⟨o,k,n⟩:=Zas (m:=m) (cs:=zs) (e:=e) rfl
 obtain⟨m1,h2,o1,k2⟩:=Zao hr o (off:=0) (by omega) h1
 have e:Zb1 zs 0 vs=vs:=by simp [Zb1,← hl]
 rw [e] at o1
 exact⟨m1,fun f=>if f=m.next then i else T f,h2,fun f hf=>if_neg (by omega),⟨_,o1,if_pos rfl⟩,KT.of (k.fresh k2 (by simp)),fun f=>by simp only;split <;> simp⟩
def Us0:Us:=⟨[],[],[],[],[],[],0⟩
def Zba:Nat→Us
 | 0=>Us0
 | i+1=>knP (1,0,0,(i:Nat),[],0,()) (Zba i)
theorem Ziv (k:Nat):(Zba k).vals.length=k∧(Zba k).known.length=k∧(Zba k).bv.length=k∧(Zba k).blks=[]∧(Zba k).sts=[]∧(Zba k).at_=0:=by
 induction k with
 | zero=>exact⟨rfl,rfl,rfl,rfl,rfl,rfl⟩
 | succ k ih=>obtain⟨h1,h2,h3,h4,h5,h6⟩:=ih;exact⟨by simp [Zba,knP,Zbi,h1],by simp [Zba,knP,h2],by simp [Zba,knP,Zbi,h3],h4,h5,h6⟩
theorem Zpe {T:Tg}{m:Mem}{px ub bb:Nat}(o:Zev T 10 m px [.func (.func 19) #[] #[.pointer (some ⟨ub,0,none⟩),.pointer (some ⟨bb,0,none⟩)]] 49):loadRow m ⟨px,0,none⟩ 1=some [.func (.func 19) #[] #[.pointer (some ⟨ub,0,none⟩),.pointer (some ⟨bb,0,none⟩)]]∧∀ v:Int,loadRow (m.new [.int .i64 v] 3) ⟨px,0,none⟩ 1=some [.func (.func 19) #[] #[.pointer (some ⟨ub,0,none⟩),.pointer (some ⟨bb,0,none⟩)]]:=by
 obtain⟨f,o,_⟩:=o
 have l:=o.load1 (off:=0) rfl
 exact⟨l,fun v=>(o.ln _ _ 0 1).trans l⟩
theorem Zzg (ops:List Int)(d:Zb.D)(k:Nat):Bd ops (knP d (Zba k)):=by
 obtain⟨h1,h2,h3,h4,h5,h6⟩:=Ziv k
 exact⟨by simp [knP],by simp [knP,Zbi,h1,h2],by simp [knP,Zbi,h1,h3],by simp [knP,Zbi,h5],by simp [knP,Zbi,h6]⟩
def Us.un (s:Us):UnT.D:=(1,2,s.vals,s.blks,s.sts,())
def qU (m0 m:Mem)(bd f:Nat):Prop:=f < m.next∧(f < m0.next→f≠bd)
theorem Ziy.at {T:Tg}{m m0:Mem}{bd:Nat}{e i:Nat}{t:Ty}{l:List t.D}{ao:Option Addr}(h:Ziy T m e t l ao i)(h0:∀ f,f < m0.next→T f=if f=bd then 10 else 0)(hi:i≠10):AtI (qU m0 m bd) m (.slice e t) l [.slice ao l.length l.length]:=by
 obtain⟨css,h1,h2,fam,h3,h4⟩:=h
 have g1:∀ f,DQ T m f→qU m0 m bd f:=fun f hq=>⟨hq.2,fun hf e=>by
  have:=h0 f hf
  rw [if_pos e,hq.1] at this;omega⟩
 have g2:l.length≠0→qU m0 m bd fam:=fun hn=>by
  obtain⟨b,e,o⟩:=h3.own hn
  refine⟨o.flt,fun hf e2=>?_⟩
  have:=h0 fam hf
  rw [if_pos e2,h4 (by rw [e];simp)] at this;omega
 exact⟨ao,css,fam,rfl,h1,fun j d c hd hc=>(h2 j d c hd hc).mono g1,RsT.of h3.rs,g2⟩
set_option maxHeartbeats 4000000 in
theorem Z2w (hN:Nq S)(h:UB m0 T m P s)(hb:Bd P.ops s)(hv:s.vals.length≤300)(hbl:s.blks.length≤20){A:Value→Mem→Prop}{i:Nat}
  (hrf:m0.next≤P.rf) (meth:∀ va ba sa m1,UAt (qU m0 m1 P.bad) m1 (Zbp 3 0 [] (Zac P.ops s).2 (Zac P.ops s).1).un va ba sa→Zaa m0 m1 []→A (.agg #[.int .i64 1,.int .i64 2,.slice va (Zbp 3 0 [] (Zac P.ops s).2 (Zac P.ops s).1).vals.length (Zbp 3 0 [] (Zac P.ops s).2 (Zac P.ops s).1).vals.length,.slice ba (Zbp 3 0 [] (Zac P.ops s).2 (Zac P.ops s).1).blks.length (Zbp 3 0 [] (Zac P.ops s).2 (Zac P.ops s).1).blks.length,.slice sa (Zbp 3 0 [] (Zac P.ops s).2 (Zac P.ops s).1).sts.length (Zbp 3 0 [] (Zac P.ops s).2 (Zac P.ops s).1).sts.length]) m1) :
  W Tryd.prog TT S 86 [126,209,298] (.seq (rgn TT 7 71) (.seq (rgn TT 7 72) .ret)) [] [(1,.pointer (some ⟨P.rb,0,none⟩)),(2,.pointer (some ⟨P.rc,0,none⟩)),(3,.pointer (some ⟨P.ub,0,none⟩)),(5,.pointer (some ⟨P.kb,0,none⟩)),(6,.pointer (some ⟨P.bb,0,none⟩)),(7,.pointer (some ⟨P.px,0,none⟩)),(10,.pointer (some ⟨P.nx,0,none⟩)),(11,.pointer (some ⟨P.sx,0,none⟩)),(12,.func (.func 22) #[] #[.pointer (some ⟨P.nx,0,none⟩),.pointer (some ⟨P.ub,0,none⟩),.pointer (some ⟨P.kb,0,none⟩),.pointer (some ⟨P.px,0,none⟩),.pointer (some ⟨P.sx,0,none⟩)]),(13,.func (.func 23) #[] #[.pointer (some ⟨P.bb,0,none⟩),.pointer (some ⟨P.ub,0,none⟩)]),(14,.int .i64 (i:Nat))] m (QF Tryd.prog [.cell 2 29] A):=by
 obtain⟨m5,T5,c5,B5⟩:=h.state hN hb (by omega) (by omega)
 obtain⟨_,_,_,_,_,_,_,_,lS⟩:=h.ll
 obtain⟨_,f1,f2,_,f4,_,_⟩:=Zde (d:=(0,0,0,0,[],0,())) hb
 obtain⟨m6,T6,c6,B6⟩:=B5.end hN (by rw [f4];omega) 3 0 [] (Zac P.ops s).2 Zdn
 have c6:Zaq Tryd.prog TT S 23 [.agg #[.slice none 0 0,.int .i64 3,.int .i64 0,.slice none 0 0,.slice none 0 0,.int .i64 (Zac P.ops s).2],.pointer (some ⟨P.bb,0,none⟩),.pointer (some ⟨P.ub,0,none⟩)] m5=some (.int .i64 ((Zac P.ops s).1.blks.length:Nat),m6):=c6
 simp [-Int.natCast_add,-w7_72,Za2 Zym,lS,c5,c6]
 generalize Zbp 3 0 [] (Zac P.ops s).2 (Zac P.ops s).1=s6 at *
 obtain⟨va,ba,sa,u1,u2,u3,u4⟩:=B6.u.u
 obtain⟨m7,e7,o8,k7'⟩:=Zao (r:=_) rfl B6.o.1 (off:=0) (vs:=[.int .i64 1,.int .i64 2,.slice va s6.vals.length s6.vals.length,.slice ba s6.blks.length s6.blks.length,.slice sa s6.sts.length s6.sts.length]) (by simp) (by simp [Zau,Zae])
 simp [Zb1] at o8
 have k7:KT T6 [10] m6 m7:=⟨[P.rf],k7',fun f hm _=>by simp at hm;subst hm;rw [B6.o.2];simp⟩
 have l8:=o8.load (off:=0) 5 (by simp)
 obtain⟨f9,o9,_⟩:=u1
 have l9:=o9.load (off:=0) 5 (by simp)
 simp only [Zap,List.drop_zero,List.take] at l8 l9
 simp [-Int.natCast_add,Zir Z5s,l9,e7,l8]
 exact meth va ba sa m7 ⟨Ziy.at (u2.keep k7 Ag.refl (by simp) (by simp)) B6.j0 (by omega),Ziy.at (u3.keep k7 Ag.refl (by simp) (by simp)) B6.j0 (by omega),Ziy.at (u4.keep k7 Ag.refl (by simp) (by simp)) B6.j0 (by omega)⟩ (B6.j1.fresh k7' (fun f hm=>by simp at hm;omega))
def Zc6 (ops:List Int):List Int→Nat→Us→Us
 | [],_,s=>s
 | _::_,0,s=>s
 | x::r,j+1,s=>if s.vals.length < 160 then Zc6 ops r j (if x % 3=0 then Zw0 ops s else if x % 3=1 then Zlt ops s else Zmt ops s) else s
def Zen (ops sh:List Int)(n:Int):Us:=
 let s:=Zc6 ops sh 6 (Zf0 ops (knP (2,0,0,5,[],0,()) (Zba (n % 5).toNat)))
 Zbp 3 0 [] (Zac ops s).2 (Zac ops s).1
set_option maxHeartbeats 8000000 in
theorem Z1z (hN:Nq S)(bd:Nat){oa sa:Option Addr}{ops sh:List Int}{n:Int}(ho:Zag (qU m0 m0 bd) m0 oa ops)(hs:Zag (qU m0 m0 bd) m0 sa sh)(hol:ops.length≤9223372036854775807) :
  ∃ v m1,Zaq Tryd.prog TT S 7 [.agg #[.slice oa ops.length ops.length,.slice sa sh.length sh.length,.int .i64 n]] m0=some (v,m1)∧∃ va ba sa,v=.agg #[.int .i64 1,.int .i64 2,.slice va (Zen ops sh n).vals.length (Zen ops sh n).vals.length,.slice ba (Zen ops sh n).blks.length (Zen ops sh n).blks.length,.slice sa (Zen ops sh n).sts.length (Zen ops sh n).sts.length]∧UAt (qU m0 m1 bd) m1 (Zen ops sh n).un va ba sa∧Zaa m0 m1 []∧(1≤(Zen ops sh n).vals.length∧(Zen ops sh n).vals.length≤300∧(Zen ops sh n).blks.length≤20∧(Zen ops sh n).sts.length≤330):=by
 have ho:Zag (DQ (fun f=>if f=bd then 10 else 0) m0) m0 oa ops:=by
  obtain⟨f,h1,h2⟩:=ho
  exact⟨f,h1,fun hz=>⟨if_neg ((h2 hz).2 (h2 hz).1),(h2 hz).1⟩⟩
 have hs:Zag (DQ (fun f=>if f=bd then 10 else 0) m0) m0 sa sh:=by
  obtain⟨f,h1,h2⟩:=hs
  exact⟨f,h1,fun hz=>⟨if_neg ((h2 hz).2 (h2 hz).1),(h2 hz).1⟩⟩
 obtain⟨T1,a1,oR1,k1,n1,w1⟩:=Znw (m:=m0) (fun f=>if f=bd then 10 else 0) 10 (cs:=[.slice oa ops.length ops.length,.slice sa sh.length sh.length,.int .i64 n]) (e:=24) rfl
 have J1:=k1
 have j1:∀ f,f < m0.next→T1 f=if f=bd then 10 else 0:=fun f hf=>a1 f hf
 have k1:KT (fun f=>if f=bd then 10 else 0) [] m0 _:=KT.of k1
 have ho1:=Zan ho k1 a1 (by simp)
 have hs1:=Zan hs k1 a1 (by simp)
 refine Zho 86 [126,209,298] k7 hN.unit rfl ?_
 simp [-Int.natCast_add,-w7_1,Zbw b24]
 generalize m0.new _ _=m1 at *
 generalize hrb:m0.next=rb at oR1 ⊢
 obtain⟨T2,a2,oX2,k2,n2,w2⟩:=Znw (m:=m1) T1 10 (cs:=[.int .i64 0,.int .i64 0,.slice none 0 0,.slice none 0 0,.slice none 0 0]) (e:=29) rfl
 obtain⟨rf,hrf,oX2⟩:∃ rf,m0.next≤rf∧Z7v T2 10 _ m1.next [.int .i64 0,.int .i64 0,.slice none 0 0,.slice none 0 0,.slice none 0 0] 29 rf:=by
  obtain⟨f,o,t⟩:=oX2
  have h1:=(Own.new m1 [.int .i64 0,.int .i64 0,.slice none 0 0,.slice none 0 0,.slice none 0 0] 29).blk
  rw [o.blk] at h1
  simp at h1
  have:=J1.1
  exact⟨f,by omega,o,t⟩
 have k2:KT T1 [] m1 _:=KT.of k2
 have oR2:=oR1.keep k2 a2 (by simp)
 have ho2:=Zan ho1 k2 a2 (by simp)
 have hs2:=Zan hs1 k2 a2 (by simp)
 have j2:=ja j1 J1 a2
 have J2:=jk j1 J1 k2 (by simp)
 generalize m1.new _ _=m2 at *
 generalize m1.next=rc at *
 simp [-Int.natCast_add,-w7_2,Za2 Ybc]
 generalize hr3:Zad _ _ _=r3
 obtain⟨m3,T3,rfl,a3,oU3,k3,w3⟩:=Zk3 T2 1 hr3 rfl (by simp [Zau,Zae])
 clear hr3
 have oR3:=oR2.keep k3 a3 (by simp)
 have oX3:=oX2.keep k3 a3 (by simp)
 have ho3:=Zan ho2 k3 a3 (by simp)
 have hs3:=Zan hs2 k3 a3 (by simp)
 have j3:=ja j2 J2 a3
 have J3:=jk j2 J2 k3 (by simp)
 generalize m2.next=ub at *
 have lR:loadRow m3 ⟨rb,2,none⟩ 1=some [.int .i64 n]:=by
  obtain⟨f,o,_⟩:=oR3
  exact o.load1 (off:=2) rfl
 have pk:=Zch (m:=m3) hN.pick n 5 (by omega) (by omega)
 obtain⟨N,hN1⟩:∃ N:Nat,n % 5=N:=⟨(n % 5).toNat,by omega⟩
 have hN5:N≤4:=by omega
 rw [hN1] at pk
 simp [-Int.natCast_add,-w7_3,lR,pk]
 obtain⟨T4,a4,oK4,k4,n4,w4⟩:=Znw (m:=m3) T3 5 (cs:=[.slice none 0 0]) (e:=22) rfl
 have k4:KT T3 [] m3 _:=KT.of k4
 have oR4:=oR3.keep k4 a4 (by simp)
 have oX4:=oX3.keep k4 a4 (by simp)
 have oU4:=oU3.keep k4 a4 (by simp)
 have ho4:=Zan ho3 k4 a4 (by simp)
 have hs4:=Zan hs3 k4 a4 (by simp)
 have j4:=ja j3 J3 a4
 have J4:=jk j3 J3 k4 (by simp)
 simp [-Int.natCast_add,-w7_4]
 generalize m3.new _ _=m4 at *
 generalize m3.next=kb at *
 simp [-Int.natCast_add,-w7_5,Za2 Zym]
 generalize hr5:Zad _ _ _=r5
 obtain⟨m5,T5,rfl,a5,oB5,k5,w5⟩:=Zk3 T4 7 hr5 rfl (by simp [Zau,Zae])
 clear hr5
 have oR5:=oR4.keep k5 a5 (by simp)
 have oX5:=oX4.keep k5 a5 (by simp)
 have oU5:=oU4.keep k5 a5 (by simp)
 have oK5:=oK4.keep k5 a5 (by simp)
 have ho5:=Zan ho4 k5 a5 (by simp)
 have hs5:=Zan hs4 k5 a5 (by simp)
 have j5:=ja j4 J4 a5
 have J5:=jk j4 J4 k5 (by simp)
 generalize m4.next=bb at *
 simp [-Int.natCast_add,-w7_6,Zph]
 generalize hr6:Zad _ _ _=r6
 obtain⟨m6,T6,rfl,a6,oP6,k6,w6⟩:=Zk3 T5 10 hr6 rfl rfl
 clear hr6
 have oR6:=oR5.keep k6 a6 (by simp)
 have oX6:=oX5.keep k6 a6 (by simp)
 have oU6:=oU5.keep k6 a6 (by simp)
 have oK6:=oK5.keep k6 a6 (by simp)
 have oB6:=oB5.keep k6 a6 (by simp)
 have ho6:=Zan ho5 k6 a6 (by simp)
 have hs6:=Zan hs5 k6 a6 (by simp)
 have j6:=ja j5 J5 a6
 have J6:=jk j5 J5 k6 (by simp)
 generalize m5.next=px at *
 have t6:∀ f,T6 f≤10:=fun f=>by
  have e1:=w1 f
  have e0:(if f=bd then 10 else 0)≤10:=by split <;> omega
  have e2:=w2 f
  have e3:=w3 f
  have e4:=w4 f
  have e5:=w5 f
  have e6:=w6 f
  omega
 have U6:UM T6 m6 ub kb bb 0 Us0:=⟨⟨none,none,none,oU6,Ziy.nil _ _ _ _ _,Ziy.nil _ _ _ _ _,Ziy.nil _ _ _ _ _⟩,⟨none,oK6,⟨0,Sr.nil _ _ _ _,by simp⟩⟩,⟨none,none,oB6,⟨0,Sl.nil _ _ _ _,by simp⟩,Zdn⟩,Or.inl rfl⟩
 simp [-Int.natCast_add]
 refine Zah 86 [126,209,298] (fun d E mG=>∃ (i:Nat) (T':Tg),N - i=d∧i≤N∧UM T' mG ub kb bb 0 (Zba i)∧(∀ f,T' f≤10)∧Ag T6 T' m6∧KT T6 [1,2,5,6,7,8] m6 mG∧
  E=[(0,.agg #[.slice oa ops.length ops.length,.slice sa sh.length sh.length,.int .i64 n]),(1,.pointer (some ⟨rb,0,none⟩)),(2,.pointer (some ⟨rc,0,none⟩)),(3,.pointer (some ⟨ub,0,none⟩)),(4,.int .i64 (N:Int)),(5,.pointer (some ⟨kb,0,none⟩)),(6,.pointer (some ⟨bb,0,none⟩)),(7,.pointer (some ⟨px,0,none⟩)),(8,.int .i64 (i:Int))]) _ ⟨_,⟨0,T6,rfl,by omega,U6,t6,Ag.refl,KT.refl,rfl⟩,(by repeat' constructor)⟩ ?_
 rintro d E mG ih ⟨i,T',rfl,hiN,hU,hT',aG,kG,rfl⟩
 obtain⟨z1,z2,z3,z4,z5,z6⟩:=Ziv i
 have oP:Zev T' 10 mG px _ _:=oP6.keep kG aG (by simp)
 by_cases hi:i < N
 ·have hi':(i:Int) < N:=by omega
  obtain⟨J,hJ⟩:∃ J,i+1=J:=⟨_,rfl⟩
  have wi:IntKind.i64.wrap ((i:Int)+1)=(J:Int):=by rw [Zab (by omega) (by omega)];omega
  obtain⟨v7,m7,c7,rfl,T7,hU7,a7,k7,b7⟩:=Zdw hN hT' hU (by omega) (by omega) (d:=(1,0,0,(i:Nat),[],0,())) (aa:=none) Zdn
  have c7:Zaq Tryd.prog TT S 19 [.agg #[.int .i64 1,.int .i64 0,.int .i64 0,.int .i64 (i:Nat),.slice none 0 0,.int .i64 0],.pointer (some ⟨ub,0,none⟩),.pointer (some ⟨bb,0,none⟩)] mG=some (.int .i64 ((Zba i).vals.length:Nat),m7):=c7
  obtain⟨ka,l1,l2,l3,m8,ka2,m9,T9,e8,l4,e9,hU9,a9,k9,b9⟩:=UM.kn hU hU7 k7 a7 (by simp) rfl b7 (by omega) ((Zba i).vals.length:Nat)
  obtain⟨lP,_⟩:=Zpe oP
  obtain⟨lP7,lPn⟩:=Zpe (oP.keep k7 a7 (by simp))
  simp [-Int.natCast_add,-w7_9,Za2 Zrl,Za u22 bs3 rfl,Zbf u22 sz3,hi',Zdl _ _ (Zpt _ _),lP,c7,l1,l2,l3,e8,e9]
  simp [-Int.natCast_add,wi]
  exact ih (N - J) [(0,.agg #[.slice oa ops.length ops.length,.slice sa sh.length sh.length,.int .i64 n]),(1,.pointer (some ⟨rb,0,none⟩)),(2,.pointer (some ⟨rc,0,none⟩)),(3,.pointer (some ⟨ub,0,none⟩)),(4,.int .i64 (N:Int)),(5,.pointer (some ⟨kb,0,none⟩)),(6,.pointer (some ⟨bb,0,none⟩)),(7,.pointer (some ⟨px,0,none⟩)),(8,.int .i64 (J:Int))] _ _ ⟨J,T9,rfl,by omega,by rw [← hJ];exact hU9,b9,(aG.trans a7 kG.le).trans a9 (by have:=kG.le;have:=k7.le;omega),(kG.trans aG (k7.mono (by simp))).trans (aG.trans a7 kG.le) (k9.mono (by simp)),rfl⟩ (by omega) (by repeat' constructor)
 ·have hi':¬ (i:Int) < N:=by omega
  obtain⟨v7,m7,c7,rfl,T7,hU7,a7,k7,b7⟩:=Zdw hN hT' hU (by omega) (by omega) (d:=(2,0,0,5,[],0,())) (aa:=none) Zdn
  have c7:Zaq Tryd.prog TT S 19 [.agg #[.int .i64 2,.int .i64 0,.int .i64 0,.int .i64 5,.slice none 0 0,.int .i64 0],.pointer (some ⟨ub,0,none⟩),.pointer (some ⟨bb,0,none⟩)] mG=some (.int .i64 ((Zba i).vals.length:Nat),m7):=c7
  obtain⟨ka,l1,l2,l3,m8,ka2,m9,T9,e8,l4,e9,hU9,a9,k9,b9⟩:=UM.kn hU hU7 k7 a7 (by simp) rfl b7 (by omega) ((Zba i).vals.length:Nat)
  obtain⟨lP,_⟩:=Zpe oP
  obtain⟨lP7,lPn⟩:=Zpe (oP.keep k7 a7 (by simp))
  simp [-Int.natCast_add,-w7_10,hi']
  simp [-Int.natCast_add,-w7_11,Za2 Zrl,Za u22 bs3 rfl,Zbf u22 sz3,Zdl _ _ (Zpt _ _),lP,c7,l1,l2,l3,e8,e9]
  have aT:=(aG.trans a7 kG.le).trans a9 (by have:=kG.le;have:=k7.le;omega)
  have kT:KT T6 [1,2,5,6,7,8] m6 m9:=(kG.trans aG (k7.mono (by simp))).trans (aG.trans a7 kG.le) (k9.mono (by simp))
  have eN:i=N:=by omega
  subst eN
  have oR9:=oR6.keep kT aT (by simp)
  have oX9:=oX6.keep kT aT (by simp)
  have oP9:=oP6.keep kT aT (by simp)
  have ho9:=Zan ho6 kT aT (by simp)
  have hs9:=Zan hs6 kT aT (by simp)
  have j9:=ja j6 J6 aT
  have J9:=jk j6 J6 kT (by simp)
  simp [-Int.natCast_add,-w7_12]
  generalize hr10:Zad _ _ _=r10
  obtain⟨m10,T10,rfl,a10,oA10,k10,w10⟩:=Zk3 T9 9 hr10 rfl (by simp [Zau])
  clear hr10
  have oR10:=oR9.keep k10 a10 (by simp)
  have oX10:=oX9.keep k10 a10 (by simp)
  have oP10:=oP9.keep k10 a10 (by simp)
  have ho10:=Zan ho9 k10 a10 (by simp)
  have hs10:=Zan hs9 k10 a10 (by simp)
  have j10:=ja j9 J9 a10
  have J10:=jk j9 J9 k10 (by simp)
  have U10:=hU9.keep k10 a10 (by simp)
  have z:m9.next≠0:=by
   obtain⟨f,o,_⟩:=oP9
   have:=o.flt
   omega
  generalize m9.next=ab at *
  have U10:UM T10 m10 ub kb bb ab (knP (2,0,0,5,[],0,()) (Zba i)):=⟨U10.u,U10.k,U10.b,Or.inr (by simp only [knP,Zbi,z6];exact oA10)⟩
  simp [-Int.natCast_add,-w7_13,Zph]
  generalize hr11:Zad _ _ _=r11
  obtain⟨m11,T11,rfl,a11,oN11,k11,w11⟩:=Zk3 T10 10 hr11 rfl rfl
  clear hr11
  have oR11:=oR10.keep k11 a11 (by simp)
  have oX11:=oX10.keep k11 a11 (by simp)
  have oP11:=oP10.keep k11 a11 (by simp)
  have ho11:=Zan ho10 k11 a11 (by simp)
  have hs11:=Zan hs10 k11 a11 (by simp)
  have j11:=ja j10 J10 a11
  have J11:=jk j10 J10 k11 (by simp)
  have U11:=U10.keep k11 a11 (by simp)
  generalize m10.next=nx at *
  simp [-Int.natCast_add,-w7_14,Zph]
  generalize hr12:Zad _ _ _=r12
  obtain⟨m12,T12,rfl,a12,oS12,k12,w12⟩:=Zk3 T11 10 hr12 rfl rfl
  clear hr12
  have oR12:=oR11.keep k12 a12 (by simp)
  have oX12:=oX11.keep k12 a12 (by simp)
  have oP12:=oP11.keep k12 a12 (by simp)
  have oN12:=oN11.keep k12 a12 (by simp)
  have ho12:=Zan ho11 k12 a12 (by simp)
  have hs12:=Zan hs11 k12 a12 (by simp)
  have j12:=ja j11 J11 a12
  have J12:=jk j11 J11 k12 (by simp)
  have U12:=U11.keep k12 a12 (by simp)
  generalize m11.next=sx at *
  have B12:UB m0 T12 m12 ⟨ub,kb,bb,ab,rb,nx,px,sx,rc,bd,rf,ops,sh,n⟩ (knP (2,0,0,5,[],0,()) (Zba i)):=⟨U12,⟨⟨oa,sa,oR12,ho12,hs12⟩,oN12,oP12,oS12,z⟩,fun f=>by have e1:=b9 f;have e2:=w10 f;have e3:=w11 f;have e4:=w12 f;omega,j12,J12,oX12,hol⟩
  simp [-Int.natCast_add,-w7_16]
  obtain⟨v13,m13,T13,c13',B13,D13,y13,x13⟩:=B12.row hN (Zzg ops (2,0,0,5,[],0,()) i) (by simp only [knP,Zbi,List.length_append,List.length_cons,List.length_nil];omega) (by simp only [knP,Zbi,z4];simp)
  simp [-Int.natCast_add,-w7_17,c13']
  have eU:Zen ops sh n=(let s:=Zc6 ops sh 6 (Zf0 ops (knP (2,0,0,5,[],0,()) (Zba i)));Zbp 3 0 [] (Zac ops s).2 (Zac ops s).1):=by unfold Zen;rw [hN1];rfl
  dsimp only at B13 D13 x13 y13 eU
  have x13:(Zf0 ops (knP (2,0,0,5,[],0,()) (Zba i))).blks.length=0:=by rw [x13];simp only [knP,Zbi,z4];rfl
  have y13:(Zf0 ops (knP (2,0,0,5,[],0,()) (Zba i))).vals.length≤300:=by
   have e:(knP (2,0,0,5,[],0,()) (Zba i)).vals.length=i+1:=by simp [knP,Zbi,z1]
   rw [e] at y13
   omega
  generalize Zf0 ops (knP (2,0,0,5,[],0,()) (Zba i))=s13 at *
  simp [-Int.natCast_add]
  obtain⟨R,hR⟩:∃ R,Zc6 ops sh 6 s13=R:=⟨_,rfl⟩
  rw [hR] at eU
  refine Zah 86 [126,209,298] (fun d E mG=>∃ (k:Nat) (s':Us) (T':Tg),6 - k=d∧k≤6∧k≤sh.length∧UB m0 T' mG (⟨ub,kb,bb,ab,rb,nx,px,sx,rc,bd,rf,ops,sh,n⟩:Pl) s'∧Bd ops s'∧s'.blks.length≤3 * k∧s'.vals.length≤300∧Zc6 ops (sh.drop k) (6 - k) s'=R∧
   E=[(1,.pointer (some ⟨rb,0,none⟩)),(2,.pointer (some ⟨rc,0,none⟩)),(3,.pointer (some ⟨ub,0,none⟩)),(5,.pointer (some ⟨kb,0,none⟩)),(6,.pointer (some ⟨bb,0,none⟩)),(7,.pointer (some ⟨px,0,none⟩)),(10,.pointer (some ⟨nx,0,none⟩)),(11,.pointer (some ⟨sx,0,none⟩)),(12,.func (.func 22) #[] #[.pointer (some ⟨nx,0,none⟩),.pointer (some ⟨ub,0,none⟩),.pointer (some ⟨kb,0,none⟩),.pointer (some ⟨px,0,none⟩),.pointer (some ⟨sx,0,none⟩)]),(13,.func (.func 23) #[] #[.pointer (some ⟨bb,0,none⟩),.pointer (some ⟨ub,0,none⟩)]),(14,.int .i64 (k:Nat))]) _ ⟨_,⟨0,s13,T13,rfl,by omega,by omega,B13,D13,by omega,y13,hR,rfl⟩,(by repeat' constructor)⟩ ?_
  clear hR B13 D13 x13 y13 U6 U10 U11 U12 B12
  rintro d E mG ih ⟨k,s',T',rfl,hk6,hkl,hB,hD,hbl,hvl,hS,rfl⟩
  obtain⟨ka,ba,va,lk,lb,lv,lN,lP,lS⟩:=hB.ll
  obtain⟨oa',sa',⟨fr,oR,_⟩,_,hSh⟩:=hB.c.r
  have lR:=oR.load1 (off:=1) rfl
  by_cases hc:k < sh.length∧k < 6∧s'.vals.length < 160
  ·obtain⟨q1,q2,q3⟩:=hc
   have q1':(k:Int) < sh.length:=by omega
   have q2':(k:Int) < 6:=by omega
   have q3':(s'.vals.length:Int) < 160:=by omega
   have q4:(k:Int)≤9223372036854775807:=by omega
   obtain⟨J,hJ⟩:∃ J,k+1=J:=⟨_,rfl⟩
   have wk:IntKind.i64.wrap ((k:Int)+1)=(J:Int):=by rw [Zab (by omega) (by omega)];omega
   obtain⟨sb,rfl,lo⟩:=hSh.get q1
   have e6:6 - k=(6 - J)+1:=by omega
   have ex:sh.drop k=sh.getD k 0::sh.drop J:=by rw [List.drop_eq_getElem_cons q1,← hJ];simp [List.getD,q1]
   rw [e6,ex,Zc6,if_pos q3] at hS
   generalize sh.getD k 0=x at *
   have pk:=Zch (m:=mG) hN.pick x 3 (by omega) (by omega)
   by_cases x0:x % 3=0
   ·rw [if_pos x0] at hS
    rw [x0] at pk
    simp [-Int.natCast_add,-w7_21,q1,q1',q2',q3',q4,lR,lv,lo,pk]
    refine (Zo5 _ _).1 (Zb2 (E:=[(1,.pointer (some ⟨rb,0,none⟩)),(2,.pointer (some ⟨rc,0,none⟩)),(3,.pointer (some ⟨ub,0,none⟩)),(5,.pointer (some ⟨kb,0,none⟩)),(6,.pointer (some ⟨bb,0,none⟩)),(7,.pointer (some ⟨px,0,none⟩)),(10,.pointer (some ⟨nx,0,none⟩)),(11,.pointer (some ⟨sx,0,none⟩)),(12,.func (.func 22) #[] #[.pointer (some ⟨nx,0,none⟩),.pointer (some ⟨ub,0,none⟩),.pointer (some ⟨kb,0,none⟩),.pointer (some ⟨px,0,none⟩),.pointer (some ⟨sx,0,none⟩)]),(13,.func (.func 23) #[] #[.pointer (some ⟨bb,0,none⟩),.pointer (some ⟨ub,0,none⟩)]),(14,.int .i64 (k:Nat))]) (Z4n hN hB hD q3 (by omega) ?_) (by repeat' constructor))
    intro m1 T1 h1 d1 b1 v1
    simp [-Int.natCast_add,wk]
    exact ih (6 - J) [(1,.pointer (some ⟨rb,0,none⟩)),(2,.pointer (some ⟨rc,0,none⟩)),(3,.pointer (some ⟨ub,0,none⟩)),(5,.pointer (some ⟨kb,0,none⟩)),(6,.pointer (some ⟨bb,0,none⟩)),(7,.pointer (some ⟨px,0,none⟩)),(10,.pointer (some ⟨nx,0,none⟩)),(11,.pointer (some ⟨sx,0,none⟩)),(12,.func (.func 22) #[] #[.pointer (some ⟨nx,0,none⟩),.pointer (some ⟨ub,0,none⟩),.pointer (some ⟨kb,0,none⟩),.pointer (some ⟨px,0,none⟩),.pointer (some ⟨sx,0,none⟩)]),(13,.func (.func 23) #[] #[.pointer (some ⟨bb,0,none⟩),.pointer (some ⟨ub,0,none⟩)]),(14,.int .i64 (J:Nat))] _ _ ⟨J,_,T1,rfl,by omega,by omega,h1,d1,by omega,v1,hS,rfl⟩ (by omega) (by repeat' constructor)
   ·rw [if_neg x0] at hS
    by_cases x1:x % 3=1
    ·rw [if_pos x1] at hS
     rw [x1] at pk
     simp [-Int.natCast_add,-w7_38,q1,q1',q2',q3',q4,lR,lv,lo,pk]
     refine (Zo5 _ _).1 (Zb2 (E:=[(1,.pointer (some ⟨rb,0,none⟩)),(2,.pointer (some ⟨rc,0,none⟩)),(3,.pointer (some ⟨ub,0,none⟩)),(5,.pointer (some ⟨kb,0,none⟩)),(6,.pointer (some ⟨bb,0,none⟩)),(7,.pointer (some ⟨px,0,none⟩)),(10,.pointer (some ⟨nx,0,none⟩)),(11,.pointer (some ⟨sx,0,none⟩)),(12,.func (.func 22) #[] #[.pointer (some ⟨nx,0,none⟩),.pointer (some ⟨ub,0,none⟩),.pointer (some ⟨kb,0,none⟩),.pointer (some ⟨px,0,none⟩),.pointer (some ⟨sx,0,none⟩)]),(13,.func (.func 23) #[] #[.pointer (some ⟨bb,0,none⟩),.pointer (some ⟨ub,0,none⟩)]),(14,.int .i64 (k:Nat))]) (Z16 hN hB hD q3 (by omega) ?_) (by repeat' constructor))
     intro m1 T1 h1 d1 b1 v1
     simp [-Int.natCast_add,wk]
     exact ih (6 - J) [(1,.pointer (some ⟨rb,0,none⟩)),(2,.pointer (some ⟨rc,0,none⟩)),(3,.pointer (some ⟨ub,0,none⟩)),(5,.pointer (some ⟨kb,0,none⟩)),(6,.pointer (some ⟨bb,0,none⟩)),(7,.pointer (some ⟨px,0,none⟩)),(10,.pointer (some ⟨nx,0,none⟩)),(11,.pointer (some ⟨sx,0,none⟩)),(12,.func (.func 22) #[] #[.pointer (some ⟨nx,0,none⟩),.pointer (some ⟨ub,0,none⟩),.pointer (some ⟨kb,0,none⟩),.pointer (some ⟨px,0,none⟩),.pointer (some ⟨sx,0,none⟩)]),(13,.func (.func 23) #[] #[.pointer (some ⟨bb,0,none⟩),.pointer (some ⟨ub,0,none⟩)]),(14,.int .i64 (J:Nat))] _ _ ⟨J,_,T1,rfl,by omega,by omega,h1,d1,by omega,v1,hS,rfl⟩ (by omega) (by repeat' constructor)
    ·rw [if_neg x1] at hS
     simp [-Int.natCast_add,-w7_61,q1,q1',q2',q3',q4,lR,lv,lo,pk,x0,x1]
     refine (Zo5 _ _).1 (Zb2 (E:=[(1,.pointer (some ⟨rb,0,none⟩)),(2,.pointer (some ⟨rc,0,none⟩)),(3,.pointer (some ⟨ub,0,none⟩)),(5,.pointer (some ⟨kb,0,none⟩)),(6,.pointer (some ⟨bb,0,none⟩)),(7,.pointer (some ⟨px,0,none⟩)),(10,.pointer (some ⟨nx,0,none⟩)),(11,.pointer (some ⟨sx,0,none⟩)),(12,.func (.func 22) #[] #[.pointer (some ⟨nx,0,none⟩),.pointer (some ⟨ub,0,none⟩),.pointer (some ⟨kb,0,none⟩),.pointer (some ⟨px,0,none⟩),.pointer (some ⟨sx,0,none⟩)]),(13,.func (.func 23) #[] #[.pointer (some ⟨bb,0,none⟩),.pointer (some ⟨ub,0,none⟩)]),(14,.int .i64 (k:Nat))]) (Z1h hN hB hD q3 (by omega) ?_) (by repeat' constructor))
     intro m1 T1 h1 d1 b1 v1
     simp [-Int.natCast_add,wk]
     exact ih (6 - J) [(1,.pointer (some ⟨rb,0,none⟩)),(2,.pointer (some ⟨rc,0,none⟩)),(3,.pointer (some ⟨ub,0,none⟩)),(5,.pointer (some ⟨kb,0,none⟩)),(6,.pointer (some ⟨bb,0,none⟩)),(7,.pointer (some ⟨px,0,none⟩)),(10,.pointer (some ⟨nx,0,none⟩)),(11,.pointer (some ⟨sx,0,none⟩)),(12,.func (.func 22) #[] #[.pointer (some ⟨nx,0,none⟩),.pointer (some ⟨ub,0,none⟩),.pointer (some ⟨kb,0,none⟩),.pointer (some ⟨px,0,none⟩),.pointer (some ⟨sx,0,none⟩)]),(13,.func (.func 23) #[] #[.pointer (some ⟨bb,0,none⟩),.pointer (some ⟨ub,0,none⟩)]),(14,.int .i64 (J:Nat))] _ _ ⟨J,_,T1,rfl,by omega,by omega,h1,d1,by omega,v1,hS,rfl⟩ (by omega) (by repeat' constructor)
  ·have eS:s'=R:=by
    rw [← hS]
    by_cases q1:k < sh.length
    ·rw [List.drop_eq_getElem_cons q1]
     by_cases q2:k < 6
     ·rw [show 6 - k=(5 - k)+1 by omega,Zc6,if_neg (fun h=>hc ⟨q1,q2,h⟩)]
     ·rw [show 6 - k=0 by omega,Zc6]
    ·rw [List.drop_eq_nil_of_le (by omega)]
     rfl
   clear ih hS
   subst eS
   rw [eU]
   obtain⟨_,f1,_,_,f4,f5,_⟩:=Zde (d:=(0,0,0,0,[],0,())) hD
   have g1:=hD.k1
   have g2:=hD.k2
   have g3:=hD.st
   have hNum:(1≤(Zbp 3 0 [] (Zac ops s').2 (Zac ops s').1).vals.length∧(Zbp 3 0 [] (Zac ops s').2 (Zac ops s').1).vals.length≤300∧(Zbp 3 0 [] (Zac ops s').2 (Zac ops s').1).blks.length≤20∧(Zbp 3 0 [] (Zac ops s').2 (Zac ops s').1).sts.length≤330):=by
    simp only [Zbp,List.length_append,List.length_cons,List.length_nil]
    rw [f1,f4,f5]
    omega
   have H:=Z2w hN hB hD hvl (by omega) hrf (i:=k) (A:=fun v m1=>∃ va ba sa,v=.agg #[.int .i64 1,.int .i64 2,.slice va (Zbp 3 0 [] (Zac ops s').2 (Zac ops s').1).vals.length (Zbp 3 0 [] (Zac ops s').2 (Zac ops s').1).vals.length,.slice ba (Zbp 3 0 [] (Zac ops s').2 (Zac ops s').1).blks.length (Zbp 3 0 [] (Zac ops s').2 (Zac ops s').1).blks.length,.slice sa (Zbp 3 0 [] (Zac ops s').2 (Zac ops s').1).sts.length (Zbp 3 0 [] (Zac ops s').2 (Zac ops s').1).sts.length]∧UAt (qU m0 m1 bd) m1 (Zbp 3 0 [] (Zac ops s').2 (Zac ops s').1).un va ba sa∧Zaa m0 m1 []∧(1≤(Zbp 3 0 [] (Zac ops s').2 (Zac ops s').1).vals.length∧(Zbp 3 0 [] (Zac ops s').2 (Zac ops s').1).vals.length≤300∧(Zbp 3 0 [] (Zac ops s').2 (Zac ops s').1).blks.length≤20∧(Zbp 3 0 [] (Zac ops s').2 (Zac ops s').1).sts.length≤330)) (fun va ba sa m1 h1 h2=>⟨va,ba,sa,rfl,h1,h2,hNum⟩)
   by_cases q1:k < sh.length
   ·have q1':(k:Int) < sh.length:=by omega
    by_cases q2:k < 6
    ·have q2':(k:Int) < 6:=by omega
     have q3:¬ s'.vals.length < 160:=fun h=>hc ⟨q1,q2,h⟩
     have q3':¬ (s'.vals.length:Int) < 160:=by omega
     simp [-Int.natCast_add,-w7_71,lR,lv,q1',q2',q3']
     exact (Zo5 _ _).1 (Zb2 (E:=[(1,.pointer (some ⟨rb,0,none⟩)),(2,.pointer (some ⟨rc,0,none⟩)),(3,.pointer (some ⟨ub,0,none⟩)),(5,.pointer (some ⟨kb,0,none⟩)),(6,.pointer (some ⟨bb,0,none⟩)),(7,.pointer (some ⟨px,0,none⟩)),(10,.pointer (some ⟨nx,0,none⟩)),(11,.pointer (some ⟨sx,0,none⟩)),(12,.func (.func 22) #[] #[.pointer (some ⟨nx,0,none⟩),.pointer (some ⟨ub,0,none⟩),.pointer (some ⟨kb,0,none⟩),.pointer (some ⟨px,0,none⟩),.pointer (some ⟨sx,0,none⟩)]),(13,.func (.func 23) #[] #[.pointer (some ⟨bb,0,none⟩),.pointer (some ⟨ub,0,none⟩)]),(14,.int .i64 (k:Nat))]) H (by repeat' constructor))
    ·have q2':¬ (k:Int) < 6:=by omega
     simp [-Int.natCast_add,-w7_71,lR,q1',q2']
     exact (Zo5 _ _).1 (Zb2 (E:=[(1,.pointer (some ⟨rb,0,none⟩)),(2,.pointer (some ⟨rc,0,none⟩)),(3,.pointer (some ⟨ub,0,none⟩)),(5,.pointer (some ⟨kb,0,none⟩)),(6,.pointer (some ⟨bb,0,none⟩)),(7,.pointer (some ⟨px,0,none⟩)),(10,.pointer (some ⟨nx,0,none⟩)),(11,.pointer (some ⟨sx,0,none⟩)),(12,.func (.func 22) #[] #[.pointer (some ⟨nx,0,none⟩),.pointer (some ⟨ub,0,none⟩),.pointer (some ⟨kb,0,none⟩),.pointer (some ⟨px,0,none⟩),.pointer (some ⟨sx,0,none⟩)]),(13,.func (.func 23) #[] #[.pointer (some ⟨bb,0,none⟩),.pointer (some ⟨ub,0,none⟩)]),(14,.int .i64 (k:Nat))]) H (by repeat' constructor))
   ·have q1':¬ (k:Int) < sh.length:=by omega
    simp [-Int.natCast_add,-w7_71,lR,q1']
    exact (Zo5 _ _).1 (Zb2 (E:=[(1,.pointer (some ⟨rb,0,none⟩)),(2,.pointer (some ⟨rc,0,none⟩)),(3,.pointer (some ⟨ub,0,none⟩)),(5,.pointer (some ⟨kb,0,none⟩)),(6,.pointer (some ⟨bb,0,none⟩)),(7,.pointer (some ⟨px,0,none⟩)),(10,.pointer (some ⟨nx,0,none⟩)),(11,.pointer (some ⟨sx,0,none⟩)),(12,.func (.func 22) #[] #[.pointer (some ⟨nx,0,none⟩),.pointer (some ⟨ub,0,none⟩),.pointer (some ⟨kb,0,none⟩),.pointer (some ⟨px,0,none⟩),.pointer (some ⟨sx,0,none⟩)]),(13,.func (.func 23) #[] #[.pointer (some ⟨bb,0,none⟩),.pointer (some ⟨ub,0,none⟩)]),(14,.int .i64 (k:Nat))]) H (by repeat' constructor))
end Go.Proofs.YtcgmchechmbmeaaDoor.base
end
