/- This text proves what turnstonehand.Unit does, Zbr the abstract run: a loop. Condition: nothing is known of the calls ahead ('S f = []'). -/
import Derived.Test.YtlogdohlcdhepaaDoorM15
set_option linter.unusedVariables false
set_option linter.unusedSimpArgs false
section
set_option maxRecDepth 100000
namespace Go.Proofs.YtlogdohlcdhepaaDoor.base
open Go.Sh gen
variable {S:Zb2}{T T':Tg}{m0 m m1 m2:Mem}{is js:List Nat}{s s1:Us}{P:Pl}
theorem Zoh {α:Type}{l r:List α}{j:Nat}{x:α}(h:l[j]?=some x):(l++r)[j]?=some x:=by
 rw [List.getElem?_append_left (List.getElem?_eq_some_iff.1 h).1];exact h
theorem Zmg {p j:Nat}{l:List Int}{x:Zbj.D}(h:s.vals[j]?=some x)(hj:p≠j):(Za9 p l s).vals[j]?=some x:=by
 unfold Za9
 split
 ·simp only
  rw [List.getElem?_set_ne hj];exact h
 ·exact h
theorem Bd.kns (h:Bd P.ops s){vs:List Int}(hl:s.known.length+vs.length≤s.vals.length):Bd P.ops { s with known:=s.known++vs }:=⟨by simp only [List.length_append];have:=h.k1;omega,by simpa using hl,h.b,h.st,h.a⟩
theorem Bd.any (h:Bd P.ops s):Bd P.ops (Zbb P.ops s).1:=Zfv h
set_option maxHeartbeats 8000000 in
theorem Z2v (hN:Nq S)(h:UB m0 T m P s)(hb:Bd P.ops s)(hv:s.vals.length < 160)(hbl:s.blks.length≤20){K:List Fr}{rs:List ResultVar}{A:Value→Mem→Prop}{i:Nat} :
  (∀ m1 T1,UB m0 T1 m1 P (Zla P.ops s)→Bd P.ops (Zla P.ops s)→(Zla P.ops s).blks.length≤s.blks.length+3→(Zla P.ops s).vals.length≤300→W Tryd.prog TT S 86 [126,209,298] .skip K [(1,.pointer (some ⟨P.rb,0,none⟩)),(2,.pointer (some ⟨P.rc,0,none⟩)),(3,.pointer (some ⟨P.ub,0,none⟩)),(5,.pointer (some ⟨P.kb,0,none⟩)),(6,.pointer (some ⟨P.bb,0,none⟩)),(7,.pointer (some ⟨P.px,0,none⟩)),(10,.pointer (some ⟨P.nx,0,none⟩)),(11,.pointer (some ⟨P.sx,0,none⟩)),(12,.func (.func 34) #[] #[.pointer (some ⟨P.nx,0,none⟩),.pointer (some ⟨P.ub,0,none⟩),.pointer (some ⟨P.kb,0,none⟩),.pointer (some ⟨P.px,0,none⟩),.pointer (some ⟨P.sx,0,none⟩)]),(13,.func (.func 35) #[] #[.pointer (some ⟨P.bb,0,none⟩),.pointer (some ⟨P.ub,0,none⟩)]),(14,.int .i64 (i:Nat))] m1 (QF Tryd.prog rs A))→
  W Tryd.prog TT S 86 [126,209,298] (.seq (rgn TT 13 38) (.seq (rgn TT 13 39) (.seq (rgn TT 13 40) (.seq (rgn TT 13 41) (.seq (rgn TT 13 42) (.seq (rgn TT 13 43) (.seq (rgn TT 13 44) (.seq (rgn TT 13 45) (.seq (rgn TT 13 46) (.seq (rgn TT 13 47) (.seq (rgn TT 13 48) (.seq (rgn TT 13 49) (.seq (rgn TT 13 50) (.seq (rgn TT 13 51) (.seq (rgn TT 13 52) (.seq (rgn TT 13 53) (.seq (.seq (rgn TT 13 54) (.cond (.tmp 298) (rgn TT 13 55) .skip)) (.seq (rgn TT 13 56) (.seq (rgn TT 13 57) (.seq (rgn TT 13 58) (.seq (rgn TT 13 59) (rgn TT 13 60)))))))))))))))))))))) K [(1,.pointer (some ⟨P.rb,0,none⟩)),(2,.pointer (some ⟨P.rc,0,none⟩)),(3,.pointer (some ⟨P.ub,0,none⟩)),(5,.pointer (some ⟨P.kb,0,none⟩)),(6,.pointer (some ⟨P.bb,0,none⟩)),(7,.pointer (some ⟨P.px,0,none⟩)),(10,.pointer (some ⟨P.nx,0,none⟩)),(11,.pointer (some ⟨P.sx,0,none⟩)),(12,.func (.func 34) #[] #[.pointer (some ⟨P.nx,0,none⟩),.pointer (some ⟨P.ub,0,none⟩),.pointer (some ⟨P.kb,0,none⟩),.pointer (some ⟨P.px,0,none⟩),.pointer (some ⟨P.sx,0,none⟩)]),(13,.func (.func 35) #[] #[.pointer (some ⟨P.bb,0,none⟩),.pointer (some ⟨P.ub,0,none⟩)]),(14,.int .i64 (i:Nat))] m (QF Tryd.prog rs A):=by
 intro meth
 have g1:=hb.k1
 have g2:=hb.k2
 have g3:=hb.b
 obtain⟨k,K0⟩:∃ k,s.known.length=k:=⟨_,rfl⟩
 obtain⟨b,L0⟩:∃ b,s.blks.length=b:=⟨_,rfl⟩
 obtain⟨v,V0⟩:∃ v,s.vals.length=v:=⟨_,rfl⟩
 have hb3:b+1+1+1≤90:=by omega
 have hb2:b+1+1≤80:=by omega
 have hv9:v+5≤200:=by omega
 have hkv:k≤v:=by omega
 have hk1:1≤k:=by omega
 obtain⟨m1,kv,x,c1,hx,hy,hz,B1,kt1,la,lb,lx,D1,K1,V1,L1⟩:=h.any hN hb (by omega)
 obtain⟨_,_,_,_,_,_,lN,_⟩:=h.ll
 obtain⟨_,_,_,_,_,_,lN1,_⟩:=B1.ll
 simp [-Int.natCast_add,-w13_39,Zdk _ _ (Zoq _ _),c1,hx,hz,la,lb,lx,lN]
 have w1:IntKind.i64.wrap ((b:Int)+1)=(b:Int)+1:=Zab (by omega) (by omega)
 have w2:IntKind.i64.wrap ((b:Int)+1+1)=(b:Int)+2:=by rw [Zab (by omega) (by omega)];omega
 have w3:IntKind.i64.wrap ((b:Int)+1+2)=(b:Int)+3:=by rw [Zab (by omega) (by omega)];omega
 have ek1:(Zbb P.ops s).1.known.length=k:=by rw [K1];exact K0
 have el1:(Zbb P.ops s).1.blks.length=b:=by rw [L1];exact L0
 have ev1:(Zbb P.ops s).1.vals.length=v:=by rw [V1];exact V0
 obtain⟨E,hE⟩:∃ E,Zla P.ops s=E:=⟨_,rfl⟩
 rw [hE] at meth
 unfold Zla at hE
 dsimp only at hE
 rw [L0] at hE meth
 clear g1 g2 g3 hv hbl K0 V0 L0 hx hy hz la lb lx K1 V1 L1 c1 lN lN1 kt1
 generalize (Zbb P.ops s).1=s1 at *
 generalize (Zbb P.ops s).2=f at *
 obtain⟨m2,T2,c2,B2⟩:=B1.endn hN (by omega) 1 0 [(b:Int)+1] 0
 obtain⟨_,ba1,_,_,lb1,_⟩:=B1.ll
 rw [el1] at c2 lb1
 have c2:Zag Tryd.prog TT S 35 [.agg #[.slice none 0 0,.int .i64 1,.int .i64 0,.slice (some ⟨m1.next,0,none⟩) 1 1,.slice none 0 0,.int .i64 0],.pointer (some ⟨P.bb,0,none⟩),.pointer (some ⟨P.ub,0,none⟩)] (m1.new [.int .i64 ((b:Int)+1)] 3)=some (.int .i64 (b:Nat),m2):=c2
 simp [-Int.natCast_add,-w13_40,Zau Zz5,Za u36 bs3 rfl,lb1,w1,c2]
 simp [-Int.natCast_add,-w13_41,w1]
 have D2:=D1.end 1 0 [(b:Int)+1] 0
 have ek2:(Zbn 1 0 [(b:Int)+1] 0 s1).known.length=k:=ek1
 have ev2:(Zbn 1 0 [(b:Int)+1] 0 s1).vals.length=v:=ev1
 have el2:(Zbn 1 0 [(b:Int)+1] 0 s1).blks.length=b+1:=by simp [Zbn,el1]
 generalize Zbn 1 0 [(b:Int)+1] 0 s1=s2 at *
 obtain⟨m3,T3,e3,B3⟩:=B2.predn [(b:Int),(b:Int)+2]
 have e3:Zaf (m2.new [.int .i64 (b:Int),.int .i64 ((b:Int)+2)] 3) ⟨P.bb,4,none⟩ [.slice (some ⟨m2.next,0,none⟩) 2 2]=some m3:=e3
 simp [-Int.natCast_add,-w13_42,Za u36 bs3 rfl,w2,e3]
 have D3:=D2.bp [(b:Int),(b:Int)+2]
 have ek3:(bpP [(b:Int),(b:Int)+2] s2).known.length=k:=ek2
 have ev3:(bpP [(b:Int),(b:Int)+2] s2).vals.length=v:=ev2
 have el3:(bpP [(b:Int),(b:Int)+2] s2).blks.length=b+1:=el2
 generalize bpP [(b:Int),(b:Int)+2] s2=s3 at *
 clear ek1 ev1 el1 ek2 ev2 el2 D1 D2 B1 B2 c2 e3
 rw [ev3] at hE
 have hb3':=D3.b
 obtain⟨_,_,_,_,_,_,_,lP3,_⟩:=B3.ll
 obtain⟨T3',B3',d3,a3,k3⟩:=B3.ints [f,0] rfl
 obtain⟨m4,T4,c4,B4,a4,k4⟩:=B3'.put hN (by omega) (by omega) ((21,0,0,0,[f,0],0,()):Zbj.D) d3
 have c4:Zag Tryd.prog TT S 31 [.agg #[.int .i64 21,.int .i64 0,.int .i64 0,.int .i64 0,.slice (some ⟨m3.next,0,none⟩) 2 2,.int .i64 0],.pointer (some ⟨P.ub,0,none⟩),.pointer (some ⟨P.bb,0,none⟩)] (m3.new [.int .i64 f,.int .i64 0] 3)=some (.int .i64 (s3.vals.length:Nat),m4):=c4
 rw [ev3] at c4
 simp [-Int.natCast_add,-w13_43,Zau Zr,Za u36 bs3 rfl,lP3,c4]
 have D4:=D3.put ((21,0,0,0,[f,0],0,()):Zbj.D)
 have ek4:(Zbi ((21,0,0,0,[f,0],0,()):Zbj.D) s3).known.length=k:=ek3
 have ev4:(Zbi ((21,0,0,0,[f,0],0,()):Zbj.D) s3).vals.length=v+1:=by simp [Zbi,ev3]
 have el4:(Zbi ((21,0,0,0,[f,0],0,()):Zbj.D) s3).blks.length=b+1:=el3
 generalize Zbi ((21,0,0,0,[f,0],0,()):Zbj.D) s3=s4 at *
 clear ek3 ev3 el3 D3 B3 B3' c4 lP3 d3 a3 k3 a4 k4 hb3'
 obtain⟨m5,kv,x,c5,hx,hy,hz,B5,kt5,la,lb,lx,D5,K5,V5,L5⟩:=B4.any hN D4 (by omega)
 have ek5:(Zbb P.ops s4).1.known.length=k:=by rw [K5];exact ek4
 have el5:(Zbb P.ops s4).1.blks.length=b+1:=by rw [L5];exact el4
 have ev5:(Zbb P.ops s4).1.vals.length=v+1:=by rw [V5];exact ev4
 rw [ev5] at hE
 clear K5 V5 L5
 generalize (Zbb P.ops s4).1=s5 at *
 generalize (Zbb P.ops s4).2=a at *
 obtain⟨_,_,_,_,_,_,lN4,lP4,_⟩:=B4.ll
 obtain⟨_,_,_,_,_,_,lN5,lP5,_⟩:=B5.ll
 have hb5:=D5.b
 obtain⟨T5',B5',d5,a5,k5⟩:=B5.ints [a,(v:Int)] rfl
 obtain⟨_,_,_,_,_,_,_,lP5',_⟩:=B5'.ll
 have lP5':loadRow (m5.new [.int .i64 a,.int .i64 (v:Int)] 3) ⟨P.px,0,none⟩ 1=_:=lP5'
 obtain⟨m6,T6,c6,B6,a6,k6⟩:=B5'.put hN (by omega) (by omega) ((21,0,0,0,[a,(v:Int)],0,()):Zbj.D) d5
 have c6:Zag Tryd.prog TT S 31 [.agg #[.int .i64 21,.int .i64 0,.int .i64 0,.int .i64 0,.slice (some ⟨m5.next,0,none⟩) 2 2,.int .i64 0],.pointer (some ⟨P.ub,0,none⟩),.pointer (some ⟨P.bb,0,none⟩)] (m5.new [.int .i64 a,.int .i64 (v:Int)] 3)=some (.int .i64 (s5.vals.length:Nat),m6):=c6
 rw [ev5] at c6
 simp [-Int.natCast_add,-w13_44,Zau Zr,Za u36 bs3 rfl,Zdk _ _ (Zoq _ _),c5,hx,hz,la,lb,lx,lN4,lP4,lP5,lP5',c6]
 have D6:=D5.put ((21,0,0,0,[a,(v:Int)],0,()):Zbj.D)
 have ek6:(Zbi ((21,0,0,0,[a,(v:Int)],0,()):Zbj.D) s5).known.length=k:=ek5
 have ev6:(Zbi ((21,0,0,0,[a,(v:Int)],0,()):Zbj.D) s5).vals.length=v+2:=by simp [Zbi,ev5]
 have el6:(Zbi ((21,0,0,0,[a,(v:Int)],0,()):Zbj.D) s5).blks.length=b+1:=el5
 have X6:(Zbi ((21,0,0,0,[a,(v:Int)],0,()):Zbj.D) s5).vals[v+1]?=some ((21,0,0,0,[a,(v:Int)],0,()):Zbj.D):=by
  simp only [Zbi]
  rw [List.getElem?_append_right (by omega),ev5,Nat.sub_self]
  rfl
 generalize Zbi ((21,0,0,0,[a,(v:Int)],0,()):Zbj.D) s5=s6 at *
 clear ek4 ev4 el4 ek5 ev5 el5 D4 D5 B4 B5 B5' c5 c6 hx hy hz la lb lx lN4 lN5 lP4 lP5 lP5' d5 a5 k5 a6 k6 kt5 hb5
 obtain⟨ka,l1,_,l3,m7,ka2,m7',T7,e7,l4,e7',B7⟩:=B6.kns B6 (KT.refl (is:=[])) Ag.refl (by simp) rfl (by omega) [(v:Int),((v+1:Nat):Int)] (by simp) (by simp)
 rw [ek6] at l1 e7 l4 e7'
 have e7:Zan Tryd.prog 36 (m6.new [.int .i64 (v:Int),.int .i64 ((v+1:Nat):Int)] 3) (.slice ka k k) [.int .i64 (v:Int),.int .i64 ((v+1:Nat):Int)] 2=some (.slice ka2 (k+2) (k+2),m7):=e7
 have e7':Zaf m7 ⟨P.kb,0,none⟩ [.slice ka2 (k+2) (k+2)]=some m7':=e7'
 simp [-Int.natCast_add,-w13_45,Za u36 bs3 rfl,Za0 u36 sz3,l1,e7,e7']
 have D7:Bd P.ops ({ s6 with known:=s6.known++[(v:Int),((v+1:Nat):Int)] }:Us):=D6.kns (by simp only [List.length_cons,List.length_nil];omega)
 have ek7:(({ s6 with known:=s6.known++[(v:Int),((v+1:Nat):Int)] }:Us):Us).known.length=k+2:=by simp [ek6]
 have ev7:(({ s6 with known:=s6.known++[(v:Int),((v+1:Nat):Int)] }:Us):Us).vals.length=v+2:=ev6
 have el7:(({ s6 with known:=s6.known++[(v:Int),((v+1:Nat):Int)] }:Us):Us).blks.length=b+1:=el6
 have X7:(({ s6 with known:=s6.known++[(v:Int),((v+1:Nat):Int)] }:Us):Us).vals[v+1]?=some ((21,0,0,0,[a,(v:Int)],0,()):Zbj.D):=X6
 generalize (({ s6 with known:=s6.known++[(v:Int),((v+1:Nat):Int)] }:Us):Us)=s7 at *
 clear ek6 ev6 el6 D6 B6 l1 l3 e7 e7' l4 X6
 obtain⟨m8,T8,c8,B8⟩:=B7.state hN D7 (by omega) (by omega)
 obtain⟨_,f1,f2,f3,f4,_,_⟩:=Zc7 (d:=(0,0,0,0,[],0,())) D7
 have D9:=(Zc7 D7 ((23,0,0,0,[],(Zae P.ops s7).2,()):Zbj.D)).1
 have hb8:=D7.b
 obtain⟨_,_,_,_,_,_,_,lP7,lS7⟩:=B7.ll
 obtain⟨_,_,_,_,_,_,_,lP8,lS8⟩:=B8.ll
 obtain⟨m9,T9,c9,B9,_,_⟩:=B8.put hN (by rw [f1];omega) (by rw [f3];omega) ((23,0,0,0,[],(Zae P.ops s7).2,()):Zbj.D) Zdr
 have c9:Zag Tryd.prog TT S 31 [.agg #[.int .i64 23,.int .i64 0,.int .i64 0,.int .i64 0,.slice none 0 0,.int .i64 (Zae P.ops s7).2],.pointer (some ⟨P.ub,0,none⟩),.pointer (some ⟨P.bb,0,none⟩)] m8=some (.int .i64 ((Zae P.ops s7).1.vals.length:Nat),m9):=c9
 simp [-Int.natCast_add,-w13_46,Zau Zr,Zdk _ _ (Zoq _ _),Zdk _ _ (Yae _ _ _),lP7,lP8,lS7,c8,c9]
 have ek9:(Zbi ((23,0,0,0,[],(Zae P.ops s7).2,()):Zbj.D) (Zae P.ops s7).1).known.length=k+2:=by simp only [Zbi];rw [f2];exact ek7
 have ev9:(Zbi ((23,0,0,0,[],(Zae P.ops s7).2,()):Zbj.D) (Zae P.ops s7).1).vals.length=v+3:=by simp only [Zbi,List.length_append,List.length_cons,List.length_nil];rw [f1];omega
 have el9:(Zbi ((23,0,0,0,[],(Zae P.ops s7).2,()):Zbj.D) (Zae P.ops s7).1).blks.length=b+1:=by simp only [Zbi];rw [f4];exact el7
 have X9:(Zbi ((23,0,0,0,[],(Zae P.ops s7).2,()):Zbj.D) (Zae P.ops s7).1).vals[v+1]?=some ((21,0,0,0,[a,(v:Int)],0,()):Zbj.D):=by simp only [Zbi];rw [f1];exact Zoh X7
 generalize Zbi ((23,0,0,0,[],(Zae P.ops s7).2,()):Zbj.D) (Zae P.ops s7).1=s9 at *
 clear ek7 ev7 el7 X7 D7 B7 B8 c8 c9 lP7 lP8 lS7 lS8 f1 f2 f3 f4 hb8
 rw [ev9] at hE
 have hb9:=D9.b
 obtain⟨_,_,_,_,_,_,_,lP9,_⟩:=B9.ll
 obtain⟨m10,T10,c10,B10,_,_⟩:=B9.put hN (by omega) (by omega) ((2,0,0,1,[],0,()):Zbj.D) Zdr
 have c10:Zag Tryd.prog TT S 31 [.agg #[.int .i64 2,.int .i64 0,.int .i64 0,.int .i64 1,.slice none 0 0,.int .i64 0],.pointer (some ⟨P.ub,0,none⟩),.pointer (some ⟨P.bb,0,none⟩)] m9=some (.int .i64 (s9.vals.length:Nat),m10):=c10
 rw [ev9] at c10
 simp [-Int.natCast_add,-w13_47,Zau Zr,lP9,c10]
 have D10:=D9.put ((2,0,0,1,[],0,()):Zbj.D)
 have ek10:(Zbi ((2,0,0,1,[],0,()):Zbj.D) s9).known.length=k+2:=ek9
 have ev10:(Zbi ((2,0,0,1,[],0,()):Zbj.D) s9).vals.length=v+4:=by simp [Zbi,ev9]
 have el10:(Zbi ((2,0,0,1,[],0,()):Zbj.D) s9).blks.length=b+1:=el9
 have X10:(Zbi ((2,0,0,1,[],0,()):Zbj.D) s9).vals[v+1]?=some ((21,0,0,0,[a,(v:Int)],0,()):Zbj.D):=Zoh X9
 generalize Zbi ((2,0,0,1,[],0,()):Zbj.D) s9=s10 at *
 clear ek9 ev9 el9 X9 D9 B9 c10 lP9 hb9
 rw [ev10] at hE
 have hb10:=D10.b
 obtain⟨_,_,_,_,_,_,_,lP10,_⟩:=B10.ll
 obtain⟨m11,T11,c11,B11,_,_⟩:=B10.put hN (by omega) (by omega) ((4,(v:Int),((v+3:Nat):Int),0,[],0,()):Zbj.D) Zdr
 have c11:Zag Tryd.prog TT S 31 [.agg #[.int .i64 4,.int .i64 (v:Int),.int .i64 ((v+3:Nat):Int),.int .i64 0,.slice none 0 0,.int .i64 0],.pointer (some ⟨P.ub,0,none⟩),.pointer (some ⟨P.bb,0,none⟩)] m10=some (.int .i64 (s10.vals.length:Nat),m11):=c11
 rw [ev10] at c11
 simp [-Int.natCast_add,-w13_48,Zau Zr,lP10,c11]
 have ekp:(Zbi ((4,(v:Int),((v+3:Nat):Int),0,[],0,()):Zbj.D) s10).known.length=k+2:=ek10
 obtain⟨ka,l1,_,l3,m12,ka2,mb,T12,e12,l4,e12',B12⟩:=B11.kns B11 (KT.refl (is:=[])) Ag.refl (by simp) rfl (by omega) [((v+4:Nat):Int)] (by simp) (by simp)
 rw [ekp] at l1 e12 l4 e12'
 have e12:Zan Tryd.prog 36 (m11.new [.int .i64 ((v+4:Nat):Int)] 3) (.slice ka (k+2) (k+2)) [.int .i64 ((v+4:Nat):Int)] 1=some (.slice ka2 (k+2+1) (k+2+1),m12):=e12
 have e12':Zaf m12 ⟨P.kb,0,none⟩ [.slice ka2 (k+2+1) (k+2+1)]=some mb:=e12'
 have eK:knP ((4,(v:Int),((v+3:Nat):Int),0,[],0,()):Zbj.D) s10={ Zbi ((4,(v:Int),((v+3:Nat):Int),0,[],0,()):Zbj.D) s10 with known:=(Zbi ((4,(v:Int),((v+3:Nat):Int),0,[],0,()):Zbj.D) s10).known++[((v+4:Nat):Int)] }:=by unfold knP;rw [ev10];rfl
 rw [← eK] at B12
 simp [-Int.natCast_add,-w13_49,Za u36 bs3 rfl,Za0 u36 sz3,l1,e12,e12']
 have D12:=D10.kn ((4,(v:Int),((v+3:Nat):Int),0,[],0,()):Zbj.D)
 have ek12:(knP ((4,(v:Int),((v+3:Nat):Int),0,[],0,()):Zbj.D) s10).known.length=k+3:=by simp [knP,ek10]
 have ev12:(knP ((4,(v:Int),((v+3:Nat):Int),0,[],0,()):Zbj.D) s10).vals.length=v+5:=by simp [knP,Zbi,ev10]
 have el12:(knP ((4,(v:Int),((v+3:Nat):Int),0,[],0,()):Zbj.D) s10).blks.length=b+1:=el10
 have X12:(knP ((4,(v:Int),((v+3:Nat):Int),0,[],0,()):Zbj.D) s10).vals[v+1]?=some ((21,0,0,0,[a,(v:Int)],0,()):Zbj.D):=Zoh X10
 generalize knP ((4,(v:Int),((v+3:Nat):Int),0,[],0,()):Zbj.D) s10=s12 at *
 clear ek10 ev10 el10 X10 D10 B10 B11 c11 lP10 hb10 ekp l1 l3 e12 e12' l4 eK
 obtain⟨m13,T13,c13,B13⟩:=B12.endn hN (by omega) 2 (v:Int) [(b:Int)+2,(b:Int)+3] 0
 rw [el12] at c13
 have c13:Zag Tryd.prog TT S 35 [.agg #[.slice none 0 0,.int .i64 2,.int .i64 (v:Int),.slice (some ⟨mb.next,0,none⟩) 2 2,.slice none 0 0,.int .i64 0],.pointer (some ⟨P.bb,0,none⟩),.pointer (some ⟨P.ub,0,none⟩)] (mb.new [.int .i64 ((b:Int)+2),.int .i64 ((b:Int)+3)] 3)=some (.int .i64 ((b+1:Nat):Int),m13):=c13
 simp [-Int.natCast_add,-w13_50,Zau Zz5,Za u36 bs3 rfl,w2,w3,c13]
 have D13:=D12.end 2 (v:Int) [(b:Int)+2,(b:Int)+3] 0
 have ek13:(Zbn 2 (v:Int) [(b:Int)+2,(b:Int)+3] 0 s12).known.length=k+3:=ek12
 have ev13:(Zbn 2 (v:Int) [(b:Int)+2,(b:Int)+3] 0 s12).vals.length=v+5:=ev12
 have el13:(Zbn 2 (v:Int) [(b:Int)+2,(b:Int)+3] 0 s12).blks.length=b+1+1:=by simp [Zbn,el12]
 have X13:(Zbn 2 (v:Int) [(b:Int)+2,(b:Int)+3] 0 s12).vals[v+1]?=some ((21,0,0,0,[a,(v:Int)],0,()):Zbj.D):=X12
 rw [ek13] at hE
 generalize Zbn 2 (v:Int) [(b:Int)+2,(b:Int)+3] 0 s12=s13 at *
 clear ek12 ev12 el12 X12 D12 B12 c13
 obtain⟨ka,_,_,lk13,_⟩:=B13.ll
 rw [ek13] at lk13
 simp [-Int.natCast_add,-w13_51,lk13]
 obtain⟨m14,T14,e14,B14⟩:=B13.predn [(b:Int)+1]
 have e14:Zaf (m13.new [.int .i64 ((b:Int)+1)] 3) ⟨P.bb,4,none⟩ [.slice (some ⟨m13.next,0,none⟩) 1 1]=some m14:=e14
 simp [-Int.natCast_add,-w13_52,Za u36 bs3 rfl,e14]
 have D14:=D13.bp [(b:Int)+1]
 have ek14:(bpP [(b:Int)+1] s13).known.length=k+3:=ek13
 have ev14:(bpP [(b:Int)+1] s13).vals.length=v+5:=ev13
 have el14:(bpP [(b:Int)+1] s13).blks.length=b+1+1:=el13
 have X14:(bpP [(b:Int)+1] s13).vals[v+1]?=some ((21,0,0,0,[a,(v:Int)],0,()):Zbj.D):=X13
 generalize bpP [(b:Int)+1] s13=s14 at *
 clear ek13 ev13 el13 X13 D13 B13 e14 lk13
 obtain⟨v15,m15,T15,c15,B15,D15,V15,L15⟩:=B14.row hN D14 (by omega) (by omega)
 simp [-Int.natCast_add,-w13_53,c15]
 have ek15:=Zie D14
 obtain⟨lv,V15'⟩:=Zzr D14
 have X15:(Zfx P.ops s14).vals[v+1]?=some ((21,0,0,0,[a,(v:Int)],0,()):Zbj.D):=by rw [V15'];exact Zoh X14
 have ev15:v+5≤(Zfx P.ops s14).vals.length:=by rw [V15',List.length_append];omega
 have ew15:(Zfx P.ops s14).vals.length≤200:=by omega
 have el15:(Zfx P.ops s14).blks.length=b+1+1:=by rw [L15];exact el14
 rw [ek14] at ek15
 clear V15' V15 L15 c15
 generalize Zfx P.ops s14=s15 at *
 clear ek14 ev14 el14 X14 D14 B14
 have hvl:v < s15.vals.length:=by omega
 have hvi:(v:Int) < s15.vals.length:=by omega
 have hvj:(v:Int)≤9223372036854775807:=by omega
 obtain⟨va,l1,m16,T16,e16,B16⟩:=B15.args hvl [f,((v+4:Nat):Int)]
 have e16:Zaf (m15.new [.int .i64 f,.int .i64 ((v+4:Nat):Int)] 3) ⟨va,v * 6+4,none⟩ [.slice (some ⟨m15.next,0,none⟩) 2 2]=some m16:=e16
 simp [-Int.natCast_add,-w13_54,Za u36 bs3 rfl,l1,hvl,hvj,e16]
 simp only [Int.toNat_natCast] at hE
 have D16:=D15.sets v [f,((v+4:Nat):Int)]
 obtain⟨f1,f2,f3,_,_,_⟩:=Zf0 (s:=s15) (p:=v) (l:=[f,((v+4:Nat):Int)])
 have X16:=Zmg (l:=[f,((v+4:Nat):Int)]) X15 (p:=v) (by omega)
 have ek16:k+3≤(Za9 v [f,((v+4:Nat):Int)] s15).known.length:=by rw [f2];exact ek15
 have ew16:(Za9 v [f,((v+4:Nat):Int)] s15).vals.length≤200:=by rw [f1];exact ew15
 have ev16:v+5≤(Za9 v [f,((v+4:Nat):Int)] s15).vals.length:=by rw [f1];exact ev15
 have el16:(Za9 v [f,((v+4:Nat):Int)] s15).blks.length=b+1+1:=by rw [f3];exact el15
 clear f1 f2 f3
 generalize Za9 v [f,((v+4:Nat):Int)] s15=s16 at *
 clear ek15 ev15 ew15 el15 X15 D15 B15 hvl hvi e16 l1
 obtain⟨m17,c17,B17⟩:=B16.next hN D16 (k:=3) (by omega) (by omega)
 have D17:=D16.next 3
 obtain⟨_,_,_,_,_,_,lN16,_⟩:=B16.ll
 obtain⟨f1,_,f3,_,f5,_⟩:=Za7 (ops:=P.ops) (s:=s16) 3
 have ek17:k+3≤(Zar P.ops 3 s16).1.known.length:=by rw [f1];exact ek16
 have ew17:(Zar P.ops 3 s16).1.vals.length≤200:=by rw [f3];exact ew16
 have ev17:v+5≤(Zar P.ops 3 s16).1.vals.length:=by rw [f3];exact ev16
 have el17:(Zar P.ops 3 s16).1.blks.length=b+1+1:=by rw [f5];exact el16
 have X17:(Zar P.ops 3 s16).1.vals[v+1]?=some ((21,0,0,0,[a,(v:Int)],0,()):Zbj.D):=by rw [f3];exact X16
 clear f1 f3 f5
 generalize (Zar P.ops 3 s16).1=s17 at *
 generalize (Zar P.ops 3 s16).2=n at *
 clear ek16 ev16 ew16 el16 X16 D16 B16
 have fin:∀ (s18:Us) (m18:Mem) (T18:Tg),UB m0 T18 m18 P s18→Bd P.ops s18→s18.vals.length≤200→s18.blks.length=b+1+1→k+3≤s18.known.length→s18.vals[v+1]?=some ((21,0,0,0,[a,(v:Int)],0,()):Zbj.D)→Znj P.ops (v+1) a (k+3) ((b:Int)+1) s18=E→
   W Tryd.prog TT S 86 [126,209,298] (.seq (rgn TT 13 56) (.seq (rgn TT 13 57) (.seq (rgn TT 13 58) (.seq (rgn TT 13 59) (rgn TT 13 60))))) K [(1,.pointer (some ⟨P.rb,0,none⟩)),(2,.pointer (some ⟨P.rc,0,none⟩)),(3,.pointer (some ⟨P.ub,0,none⟩)),(5,.pointer (some ⟨P.kb,0,none⟩)),(6,.pointer (some ⟨P.bb,0,none⟩)),(7,.pointer (some ⟨P.px,0,none⟩)),(10,.pointer (some ⟨P.nx,0,none⟩)),(11,.pointer (some ⟨P.sx,0,none⟩)),(12,.func (.func 34) #[] #[.pointer (some ⟨P.nx,0,none⟩),.pointer (some ⟨P.ub,0,none⟩),.pointer (some ⟨P.kb,0,none⟩),.pointer (some ⟨P.px,0,none⟩),.pointer (some ⟨P.sx,0,none⟩)]),(13,.func (.func 35) #[] #[.pointer (some ⟨P.bb,0,none⟩),.pointer (some ⟨P.ub,0,none⟩)]),(14,.int .i64 (i:Nat)),(24,.int .i64 ((b:Int)+1)),(26,.int .i64 ((v+1:Nat):Int)),(29,.int .i64 ((k+3:Nat):Int))] m18 (QF Tryd.prog rs A):=by
  intro s18 m18 T18 B18 D18 ev18 el18 ek18 X18 hE
  obtain⟨hq,hx⟩:=List.getElem?_eq_some_iff.1 X18
  refine Zx9 hN B18 D18 (Nat.le_trans ev18 (by decide)) (by rw [el18];exact hb2) (y:=(v:Int)) hq (by rw [hx]) ek18 (by omega) ?_
  rw [hE]
  exact fun m1 T1 h1 h2 h3 h4=>meth m1 T1 h1 h2 (by rw [h3,el18];omega) h4
 clear meth
 by_cases hn:n=0
 ·rw [if_pos hn] at hE
  have g1:=D17.k1
  have g2:=D17.k2
  obtain⟨kv,lk,ll⟩:=B17.last g1
  have hvl:v < s17.vals.length:=by omega
  have hvi:(v:Int) < s17.vals.length:=by omega
  obtain⟨va,l1,m18,T18,e18,B18⟩:=B17.args hvl [f,Zcw s17]
  have e18:Zaf (m17.new [.int .i64 f,.int .i64 (Zcw s17)] 3) ⟨va,v * 6+4,none⟩ [.slice (some ⟨m17.next,0,none⟩) 2 2]=some m18:=e18
  have l1n:=(B17.lvn [.int .i64 f,.int .i64 (Zcw s17)] 3).trans l1
  obtain⟨N,hN1⟩:∃ n,s17.known.length=n+1:=⟨s17.known.length - 1,by omega⟩
  rw [hN1] at lk ll
  rw [Nat.add_sub_cancel] at ll
  have wn:IntKind.i64.wrap (((N+1:Nat):Int) - 1)=(N:Int):=by rw [Zab (by omega) (by omega)];omega
  have x1:N < N+1:=by omega
  have x2:(N:Int) < (N+1:Nat):=by omega
  have x3:(N:Int)≤9223372036854775807:=by omega
  obtain⟨f1,f2,f3,_,_,_⟩:=Zf0 (s:=s17) (p:=v) (l:=[f,Zcw s17])
  have H:=fin _ m18 T18 B18 (D17.sets v _) (by rw [f1];exact ew17) (by rw [f3];exact el17) (by rw [f2];exact ek17) (Zmg X17 (by omega)) hE
  simp [-Int.natCast_add,-w13_56,Za u36 bs3 rfl,lN16,c17,hn,l1,l1n,lk,ll,wn,x1,x3,hvl,hvj,e18]
  exact (Zof _ _).1 (Ze4 (E:=[(1,.pointer (some ⟨P.rb,0,none⟩)),(2,.pointer (some ⟨P.rc,0,none⟩)),(3,.pointer (some ⟨P.ub,0,none⟩)),(5,.pointer (some ⟨P.kb,0,none⟩)),(6,.pointer (some ⟨P.bb,0,none⟩)),(7,.pointer (some ⟨P.px,0,none⟩)),(10,.pointer (some ⟨P.nx,0,none⟩)),(11,.pointer (some ⟨P.sx,0,none⟩)),(12,.func (.func 34) #[] #[.pointer (some ⟨P.nx,0,none⟩),.pointer (some ⟨P.ub,0,none⟩),.pointer (some ⟨P.kb,0,none⟩),.pointer (some ⟨P.px,0,none⟩),.pointer (some ⟨P.sx,0,none⟩)]),(13,.func (.func 35) #[] #[.pointer (some ⟨P.bb,0,none⟩),.pointer (some ⟨P.ub,0,none⟩)]),(14,.int .i64 (i:Nat)),(24,.int .i64 ((b:Int)+1)),(26,.int .i64 ((v+1:Nat):Int)),(29,.int .i64 ((k+3:Nat):Int))]) H (by repeat' constructor))
 ·rw [if_neg hn] at hE
  have H:=fin _ m17 _ B17 D17 ew17 el17 ek17 X17 hE
  simp [-Int.natCast_add,-w13_56,lN16,c17,hn]
  exact (Zof _ _).1 (Ze4 (E:=[(1,.pointer (some ⟨P.rb,0,none⟩)),(2,.pointer (some ⟨P.rc,0,none⟩)),(3,.pointer (some ⟨P.ub,0,none⟩)),(5,.pointer (some ⟨P.kb,0,none⟩)),(6,.pointer (some ⟨P.bb,0,none⟩)),(7,.pointer (some ⟨P.px,0,none⟩)),(10,.pointer (some ⟨P.nx,0,none⟩)),(11,.pointer (some ⟨P.sx,0,none⟩)),(12,.func (.func 34) #[] #[.pointer (some ⟨P.nx,0,none⟩),.pointer (some ⟨P.ub,0,none⟩),.pointer (some ⟨P.kb,0,none⟩),.pointer (some ⟨P.px,0,none⟩),.pointer (some ⟨P.sx,0,none⟩)]),(13,.func (.func 35) #[] #[.pointer (some ⟨P.bb,0,none⟩),.pointer (some ⟨P.ub,0,none⟩)]),(14,.int .i64 (i:Nat)),(24,.int .i64 ((b:Int)+1)),(26,.int .i64 ((v+1:Nat):Int)),(29,.int .i64 ((k+3:Nat):Int))]) H (by repeat' constructor))
end Go.Proofs.YtlogdohlcdhepaaDoor.base
end
