/- This text proves what turnstonehand.Unit does, Zb1 the abstract run: a diamond. Condition: nothing is known of the calls ahead ('S f = []'). -/
import Derived.Test.YtcgmchechmbmeaaDoorM12
set_option linter.unusedVariables false
set_option linter.unusedSimpArgs false
section
set_option maxRecDepth 100000
namespace Go.Proofs.YtcgmchechmbmeaaDoor.base
open Go.Sh gen
variable {S:Zb7}{T T':Tg}{m0 m m1 m2:Mem}{is js:List Nat}{s s1:Us}{P:Pl}
set_option maxHeartbeats 8000000 in
theorem Z4n (hN:Nq S)(h:UB m0 T m P s)(hb:Bd P.ops s)(hv:s.vals.length < 160)(hbl:s.blks.length≤20){K:List Fr}{rs:List ResultVar}{A:Value→Mem→Prop}{i:Nat} :
  (∀ m1 T1,UB m0 T1 m1 P (Zw0 P.ops s)→Bd P.ops (Zw0 P.ops s)→(Zw0 P.ops s).blks.length≤s.blks.length+3→(Zw0 P.ops s).vals.length≤300→W Tryd.prog TT S 86 [126,209,298] .skip K [(1,.pointer (some ⟨P.rb,0,none⟩)),(2,.pointer (some ⟨P.rc,0,none⟩)),(3,.pointer (some ⟨P.ub,0,none⟩)),(5,.pointer (some ⟨P.kb,0,none⟩)),(6,.pointer (some ⟨P.bb,0,none⟩)),(7,.pointer (some ⟨P.px,0,none⟩)),(10,.pointer (some ⟨P.nx,0,none⟩)),(11,.pointer (some ⟨P.sx,0,none⟩)),(12,.func (.func 22) #[] #[.pointer (some ⟨P.nx,0,none⟩),.pointer (some ⟨P.ub,0,none⟩),.pointer (some ⟨P.kb,0,none⟩),.pointer (some ⟨P.px,0,none⟩),.pointer (some ⟨P.sx,0,none⟩)]),(13,.func (.func 23) #[] #[.pointer (some ⟨P.bb,0,none⟩),.pointer (some ⟨P.ub,0,none⟩)]),(14,.int .i64 (i:Nat))] m1 (QF Tryd.prog rs A))→
  W Tryd.prog TT S 86 [126,209,298] (.seq (rgn TT 7 21) (.seq (rgn TT 7 22) (.seq (rgn TT 7 23) (.seq (rgn TT 7 24) (.seq (rgn TT 7 25) (.seq (rgn TT 7 26) (.seq (rgn TT 7 27) (.seq (rgn TT 7 28) (.seq (rgn TT 7 29) (.seq (rgn TT 7 30) (.seq (rgn TT 7 31) (.seq (rgn TT 7 32) (.seq (rgn TT 7 33) (.seq (rgn TT 7 34) (.seq (rgn TT 7 35) (rgn TT 7 36)))))))))))))))) K [(1,.pointer (some ⟨P.rb,0,none⟩)),(2,.pointer (some ⟨P.rc,0,none⟩)),(3,.pointer (some ⟨P.ub,0,none⟩)),(5,.pointer (some ⟨P.kb,0,none⟩)),(6,.pointer (some ⟨P.bb,0,none⟩)),(7,.pointer (some ⟨P.px,0,none⟩)),(10,.pointer (some ⟨P.nx,0,none⟩)),(11,.pointer (some ⟨P.sx,0,none⟩)),(12,.func (.func 22) #[] #[.pointer (some ⟨P.nx,0,none⟩),.pointer (some ⟨P.ub,0,none⟩),.pointer (some ⟨P.kb,0,none⟩),.pointer (some ⟨P.px,0,none⟩),.pointer (some ⟨P.sx,0,none⟩)]),(13,.func (.func 23) #[] #[.pointer (some ⟨P.bb,0,none⟩),.pointer (some ⟨P.ub,0,none⟩)]),(14,.int .i64 (i:Nat))] m (QF Tryd.prog rs A):=by
 intro meth
 have g1:=hb.k1
 have g2:=hb.k2
 obtain⟨k,K0⟩:∃ k,s.known.length=k:=⟨_,rfl⟩
 obtain⟨b,L0⟩:∃ b,s.blks.length=b:=⟨_,rfl⟩
 have hb3:b+1+1+1≤90:=by omega
 obtain⟨m1,kv,x,c1,hx,hy,hz,B1,kt1,la,lb,lx,D1,K1,V1,L1⟩:=h.any hN hb (by omega)
 obtain⟨_,_,_,_,_,_,lN,_⟩:=h.ll
 obtain⟨_,_,_,_,_,_,lN1,_⟩:=B1.ll
 simp [-Int.natCast_add,-w7_22,Zdl _ _ (Zpt _ _),c1,hx,hz,la,lb,lx,lN]
 have w1:IntKind.i64.wrap ((b:Int)+1)=(b:Int)+1:=Zab (by omega) (by omega)
 have w2:IntKind.i64.wrap ((b:Int)+2)=(b:Int)+2:=Zab (by omega) (by omega)
 have ek:(Zbc P.ops s).1.known.length=k:=by rw [K1];exact K0
 have el:(Zbc P.ops s).1.blks.length=b:=by rw [L1];exact L0
 have ev:(Zbc P.ops s).1.vals.length < 160:=by rw [V1];exact hv
 obtain⟨E,hE⟩:∃ E,Zw0 P.ops s=E:=⟨_,rfl⟩
 rw [hE] at meth
 unfold Zw0 at hE
 dsimp only at hE
 rw [L0,K0] at hE
 rw [K0] at lb
 generalize (Zbc P.ops s).1=s1 at *
 generalize (Zbc P.ops s).2=cv at *
 clear K1 V1 L1 lx
 obtain⟨m2,T2,c2,B2⟩:=B1.endn hN (by omega) 2 cv [(b:Int)+1,(b:Int)+2] 0
 obtain⟨_,ba1,_,_,lb1,_⟩:=B1.ll
 rw [el] at c2 lb1
 have c2:Zaq Tryd.prog TT S 23 [.agg #[.slice none 0 0,.int .i64 2,.int .i64 cv,.slice (some ⟨m1.next,0,none⟩) 2 2,.slice none 0 0,.int .i64 0],.pointer (some ⟨P.bb,0,none⟩),.pointer (some ⟨P.ub,0,none⟩)] (m1.new [.int .i64 ((b:Int)+1),.int .i64 ((b:Int)+2)] 3)=some (.int .i64 (b:Nat),m2):=c2
 simp [-Int.natCast_add,-w7_23,lb]
 simp [-Int.natCast_add,-w7_24,Za2 Zym,Za u22 bs3 rfl,lb1,w1,w2,c2]
 have D2:=D1.end 2 cv [(b:Int)+1,(b:Int)+2] 0
 have ek2:(Zbp 2 cv [(b:Int)+1,(b:Int)+2] 0 s1).known.length=k:=ek
 have ev2:(Zbp 2 cv [(b:Int)+1,(b:Int)+2] 0 s1).vals.length < 160:=ev
 have el2:(Zbp 2 cv [(b:Int)+1,(b:Int)+2] 0 s1).blks.length=b+1:=by simp [Zbp,el]
 generalize Zbp 2 cv [(b:Int)+1,(b:Int)+2] 0 s1=s2 at *
 obtain⟨m3,T3,e3,B3⟩:=B2.predn [(b:Int)]
 have e3:Zad (m2.new [.int .i64 (b:Int)] 3) ⟨P.bb,4,none⟩ [.slice (some ⟨m2.next,0,none⟩) 1 1]=some m3:=e3
 simp [-Int.natCast_add,-w7_25,Za u22 bs3 rfl,e3]
 have D3:=D2.bp [(b:Int)]
 have ek3:(bpP [(b:Int)] s2).known.length=k:=ek2
 have ev3:(bpP [(b:Int)] s2).vals.length < 160:=ev2
 have el3:(bpP [(b:Int)] s2).blks.length=b+1:=el2
 generalize bpP [(b:Int)] s2=s3 at *
 obtain⟨v4,m4,T4,c4,B4,D4,V4,L4⟩:=B3.row hN D3 (by omega) (by omega)
 have ek4:=Zit D3
 rw [ek3] at ek4
 have el4:(Zf0 P.ops s3).blks.length=b+1:=by rw [L4];exact el3
 have ev4:(Zf0 P.ops s3).vals.length≤200:=by omega
 clear L4 V4
 simp [-Int.natCast_add,-w7_26,c4]
 generalize Zf0 P.ops s3=s4 at *
 have j4:=D4.k1
 have j4':=D4.k2
 obtain⟨kv4,lk4,ll4⟩:=B4.last j4
 obtain⟨n4,hn4⟩:∃ n,s4.known.length=n+1:=⟨s4.known.length - 1,by omega⟩
 rw [hn4] at lk4 ll4
 rw [Nat.add_sub_cancel] at ll4
 have wn4:IntKind.i64.wrap (((n4+1:Nat):Int) - 1)=(n4:Int):=by rw [Zab (by omega) (by omega)];omega
 have x4:n4 < n4+1:=by omega
 have y4:(n4:Int) < (n4+1:Nat):=by omega
 have z4:(n4:Int)≤9223372036854775807:=by omega
 generalize hla4:Zcw s4=la4 at *
 simp [-Int.natCast_add,-w7_27,lk4,ll4,wn4,x4,z4]
 obtain⟨kw5,l5,m5,e5,B5⟩:=B4.cut ek4 (by omega)
 have B5:UB m0 T4 m5 P (Zgs k s4):=B5
 rw [hn4] at l5
 have hk5:(k:Int)≤(n4+1:Nat):=by omega
 have hk5':k≤n4+1:=by omega
 have hk5'':(k:Int)≤9223372036854775807:=by omega
 simp [-Int.natCast_add,-w7_28,Zcd u22 sz3,l5,hk5',hk5'',e5]
 have D5:=D4.cut (k:=k) (by omega)
 have ev5:(Zgs k s4).vals.length≤200:=ev4
 have el5:(Zgs k s4).blks.length=b+1:=el4
 have ek5:(Zgs k s4).known.length=k:=by simp only [Zgs,List.length_take];omega
 rw [el4] at hE
 generalize Zgs k s4=s5 at *
 obtain⟨_,ba5,_,_,lb5,_⟩:=B5.ll
 rw [el5] at lb5
 have wb5:IntKind.i64.wrap (((b+1:Nat):Int)+2)=((b+1:Nat):Int)+2:=Zab (by omega) (by omega)
 obtain⟨m6,T6,c6,B6⟩:=B5.endn hN (by omega) 1 0 [((b+1:Nat):Int)+2] 0
 rw [el5] at c6
 have c6:Zaq Tryd.prog TT S 23 [.agg #[.slice none 0 0,.int .i64 1,.int .i64 0,.slice (some ⟨m5.next,0,none⟩) 1 1,.slice none 0 0,.int .i64 0],.pointer (some ⟨P.bb,0,none⟩),.pointer (some ⟨P.ub,0,none⟩)] (m5.new [.int .i64 (((b+1:Nat):Int)+2)] 3)=some (.int .i64 ((b+1:Nat):Int),m6):=c6
 simp [-Int.natCast_add,-w7_29,Za2 Zym,Za u22 bs3 rfl,lb5,wb5,c6]
 have D6:=D5.end 1 0 [((b+1:Nat):Int)+2] 0
 have ek6:(Zbp 1 0 [((b+1:Nat):Int)+2] 0 s5).known.length=k:=ek5
 have ev6:(Zbp 1 0 [((b+1:Nat):Int)+2] 0 s5).vals.length≤200:=ev5
 have el6:(Zbp 1 0 [((b+1:Nat):Int)+2] 0 s5).blks.length=b+1+1:=by simp [Zbp,el5]
 generalize Zbp 1 0 [((b+1:Nat):Int)+2] 0 s5=s6 at *
 obtain⟨m7,T7,e7,B7⟩:=B6.predn [(b:Int)]
 have e7:Zad (m6.new [.int .i64 (b:Int)] 3) ⟨P.bb,4,none⟩ [.slice (some ⟨m6.next,0,none⟩) 1 1]=some m7:=e7
 simp [-Int.natCast_add,-w7_30,Za u22 bs3 rfl,e7]
 have D7:=D6.bp [(b:Int)]
 have ek7:(bpP [(b:Int)] s6).known.length=k:=ek6
 have ev7:(bpP [(b:Int)] s6).vals.length≤200:=ev6
 have el7:(bpP [(b:Int)] s6).blks.length=b+1+1:=el6
 generalize bpP [(b:Int)] s6=s7 at *
 obtain⟨v8,m8,T8,c8,B8,D8,V8,L8⟩:=B7.row hN D7 (by omega) (by omega)
 have ek8:=Zit D7
 rw [ek7] at ek8
 have el8:(Zf0 P.ops s7).blks.length=b+1+1:=by rw [L8];exact el7
 have ev8:(Zf0 P.ops s7).vals.length≤200:=by omega
 clear L8 V8
 simp [-Int.natCast_add,-w7_31,c8]
 generalize Zf0 P.ops s7=s8 at *
 have j8:=D8.k1
 have j8':=D8.k2
 obtain⟨kv8,lk8,ll8⟩:=B8.last j8
 obtain⟨n8,hn8⟩:∃ n,s8.known.length=n+1:=⟨s8.known.length - 1,by omega⟩
 rw [hn8] at lk8 ll8
 rw [Nat.add_sub_cancel] at ll8
 have wn8:IntKind.i64.wrap (((n8+1:Nat):Int) - 1)=(n8:Int):=by rw [Zab (by omega) (by omega)];omega
 have x8:n8 < n8+1:=by omega
 have y8:(n8:Int) < (n8+1:Nat):=by omega
 have z8:(n8:Int)≤9223372036854775807:=by omega
 generalize hla8:Zcw s8=la8 at *
 simp [-Int.natCast_add,-w7_32,lk8,ll8,wn8,x8,z8]
 obtain⟨kw9,l9,m9,e9,B9⟩:=B8.cut ek8 (by omega)
 have B9:UB m0 T8 m9 P (Zgs k s8):=B9
 rw [hn8] at l9
 have hk9:(k:Int)≤(n8+1:Nat):=by omega
 have hk9':k≤n8+1:=by omega
 have hk9'':(k:Int)≤9223372036854775807:=by omega
 simp [-Int.natCast_add,-w7_33,Zcd u22 sz3,l9,hk9',hk9'',e9]
 have D9:=D8.cut (k:=k) (by omega)
 have ev9:(Zgs k s8).vals.length≤200:=ev8
 have el9:(Zgs k s8).blks.length=b+1+1:=el8
 have ek9:(Zgs k s8).known.length=k:=by simp only [Zgs,List.length_take];omega
 rw [el8] at hE
 generalize Zgs k s8=s9 at *
 obtain⟨_,ba9,_,_,lb9,_⟩:=B9.ll
 rw [el9] at lb9
 have wb9:IntKind.i64.wrap (((b+1+1:Nat):Int)+1)=((b+1+1:Nat):Int)+1:=Zab (by omega) (by omega)
 obtain⟨m10,T10,c10,B10⟩:=B9.endn hN (by omega) 1 0 [((b+1+1:Nat):Int)+1] 0
 rw [el9] at c10
 have c10:Zaq Tryd.prog TT S 23 [.agg #[.slice none 0 0,.int .i64 1,.int .i64 0,.slice (some ⟨m9.next,0,none⟩) 1 1,.slice none 0 0,.int .i64 0],.pointer (some ⟨P.bb,0,none⟩),.pointer (some ⟨P.ub,0,none⟩)] (m9.new [.int .i64 (((b+1+1:Nat):Int)+1)] 3)=some (.int .i64 ((b+1+1:Nat):Int),m10):=c10
 simp [-Int.natCast_add,-w7_34,Za2 Zym,Za u22 bs3 rfl,lb9,wb9,c10]
 have D10:=D9.end 1 0 [((b+1+1:Nat):Int)+1] 0
 have ek10:(Zbp 1 0 [((b+1+1:Nat):Int)+1] 0 s9).known.length=k:=ek9
 have ev10:(Zbp 1 0 [((b+1+1:Nat):Int)+1] 0 s9).vals.length≤200:=ev9
 have el10:(Zbp 1 0 [((b+1+1:Nat):Int)+1] 0 s9).blks.length=b+1+1+1:=by simp [Zbp,el9]
 generalize Zbp 1 0 [((b+1+1:Nat):Int)+1] 0 s9=s10 at *
 obtain⟨m11,T11,e11,B11⟩:=B10.predn [((b+1:Nat):Int),((b+1+1:Nat):Int)]
 have e11:Zad (m10.new [.int .i64 ((b+1:Nat):Int),.int .i64 ((b+1+1:Nat):Int)] 3) ⟨P.bb,4,none⟩ [.slice (some ⟨m10.next,0,none⟩) 2 2]=some m11:=e11
 simp [-Int.natCast_add,-w7_35,Za u22 bs3 rfl,e11]
 have D11:=D10.bp [((b+1:Nat):Int),((b+1+1:Nat):Int)]
 have ek11:(bpP [((b+1:Nat):Int),((b+1+1:Nat):Int)] s10).known.length=k:=ek10
 have ev11:(bpP [((b+1:Nat):Int),((b+1+1:Nat):Int)] s10).vals.length≤200:=ev10
 have el11:(bpP [((b+1:Nat):Int),((b+1+1:Nat):Int)] s10).blks.length=b+1+1+1:=el10
 generalize bpP [((b+1:Nat):Int),((b+1+1:Nat):Int)] s10=s11 at *
 have q11:=D11.k2
 have q11':=D11.b
 obtain⟨T12,B12,d12,a12,k12⟩:=B11.ints [la4,la8] rfl
 obtain⟨m13,T13,c13,B13,a13,k13⟩:=B12.put hN (by omega) (by omega) ((21,0,0,0,[la4,la8],0,()):Zb.D) d12
 have c13:Zaq Tryd.prog TT S 19 [.agg #[.int .i64 21,.int .i64 0,.int .i64 0,.int .i64 0,.slice (some ⟨m11.next,0,none⟩) 2 2,.int .i64 0],.pointer (some ⟨P.ub,0,none⟩),.pointer (some ⟨P.bb,0,none⟩)] (m11.new [.int .i64 la4,.int .i64 la8] 3)=some (.int .i64 (s11.vals.length:Nat),m13):=c13
 have kt:KT T11 [1,2,7,8] m11 m13:=(k12.mono (by simp)).trans a12 k13
 have at':Ag T11 T13 m11:=a12.trans a13 k12.le
 obtain⟨ka,l1,l2,l3,m14,ka2,m15,T15,e14,l4,e15,B15⟩:=B11.kns B13 kt at' (by simp) rfl (by omega) [(s11.vals.length:Int)] (by simp) (by simp)
 have B15:UB m0 T15 m15 P (knP ((21,0,0,0,[la4,la8],0,()):Zb.D) s11):=B15
 obtain⟨kb12,_,_,lk12,_,_,_,lP12,_⟩:=B12.ll
 obtain⟨_,_,_,_,_,_,_,lP13,_⟩:=B13.ll
 obtain⟨_,_,_,lk11,_,_,_,lP11,_⟩:=B11.ll
 have lPn:=B13.c.l3 (s11.vals.length:Int)
 have el12:loadRow (m11.new [.int .i64 la4,.int .i64 la8] 3) ⟨P.kb,0,none⟩ 1=some [.slice ka s11.known.length s11.known.length]:=by
  obtain⟨_,⟨f5,o5,_⟩,_⟩:=B11.u.k
  exact (o5.ln _ _ 0 1).trans l1
 have lP12:loadRow (m11.new [.int .i64 la4,.int .i64 la8] 3) ⟨P.px,0,none⟩ 1=_:=lP12
 rw [ek11] at l1 l2 l3 e14 l4 e15 el12
 have e14:Zal Tryd.prog 22 (m13.new [.int .i64 (s11.vals.length:Int)] 3) (.slice ka k k) [.int .i64 (s11.vals.length:Int)] 1=some (.slice ka2 (k+1) (k+1),m14):=e14
 have l3:loadRow (m13.new [.int .i64 (s11.vals.length:Int)] 3) ⟨P.kb,0,none⟩ 1=some [.slice ka k k]:=l3
 have e15:Zad m14 ⟨P.kb,0,none⟩ [.slice ka2 (k+1) (k+1)]=some m15:=e15
 simp [-Int.natCast_add,-w7_36,Za2 Zrl,Za u22 bs3 rfl,Zbf u22 sz3,Zdl _ _ (Zpt _ _),lP11,lP12,c13,l1,l2,l3,el12,e14,e15]
 have D15:=D11.kn ((21,0,0,0,[la4,la8],0,()):Zb.D)
 have ev15:(knP ((21,0,0,0,[la4,la8],0,()):Zb.D) s11).vals.length≤201:=by simp only [knP,Zbi,List.length_append,List.length_cons,List.length_nil];omega
 have el15:(knP ((21,0,0,0,[la4,la8],0,()):Zb.D) s11).blks.length=b+1+1+1:=el11
 generalize knP ((21,0,0,0,[la4,la8],0,()):Zb.D) s11=s15 at *
 obtain⟨v16,m16,T16,c16,B16,D16,V16,L16⟩:=B15.row hN D15 (Nat.le_trans ev15 (by decide)) (by rw [el15];exact hb3)
 simp [-Int.natCast_add,c16]
 skip
 rw [hE] at B16 D16 V16 L16
 exact Zut.1 (Zb2 (E:=[(1,.pointer (some ⟨P.rb,0,none⟩)),(2,.pointer (some ⟨P.rc,0,none⟩)),(3,.pointer (some ⟨P.ub,0,none⟩)),(5,.pointer (some ⟨P.kb,0,none⟩)),(6,.pointer (some ⟨P.bb,0,none⟩)),(7,.pointer (some ⟨P.px,0,none⟩)),(10,.pointer (some ⟨P.nx,0,none⟩)),(11,.pointer (some ⟨P.sx,0,none⟩)),(12,.func (.func 22) #[] #[.pointer (some ⟨P.nx,0,none⟩),.pointer (some ⟨P.ub,0,none⟩),.pointer (some ⟨P.kb,0,none⟩),.pointer (some ⟨P.px,0,none⟩),.pointer (some ⟨P.sx,0,none⟩)]),(13,.func (.func 23) #[] #[.pointer (some ⟨P.bb,0,none⟩),.pointer (some ⟨P.ub,0,none⟩)]),(14,.int .i64 (i:Nat))]) (meth m16 T16 B16 D16 (Nat.le_of_eq (by rw [L16,el15,L0])) (Nat.le_trans V16 (Nat.max_le.2 ⟨Nat.le_trans ev15 (by decide),by decide⟩))) (by repeat' constructor))
end Go.Proofs.YtcgmchechmbmeaaDoor.base
end
section
set_option maxRecDepth 100000
namespace Go.Proofs.YtcgmchechmbmeaaDoor.base
open Go.Sh gen
variable {S:Zb7}{T T':Tg}{m0 m m1 m2:Mem}{is js:List Nat}{s s1:Us}{P:Pl}
set_option maxHeartbeats 8000000 in
theorem Zx9 (hN:Nq S)(h:UB m0 T m P s)(hb:Bd P.ops s)(hv:s.vals.length≤210)(hbl:s.blks.length≤80){K:List Fr}{rs:List ResultVar}{A:Value→Mem→Prop}{i q k:Nat}{hh x y:Int}(hq:q < s.vals.length)(hx:Zd3 s.vals[q]=[x,y])(hk:k≤s.known.length)(hk1:1≤k) :
  (∀ m1 T1,UB m0 T1 m1 P (Znx P.ops q x k hh s)→Bd P.ops (Znx P.ops q x k hh s)→(Znx P.ops q x k hh s).blks.length=s.blks.length+1→(Znx P.ops q x k hh s).vals.length≤300→W Tryd.prog TT S 86 [126,209,298] .skip K [(1,.pointer (some ⟨P.rb,0,none⟩)),(2,.pointer (some ⟨P.rc,0,none⟩)),(3,.pointer (some ⟨P.ub,0,none⟩)),(5,.pointer (some ⟨P.kb,0,none⟩)),(6,.pointer (some ⟨P.bb,0,none⟩)),(7,.pointer (some ⟨P.px,0,none⟩)),(10,.pointer (some ⟨P.nx,0,none⟩)),(11,.pointer (some ⟨P.sx,0,none⟩)),(12,.func (.func 22) #[] #[.pointer (some ⟨P.nx,0,none⟩),.pointer (some ⟨P.ub,0,none⟩),.pointer (some ⟨P.kb,0,none⟩),.pointer (some ⟨P.px,0,none⟩),.pointer (some ⟨P.sx,0,none⟩)]),(13,.func (.func 23) #[] #[.pointer (some ⟨P.bb,0,none⟩),.pointer (some ⟨P.ub,0,none⟩)]),(14,.int .i64 (i:Nat))] m1 (QF Tryd.prog rs A))→
  W Tryd.prog TT S 86 [126,209,298] (.seq (rgn TT 7 56) (.seq (rgn TT 7 57) (.seq (rgn TT 7 58) (.seq (rgn TT 7 59) (rgn TT 7 60))))) K [(1,.pointer (some ⟨P.rb,0,none⟩)),(2,.pointer (some ⟨P.rc,0,none⟩)),(3,.pointer (some ⟨P.ub,0,none⟩)),(5,.pointer (some ⟨P.kb,0,none⟩)),(6,.pointer (some ⟨P.bb,0,none⟩)),(7,.pointer (some ⟨P.px,0,none⟩)),(10,.pointer (some ⟨P.nx,0,none⟩)),(11,.pointer (some ⟨P.sx,0,none⟩)),(12,.func (.func 22) #[] #[.pointer (some ⟨P.nx,0,none⟩),.pointer (some ⟨P.ub,0,none⟩),.pointer (some ⟨P.kb,0,none⟩),.pointer (some ⟨P.px,0,none⟩),.pointer (some ⟨P.sx,0,none⟩)]),(13,.func (.func 23) #[] #[.pointer (some ⟨P.bb,0,none⟩),.pointer (some ⟨P.ub,0,none⟩)]),(14,.int .i64 (i:Nat)),(24,.int .i64 hh),(26,.int .i64 (q:Nat)),(29,.int .i64 (k:Nat))] m (QF Tryd.prog rs A):=by
 intro meth
 obtain⟨E,hE⟩:∃ E,Znx P.ops q x k hh s=E:=⟨_,rfl⟩
 rw [hE] at meth
 unfold Znx at hE
 have g1:=hb.k1
 have g2:=hb.k2
 have hb3:s.blks.length+1≤90:=by omega
 obtain⟨kv,lk,ll⟩:=h.last g1
 obtain⟨va,aa,l1,l2,l3,m2,T2,e2,B2⟩:=h.args0 hq hx [x,Zcw s]
 have e2:Zad (m.new [.int .i64 x,.int .i64 (Zcw s)] 3) ⟨va,q * 6+4,none⟩ [.slice (some ⟨m.next,0,none⟩) 2 2]=some m2:=e2
 obtain⟨v1,v2,v3,v4,v5,v6⟩:=Zf2 (s:=s) (p:=q) (l:=[x,Zcw s])
 have D2:=hb.sets q [x,Zcw s]
 obtain⟨n,hn⟩:∃ n,s.known.length=n+1:=⟨s.known.length - 1,by omega⟩
 rw [hn] at lk ll
 rw [Nat.add_sub_cancel] at ll
 have wn:IntKind.i64.wrap (((n+1:Nat):Int) - 1)=(n:Int):=by rw [Zab (by omega) (by omega)];omega
 have x1:n < n+1:=by omega
 have x2:(n:Int) < (n+1:Nat):=by omega
 have x3:(n:Int)≤9223372036854775807:=by omega
 have x4:(q:Int) < s.vals.length:=by omega
 have x5:(q:Int)≤9223372036854775807:=by omega
 have ek2:(Za8 q [x,Zcw s] s).known.length=n+1:=by rw [v2,hn]
 have ev2:(Za8 q [x,Zcw s] s).vals.length≤210:=by rw [v1];exact hv
 have el2:(Za8 q [x,Zcw s] s).blks.length=s.blks.length:=by rw [v3]
 have l1n:=(h.lvn [.int .i64 x,.int .i64 (Zcw s)] 3).trans l1
 simp [-Int.natCast_add,-w7_57,Za u22 bs3 rfl,l1n,lk,ll,l1,l2,l3,wn,x1,x3,x5,hq,e2]
 generalize Za8 q [x,Zcw s] s=s2 at *
 have hk2:k≤s2.known.length:=by omega
 obtain⟨kw,l4,m3,e3,B3⟩:=B2.cut hk2 hk1
 have B3:UB m0 T2 m3 P (Zgs k s2):=B3
 rw [ek2] at l4
 have y1:k≤n+1:=by omega
 have y2:(k:Int)≤(n+1:Nat):=by omega
 have y3:(k:Int)≤9223372036854775807:=by omega
 simp [-Int.natCast_add,-w7_58,Zcd u22 sz3,l4,y1,y3,e3]
 have D3:=D2.cut (k:=k) hk1
 have ev3:(Zgs k s2).vals.length≤210:=ev2
 have el3:(Zgs k s2).blks.length=s.blks.length:=el2
 generalize Zgs k s2=s3 at *
 obtain⟨m4,T4,c4,B4⟩:=B3.endn hN (by omega) 1 0 [hh] 0
 have c4:Zaq Tryd.prog TT S 23 [.agg #[.slice none 0 0,.int .i64 1,.int .i64 0,.slice (some ⟨m3.next,0,none⟩) 1 1,.slice none 0 0,.int .i64 0],.pointer (some ⟨P.bb,0,none⟩),.pointer (some ⟨P.ub,0,none⟩)] (m3.new [.int .i64 hh] 3)=some (.int .i64 (s3.blks.length:Nat),m4):=c4
 simp [-Int.natCast_add,-w7_59,Za2 Zym,Za u22 bs3 rfl,c4]
 have D4:=D3.end 1 0 [hh] 0
 have ev4:(Zbp 1 0 [hh] 0 s3).vals.length≤210:=ev3
 have el4:(Zbp 1 0 [hh] 0 s3).blks.length=s.blks.length+1:=by simp [Zbp,el3]
 generalize Zbp 1 0 [hh] 0 s3=s4 at *
 obtain⟨m5,T5,e5,B5⟩:=B4.predn [hh]
 have e5:Zad (m4.new [.int .i64 hh] 3) ⟨P.bb,4,none⟩ [.slice (some ⟨m4.next,0,none⟩) 1 1]=some m5:=e5
 simp [-Int.natCast_add,-w7_60,Za u22 bs3 rfl,e5]
 have D5:=D4.bp [hh]
 have ev5:(bpP [hh] s4).vals.length≤210:=ev4
 have el5:(bpP [hh] s4).blks.length=s.blks.length+1:=el4
 generalize bpP [hh] s4=s5 at *
 obtain⟨v6,m6,T6,c6,B6,D6,V6,L6⟩:=B5.row hN D5 (Nat.le_trans ev5 (by decide)) (by rw [el5];exact hb3)
 simp [-Int.natCast_add,c6]
 rw [hE] at B6 D6 V6 L6
 exact Zut.1 (Zb2 (E:=[(1,.pointer (some ⟨P.rb,0,none⟩)),(2,.pointer (some ⟨P.rc,0,none⟩)),(3,.pointer (some ⟨P.ub,0,none⟩)),(5,.pointer (some ⟨P.kb,0,none⟩)),(6,.pointer (some ⟨P.bb,0,none⟩)),(7,.pointer (some ⟨P.px,0,none⟩)),(10,.pointer (some ⟨P.nx,0,none⟩)),(11,.pointer (some ⟨P.sx,0,none⟩)),(12,.func (.func 22) #[] #[.pointer (some ⟨P.nx,0,none⟩),.pointer (some ⟨P.ub,0,none⟩),.pointer (some ⟨P.kb,0,none⟩),.pointer (some ⟨P.px,0,none⟩),.pointer (some ⟨P.sx,0,none⟩)]),(13,.func (.func 23) #[] #[.pointer (some ⟨P.bb,0,none⟩),.pointer (some ⟨P.ub,0,none⟩)]),(14,.int .i64 (i:Nat))]) (meth m6 T6 B6 D6 (by rw [L6,el5]) (Nat.le_trans V6 (Nat.max_le.2 ⟨Nat.le_trans ev5 (by decide),by decide⟩))) (by repeat' constructor))
end Go.Proofs.YtcgmchechmbmeaaDoor.base
end
section
set_option maxRecDepth 100000
namespace Go.Proofs.YtcgmchechmbmeaaDoor.base
open Go.Sh gen
variable {S:Zb7}{T T':Tg}{m0 m m1 m2:Mem}{is js:List Nat}{s s1:Us}{P:Pl}{ops:List Int}
theorem Zii (k:Int):(Zar ops k s).1.vals=s.vals:=(Za6 (ops:=ops) (s:=s) k).2.2.1
theorem Zmg:(Zbc ops s).1.vals=s.vals:=Zii _
theorem Zvv (h:Bd ops s)(a b k:Int):∃ l,(Zd5 ops a b k s).vals=s.vals++l:=by
 have e:=(Zde (d:=(0,0,0,0,[],0,())) h).2.1
 unfold Zd5
 repeat' split
 all_goals first
  | exact⟨_,rfl⟩
  | (simp only [knP,Zbi,Zii,Zmg,e];exact⟨_,rfl⟩)
theorem Zvz (k:Nat):∀ {s:Us},Bd ops s→∃ l,(Zgj ops k s).vals=s.vals++l:=by
 induction k with
 | zero=>intro s h;exact⟨[],by simp [Zgj]⟩
 | succ k ih =>
  intro s h
  rw [Zgj]
  split
  ·have h3:=(Zfy (Zfy h)).next 20
   obtain⟨l1,e1⟩:=Zvv h3 (Zbc ops s).2 (Zbc ops (Zbc ops s).1).2 (Zar ops 20 (Zbc ops (Zbc ops s).1).1).2
   obtain⟨l2,e2⟩:=ih (Zuz h3 (Zbc ops s).2 (Zbc ops (Zbc ops s).1).2 (Zar ops 20 (Zbc ops (Zbc ops s).1).1).2)
   rw [Zii,Zmg,Zmg] at e1
   exact⟨l1++l2,e2.trans (by rw [e1,List.append_assoc])⟩
  ·exact⟨[],by simp⟩
theorem Zx4 (h:Bd ops s):∃ l,(Zf0 ops s).vals=s.vals++l:=by
 obtain⟨l,e⟩:=Zvz (1+(Zar ops 6 s).2.toNat) (h.next 6)
 exact⟨l,e.trans (by rw [Zii])⟩
end Go.Proofs.YtcgmchechmbmeaaDoor.base
end
