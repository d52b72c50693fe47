/- This text proves what turnstonehand.Unit does, Zbx the abstract run: a diamond. Condition: nothing is known of the calls ahead ('S f = []'). -/
import Derived.Test.YtcgmchechmbmeaaDoorM13
set_option linter.unusedVariables false
set_option linter.unusedSimpArgs false
section
set_option maxRecDepth 100000
namespace Go.Proofs.YtcgmchechmbmeaaDoor.base
open Go.Sh gen
variable {S:Zb4}{T T':Tg}{m0 m m1 m2:Mem}{is js:List Nat}{s s1:Us}{P:Pl}
set_option maxHeartbeats 8000000 in
theorem Z20 (hN:Nq S)(h:UB m0 T m P s)(hb:Bd P.ops s)(hv:s.vals.length < 160)(hbl:s.blks.length≤20){K:List Fr}{rs:List ResultVar}{A:Value→Mem→Prop}{i:Nat} :
  (∀ m1 T1,UB m0 T1 m1 P (Zzx P.ops s)→Bd P.ops (Zzx P.ops s)→(Zzx P.ops s).blks.length≤s.blks.length+3→(Zzx P.ops s).vals.length≤300→W Tryd.prog TT S 86 [126,209,298] .skip K [(1,.pointer (some ⟨P.rb,0,none⟩)),(2,.pointer (some ⟨P.rc,0,none⟩)),(3,.pointer (some ⟨P.ub,0,none⟩)),(5,.pointer (some ⟨P.kb,0,none⟩)),(6,.pointer (some ⟨P.bb,0,none⟩)),(7,.pointer (some ⟨P.px,0,none⟩)),(10,.pointer (some ⟨P.nx,0,none⟩)),(11,.pointer (some ⟨P.sx,0,none⟩)),(12,.func (.func 22) #[] #[.pointer (some ⟨P.nx,0,none⟩),.pointer (some ⟨P.ub,0,none⟩),.pointer (some ⟨P.kb,0,none⟩),.pointer (some ⟨P.px,0,none⟩),.pointer (some ⟨P.sx,0,none⟩)]),(13,.func (.func 23) #[] #[.pointer (some ⟨P.bb,0,none⟩),.pointer (some ⟨P.ub,0,none⟩)]),(14,.int .i64 (i:Nat))] m1 (QF Tryd.prog rs A))→
  W Tryd.prog TT S 86 [126,209,298] (.seq (rgn TT 7 21) (.seq (rgn TT 7 22) (.seq (rgn TT 7 23) (.seq (rgn TT 7 24) (.seq (rgn TT 7 25) (.seq (rgn TT 7 26) (.seq (rgn TT 7 27) (.seq (rgn TT 7 28) (.seq (rgn TT 7 29) (.seq (rgn TT 7 30) (.seq (rgn TT 7 31) (.seq (rgn TT 7 32) (.seq (rgn TT 7 33) (.seq (rgn TT 7 34) (.seq (rgn TT 7 35) (rgn TT 7 36)))))))))))))))) K [(1,.pointer (some ⟨P.rb,0,none⟩)),(2,.pointer (some ⟨P.rc,0,none⟩)),(3,.pointer (some ⟨P.ub,0,none⟩)),(5,.pointer (some ⟨P.kb,0,none⟩)),(6,.pointer (some ⟨P.bb,0,none⟩)),(7,.pointer (some ⟨P.px,0,none⟩)),(10,.pointer (some ⟨P.nx,0,none⟩)),(11,.pointer (some ⟨P.sx,0,none⟩)),(12,.func (.func 22) #[] #[.pointer (some ⟨P.nx,0,none⟩),.pointer (some ⟨P.ub,0,none⟩),.pointer (some ⟨P.kb,0,none⟩),.pointer (some ⟨P.px,0,none⟩),.pointer (some ⟨P.sx,0,none⟩)]),(13,.func (.func 23) #[] #[.pointer (some ⟨P.bb,0,none⟩),.pointer (some ⟨P.ub,0,none⟩)]),(14,.int .i64 (i:Nat))] m (QF Tryd.prog rs A):=by
 intro meth
 have g1:=hb.k1
 have g2:=hb.k2
 obtain⟨k,K0⟩:∃ k,s.known.length=k:=⟨_,rfl⟩
 obtain⟨b,L0⟩:∃ b,s.blks.length=b:=⟨_,rfl⟩
 have hb3:b+1+1+1≤90:=by omega
 obtain⟨m1,kv,x,c1,hx,hy,hz,B1,kt1,la,lb,lx,D1,K1,V1,L1⟩:=h.any hN hb (by omega)
 obtain⟨_,_,_,_,_,_,lN,_⟩:=h.ll
 obtain⟨_,_,_,_,_,_,lN1,_⟩:=B1.ll
 simp [-Int.natCast_add,-w7_22,Zde _ _ (Zox _ _),c1,hx,hz,la,lb,lx,lN]
 have w1:IntKind.i64.wrap ((b:Int)+1)=(b:Int)+1:=Zab (by omega) (by omega)
 have w2:IntKind.i64.wrap ((b:Int)+2)=(b:Int)+2:=Zab (by omega) (by omega)
 have ek:(Zbc P.ops s).1.known.length=k:=by rw [K1];exact K0
 have el:(Zbc P.ops s).1.blks.length=b:=by rw [L1];exact L0
 have ev:(Zbc P.ops s).1.vals.length < 160:=by rw [V1];exact hv
 obtain⟨E,hE⟩:∃ E,Zzx P.ops s=E:=⟨_,rfl⟩
 rw [hE] at meth
 unfold Zzx at hE
 dsimp only at hE
 rw [L0,K0] at hE
 rw [K0] at lb
 generalize (Zbc P.ops s).1=s1 at *
 generalize (Zbc P.ops s).2=cv at *
 clear K1 V1 L1 lx
 obtain⟨m2,T2,c2,B2⟩:=B1.endn hN (by omega) 2 cv [(b:Int)+1,(b:Int)+2] 0
 obtain⟨_,ba1,_,_,lb1,_⟩:=B1.ll
 rw [el] at c2 lb1
 have c2:Zaq Tryd.prog TT S 23 [.agg #[.slice none 0 0,.int .i64 2,.int .i64 cv,.slice (some ⟨m1.next,0,none⟩) 2 2,.slice none 0 0,.int .i64 0],.pointer (some ⟨P.bb,0,none⟩),.pointer (some ⟨P.ub,0,none⟩)] (m1.new [.int .i64 ((b:Int)+1),.int .i64 ((b:Int)+2)] 3)=some (.int .i64 (b:Nat),m2):=c2
 simp [-Int.natCast_add,-w7_23,lb]
 simp [-Int.natCast_add,-w7_24,Zax Zy0,Za u22 bs3 rfl,lb1,w1,w2,c2]
 have D2:=D1.end 2 cv [(b:Int)+1,(b:Int)+2] 0
 have ek2:(Zb6 2 cv [(b:Int)+1,(b:Int)+2] 0 s1).known.length=k:=ek
 have ev2:(Zb6 2 cv [(b:Int)+1,(b:Int)+2] 0 s1).vals.length < 160:=ev
 have el2:(Zb6 2 cv [(b:Int)+1,(b:Int)+2] 0 s1).blks.length=b+1:=by simp [Zb6,el]
 generalize Zb6 2 cv [(b:Int)+1,(b:Int)+2] 0 s1=s2 at *
 obtain⟨m3,T3,e3,B3⟩:=B2.predn [(b:Int)]
 have e3:Zad (m2.new [.int .i64 (b:Int)] 3) ⟨P.bb,4,none⟩ [.slice (some ⟨m2.next,0,none⟩) 1 1]=some m3:=e3
 simp [-Int.natCast_add,-w7_25,Za u22 bs3 rfl,e3]
 have D3:=D2.bp [(b:Int)]
 have ek3:(bpP [(b:Int)] s2).known.length=k:=ek2
 have ev3:(bpP [(b:Int)] s2).vals.length < 160:=ev2
 have el3:(bpP [(b:Int)] s2).blks.length=b+1:=el2
 generalize bpP [(b:Int)] s2=s3 at *
 obtain⟨v4,m4,T4,c4,B4,D4,V4,L4⟩:=B3.row hN D3 (by omega) (by omega)
 have ek4:=Zic D3
 rw [ek3] at ek4
 have el4:(Zgv P.ops s3).blks.length=b+1:=by rw [L4];exact el3
 have ev4:(Zgv P.ops s3).vals.length≤200:=by omega
 clear L4 V4
 simp [-Int.natCast_add,-w7_26,c4]
 generalize Zgv P.ops s3=s4 at *
 have j4:=D4.k1
 have j4':=D4.k2
 obtain⟨kv4,lk4,ll4⟩:=B4.last j4
 obtain⟨n4,hn4⟩:∃ n,s4.known.length=n+1:=⟨s4.known.length - 1,by omega⟩
 rw [hn4] at lk4 ll4
 rw [Nat.add_sub_cancel] at ll4
 have wn4:IntKind.i64.wrap (((n4+1:Nat):Int) - 1)=(n4:Int):=by rw [Zab (by omega) (by omega)];omega
 have x4:n4 < n4+1:=by omega
 have y4:(n4:Int) < (n4+1:Nat):=by omega
 have z4:(n4:Int)≤9223372036854775807:=by omega
 generalize hla4:Zdz s4=la4 at *
 simp [-Int.natCast_add,-w7_27,lk4,ll4,wn4,x4,z4]
 obtain⟨kw5,l5,m5,e5,B5⟩:=B4.cut ek4 (by omega)
 have B5:UB m0 T4 m5 P (Zi8 k s4):=B5
 rw [hn4] at l5
 have hk5:(k:Int)≤(n4+1:Nat):=by omega
 have hk5':k≤n4+1:=by omega
 have hk5'':(k:Int)≤9223372036854775807:=by omega
 simp [-Int.natCast_add,-w7_28,Zcc u22 sz3,l5,hk5',hk5'',e5]
 have D5:=D4.cut (k:=k) (by omega)
 have ev5:(Zi8 k s4).vals.length≤200:=ev4
 have el5:(Zi8 k s4).blks.length=b+1:=el4
 have ek5:(Zi8 k s4).known.length=k:=by simp only [Zi8,List.length_take];omega
 rw [el4] at hE
 generalize Zi8 k s4=s5 at *
 obtain⟨_,ba5,_,_,lb5,_⟩:=B5.ll
 rw [el5] at lb5
 have wb5:IntKind.i64.wrap (((b+1:Nat):Int)+2)=((b+1:Nat):Int)+2:=Zab (by omega) (by omega)
 obtain⟨m6,T6,c6,B6⟩:=B5.endn hN (by omega) 1 0 [((b+1:Nat):Int)+2] 0
 rw [el5] at c6
 have c6:Zaq Tryd.prog TT S 23 [.agg #[.slice none 0 0,.int .i64 1,.int .i64 0,.slice (some ⟨m5.next,0,none⟩) 1 1,.slice none 0 0,.int .i64 0],.pointer (some ⟨P.bb,0,none⟩),.pointer (some ⟨P.ub,0,none⟩)] (m5.new [.int .i64 (((b+1:Nat):Int)+2)] 3)=some (.int .i64 ((b+1:Nat):Int),m6):=c6
 simp [-Int.natCast_add,-w7_29,Zax Zy0,Za u22 bs3 rfl,lb5,wb5,c6]
 have D6:=D5.end 1 0 [((b+1:Nat):Int)+2] 0
 have ek6:(Zb6 1 0 [((b+1:Nat):Int)+2] 0 s5).known.length=k:=ek5
 have ev6:(Zb6 1 0 [((b+1:Nat):Int)+2] 0 s5).vals.length≤200:=ev5
 have el6:(Zb6 1 0 [((b+1:Nat):Int)+2] 0 s5).blks.length=b+1+1:=by simp [Zb6,el5]
 generalize Zb6 1 0 [((b+1:Nat):Int)+2] 0 s5=s6 at *
 obtain⟨m7,T7,e7,B7⟩:=B6.predn [(b:Int)]
 have e7:Zad (m6.new [.int .i64 (b:Int)] 3) ⟨P.bb,4,none⟩ [.slice (some ⟨m6.next,0,none⟩) 1 1]=some m7:=e7
 simp [-Int.natCast_add,-w7_30,Za u22 bs3 rfl,e7]
 have D7:=D6.bp [(b:Int)]
 have ek7:(bpP [(b:Int)] s6).known.length=k:=ek6
 have ev7:(bpP [(b:Int)] s6).vals.length≤200:=ev6
 have el7:(bpP [(b:Int)] s6).blks.length=b+1+1:=el6
 generalize bpP [(b:Int)] s6=s7 at *
 obtain⟨v8,m8,T8,c8,B8,D8,V8,L8⟩:=B7.row hN D7 (by omega) (by omega)
 have ek8:=Zic D7
 rw [ek7] at ek8
 have el8:(Zgv P.ops s7).blks.length=b+1+1:=by rw [L8];exact el7
 have ev8:(Zgv P.ops s7).vals.length≤200:=by omega
 clear L8 V8
 simp [-Int.natCast_add,-w7_31,c8]
 generalize Zgv P.ops s7=s8 at *
 have j8:=D8.k1
 have j8':=D8.k2
 obtain⟨kv8,lk8,ll8⟩:=B8.last j8
 obtain⟨n8,hn8⟩:∃ n,s8.known.length=n+1:=⟨s8.known.length - 1,by omega⟩
 rw [hn8] at lk8 ll8
 rw [Nat.add_sub_cancel] at ll8
 have wn8:IntKind.i64.wrap (((n8+1:Nat):Int) - 1)=(n8:Int):=by rw [Zab (by omega) (by omega)];omega
 have x8:n8 < n8+1:=by omega
 have y8:(n8:Int) < (n8+1:Nat):=by omega
 have z8:(n8:Int)≤9223372036854775807:=by omega
 generalize hla8:Zdz s8=la8 at *
 simp [-Int.natCast_add,-w7_32,lk8,ll8,wn8,x8,z8]
 obtain⟨kw9,l9,m9,e9,B9⟩:=B8.cut ek8 (by omega)
 have B9:UB m0 T8 m9 P (Zi8 k s8):=B9
 rw [hn8] at l9
 have hk9:(k:Int)≤(n8+1:Nat):=by omega
 have hk9':k≤n8+1:=by omega
 have hk9'':(k:Int)≤9223372036854775807:=by omega
 simp [-Int.natCast_add,-w7_33,Zcc u22 sz3,l9,hk9',hk9'',e9]
 have D9:=D8.cut (k:=k) (by omega)
 have ev9:(Zi8 k s8).vals.length≤200:=ev8
 have el9:(Zi8 k s8).blks.length=b+1+1:=el8
 have ek9:(Zi8 k s8).known.length=k:=by simp only [Zi8,List.length_take];omega
 rw [el8] at hE
 generalize Zi8 k s8=s9 at *
 obtain⟨_,ba9,_,_,lb9,_⟩:=B9.ll
 rw [el9] at lb9
 have wb9:IntKind.i64.wrap (((b+1+1:Nat):Int)+1)=((b+1+1:Nat):Int)+1:=Zab (by omega) (by omega)
 obtain⟨m10,T10,c10,B10⟩:=B9.endn hN (by omega) 1 0 [((b+1+1:Nat):Int)+1] 0
 rw [el9] at c10
 have c10:Zaq Tryd.prog TT S 23 [.agg #[.slice none 0 0,.int .i64 1,.int .i64 0,.slice (some ⟨m9.next,0,none⟩) 1 1,.slice none 0 0,.int .i64 0],.pointer (some ⟨P.bb,0,none⟩),.pointer (some ⟨P.ub,0,none⟩)] (m9.new [.int .i64 (((b+1+1:Nat):Int)+1)] 3)=some (.int .i64 ((b+1+1:Nat):Int),m10):=c10
 simp [-Int.natCast_add,-w7_34,Zax Zy0,Za u22 bs3 rfl,lb9,wb9,c10]
 have D10:=D9.end 1 0 [((b+1+1:Nat):Int)+1] 0
 have ek10:(Zb6 1 0 [((b+1+1:Nat):Int)+1] 0 s9).known.length=k:=ek9
 have ev10:(Zb6 1 0 [((b+1+1:Nat):Int)+1] 0 s9).vals.length≤200:=ev9
 have el10:(Zb6 1 0 [((b+1+1:Nat):Int)+1] 0 s9).blks.length=b+1+1+1:=by simp [Zb6,el9]
 generalize Zb6 1 0 [((b+1+1:Nat):Int)+1] 0 s9=s10 at *
 obtain⟨m11,T11,e11,B11⟩:=B10.predn [((b+1:Nat):Int),((b+1+1:Nat):Int)]
 have e11:Zad (m10.new [.int .i64 ((b+1:Nat):Int),.int .i64 ((b+1+1:Nat):Int)] 3) ⟨P.bb,4,none⟩ [.slice (some ⟨m10.next,0,none⟩) 2 2]=some m11:=e11
 simp [-Int.natCast_add,-w7_35,Za u22 bs3 rfl,e11]
 have D11:=D10.bp [((b+1:Nat):Int),((b+1+1:Nat):Int)]
 have ek11:(bpP [((b+1:Nat):Int),((b+1+1:Nat):Int)] s10).known.length=k:=ek10
 have ev11:(bpP [((b+1:Nat):Int),((b+1+1:Nat):Int)] s10).vals.length≤200:=ev10
 have el11:(bpP [((b+1:Nat):Int),((b+1+1:Nat):Int)] s10).blks.length=b+1+1+1:=el10
 generalize bpP [((b+1:Nat):Int),((b+1+1:Nat):Int)] s10=s11 at *
 have q11:=D11.k2
 have q11':=D11.b
 obtain⟨T12,B12,d12,a12,k12⟩:=B11.ints [la4,la8] rfl
 obtain⟨m13,T13,c13,B13,a13,k13⟩:=B12.put hN (by omega) (by omega) ((21,0,0,0,[la4,la8],0,()):Za9.D) d12
 have c13:Zaq Tryd.prog TT S 19 [.agg #[.int .i64 21,.int .i64 0,.int .i64 0,.int .i64 0,.slice (some ⟨m11.next,0,none⟩) 2 2,.int .i64 0],.pointer (some ⟨P.ub,0,none⟩),.pointer (some ⟨P.bb,0,none⟩)] (m11.new [.int .i64 la4,.int .i64 la8] 3)=some (.int .i64 (s11.vals.length:Nat),m13):=c13
 have kt:KT T11 [1,2,7,8] m11 m13:=(k12.mono (by simp)).trans a12 k13
 have at':Ag T11 T13 m11:=a12.trans a13 k12.le
 obtain⟨ka,l1,l2,l3,m14,ka2,m15,T15,e14,l4,e15,B15⟩:=B11.kns B13 kt at' (by simp) rfl (by omega) [(s11.vals.length:Int)] (by simp) (by simp)
 have B15:UB m0 T15 m15 P (knP ((21,0,0,0,[la4,la8],0,()):Za9.D) s11):=B15
 obtain⟨kb12,_,_,lk12,_,_,_,lP12,_⟩:=B12.ll
 obtain⟨_,_,_,_,_,_,_,lP13,_⟩:=B13.ll
 obtain⟨_,_,_,lk11,_,_,_,lP11,_⟩:=B11.ll
 have lPn:=B13.c.l3 (s11.vals.length:Int)
 have el12:loadRow (m11.new [.int .i64 la4,.int .i64 la8] 3) ⟨P.kb,0,none⟩ 1=some [.slice ka s11.known.length s11.known.length]:=by
  obtain⟨_,⟨f5,o5,_⟩,_⟩:=B11.u.k
  exact (o5.ln _ _ 0 1).trans l1
 have lP12:loadRow (m11.new [.int .i64 la4,.int .i64 la8] 3) ⟨P.px,0,none⟩ 1=_:=lP12
 rw [ek11] at l1 l2 l3 e14 l4 e15 el12
 have e14:Zak Tryd.prog 22 (m13.new [.int .i64 (s11.vals.length:Int)] 3) (.slice ka k k) [.int .i64 (s11.vals.length:Int)] 1=some (.slice ka2 (k+1) (k+1),m14):=e14
 have l3:loadRow (m13.new [.int .i64 (s11.vals.length:Int)] 3) ⟨P.kb,0,none⟩ 1=some [.slice ka k k]:=l3
 have e15:Zad m14 ⟨P.kb,0,none⟩ [.slice ka2 (k+1) (k+1)]=some m15:=e15
 simp [-Int.natCast_add,-w7_36,Zax Zqw,Za u22 bs3 rfl,Zbb u22 sz3,Zde _ _ (Zox _ _),lP11,lP12,c13,l1,l2,l3,el12,e14,e15]
 have D15:=D11.kn ((21,0,0,0,[la4,la8],0,()):Za9.D)
 have ev15:(knP ((21,0,0,0,[la4,la8],0,()):Za9.D) s11).vals.length≤201:=by simp only [knP,Zbu,List.length_append,List.length_cons,List.length_nil];omega
 have el15:(knP ((21,0,0,0,[la4,la8],0,()):Za9.D) s11).blks.length=b+1+1+1:=el11
 generalize knP ((21,0,0,0,[la4,la8],0,()):Za9.D) s11=s15 at *
 obtain⟨v16,m16,T16,c16,B16,D16,V16,L16⟩:=B15.row hN D15 (Nat.le_trans ev15 (by decide)) (by rw [el15];exact hb3)
 simp [-Int.natCast_add,c16]
 skip
 rw [hE] at B16 D16 V16 L16
 exact Zuf.1 (Zbz (E:=[(1,.pointer (some ⟨P.rb,0,none⟩)),(2,.pointer (some ⟨P.rc,0,none⟩)),(3,.pointer (some ⟨P.ub,0,none⟩)),(5,.pointer (some ⟨P.kb,0,none⟩)),(6,.pointer (some ⟨P.bb,0,none⟩)),(7,.pointer (some ⟨P.px,0,none⟩)),(10,.pointer (some ⟨P.nx,0,none⟩)),(11,.pointer (some ⟨P.sx,0,none⟩)),(12,.func (.func 22) #[] #[.pointer (some ⟨P.nx,0,none⟩),.pointer (some ⟨P.ub,0,none⟩),.pointer (some ⟨P.kb,0,none⟩),.pointer (some ⟨P.px,0,none⟩),.pointer (some ⟨P.sx,0,none⟩)]),(13,.func (.func 23) #[] #[.pointer (some ⟨P.bb,0,none⟩),.pointer (some ⟨P.ub,0,none⟩)]),(14,.int .i64 (i:Nat))]) (meth m16 T16 B16 D16 (Nat.le_of_eq (by rw [L16,el15,L0])) (Nat.le_trans V16 (Nat.max_le.2 ⟨Nat.le_trans ev15 (by decide),by decide⟩))) (by repeat' constructor))
end Go.Proofs.YtcgmchechmbmeaaDoor.base
end
section
set_option maxRecDepth 100000
namespace Go.Proofs.YtcgmchechmbmeaaDoor.base
open Go.Sh gen
variable {S:Zb4}{T T':Tg}{m0 m m1 m2:Mem}{is js:List Nat}{s s1:Us}{P:Pl}
set_option maxHeartbeats 8000000 in
theorem Zzb (hN:Nq S)(h:UB m0 T m P s)(hb:Bd P.ops s)(hv:s.vals.length≤210)(hbl:s.blks.length≤80){K:List Fr}{rs:List ResultVar}{A:Value→Mem→Prop}{i q k:Nat}{hh x y:Int}(hq:q < s.vals.length)(hx:Zec s.vals[q]=[x,y])(hk:k≤s.known.length)(hk1:1≤k) :
  (∀ m1 T1,UB m0 T1 m1 P (Zpb P.ops q x k hh s)→Bd P.ops (Zpb P.ops q x k hh s)→(Zpb P.ops q x k hh s).blks.length=s.blks.length+1→(Zpb P.ops q x k hh s).vals.length≤300→W Tryd.prog TT S 86 [126,209,298] .skip K [(1,.pointer (some ⟨P.rb,0,none⟩)),(2,.pointer (some ⟨P.rc,0,none⟩)),(3,.pointer (some ⟨P.ub,0,none⟩)),(5,.pointer (some ⟨P.kb,0,none⟩)),(6,.pointer (some ⟨P.bb,0,none⟩)),(7,.pointer (some ⟨P.px,0,none⟩)),(10,.pointer (some ⟨P.nx,0,none⟩)),(11,.pointer (some ⟨P.sx,0,none⟩)),(12,.func (.func 22) #[] #[.pointer (some ⟨P.nx,0,none⟩),.pointer (some ⟨P.ub,0,none⟩),.pointer (some ⟨P.kb,0,none⟩),.pointer (some ⟨P.px,0,none⟩),.pointer (some ⟨P.sx,0,none⟩)]),(13,.func (.func 23) #[] #[.pointer (some ⟨P.bb,0,none⟩),.pointer (some ⟨P.ub,0,none⟩)]),(14,.int .i64 (i:Nat))] m1 (QF Tryd.prog rs A))→
  W Tryd.prog TT S 86 [126,209,298] (.seq (rgn TT 7 56) (.seq (rgn TT 7 57) (.seq (rgn TT 7 58) (.seq (rgn TT 7 59) (rgn TT 7 60))))) K [(1,.pointer (some ⟨P.rb,0,none⟩)),(2,.pointer (some ⟨P.rc,0,none⟩)),(3,.pointer (some ⟨P.ub,0,none⟩)),(5,.pointer (some ⟨P.kb,0,none⟩)),(6,.pointer (some ⟨P.bb,0,none⟩)),(7,.pointer (some ⟨P.px,0,none⟩)),(10,.pointer (some ⟨P.nx,0,none⟩)),(11,.pointer (some ⟨P.sx,0,none⟩)),(12,.func (.func 22) #[] #[.pointer (some ⟨P.nx,0,none⟩),.pointer (some ⟨P.ub,0,none⟩),.pointer (some ⟨P.kb,0,none⟩),.pointer (some ⟨P.px,0,none⟩),.pointer (some ⟨P.sx,0,none⟩)]),(13,.func (.func 23) #[] #[.pointer (some ⟨P.bb,0,none⟩),.pointer (some ⟨P.ub,0,none⟩)]),(14,.int .i64 (i:Nat)),(24,.int .i64 hh),(26,.int .i64 (q:Nat)),(29,.int .i64 (k:Nat))] m (QF Tryd.prog rs A):=by
 intro meth
 obtain⟨E,hE⟩:∃ E,Zpb P.ops q x k hh s=E:=⟨_,rfl⟩
 rw [hE] at meth
 unfold Zpb at hE
 have g1:=hb.k1
 have g2:=hb.k2
 have hb3:s.blks.length+1≤90:=by omega
 obtain⟨kv,lk,ll⟩:=h.last g1
 obtain⟨va,aa,l1,l2,l3,m2,T2,e2,B2⟩:=h.args0 hq hx [x,Zdz s]
 have e2:Zad (m.new [.int .i64 x,.int .i64 (Zdz s)] 3) ⟨va,q * 6+4,none⟩ [.slice (some ⟨m.next,0,none⟩) 2 2]=some m2:=e2
 obtain⟨v1,v2,v3,v4,v5,v6⟩:=Zfx (s:=s) (p:=q) (l:=[x,Zdz s])
 have D2:=hb.sets q [x,Zdz s]
 obtain⟨n,hn⟩:∃ n,s.known.length=n+1:=⟨s.known.length - 1,by omega⟩
 rw [hn] at lk ll
 rw [Nat.add_sub_cancel] at ll
 have wn:IntKind.i64.wrap (((n+1:Nat):Int) - 1)=(n:Int):=by rw [Zab (by omega) (by omega)];omega
 have x1:n < n+1:=by omega
 have x2:(n:Int) < (n+1:Nat):=by omega
 have x3:(n:Int)≤9223372036854775807:=by omega
 have x4:(q:Int) < s.vals.length:=by omega
 have x5:(q:Int)≤9223372036854775807:=by omega
 have ek2:(Zbl q [x,Zdz s] s).known.length=n+1:=by rw [v2,hn]
 have ev2:(Zbl q [x,Zdz s] s).vals.length≤210:=by rw [v1];exact hv
 have el2:(Zbl q [x,Zdz s] s).blks.length=s.blks.length:=by rw [v3]
 have l1n:=(h.lvn [.int .i64 x,.int .i64 (Zdz s)] 3).trans l1
 simp [-Int.natCast_add,-w7_57,Za u22 bs3 rfl,l1n,lk,ll,l1,l2,l3,wn,x1,x3,x5,hq,e2]
 generalize Zbl q [x,Zdz s] s=s2 at *
 have hk2:k≤s2.known.length:=by omega
 obtain⟨kw,l4,m3,e3,B3⟩:=B2.cut hk2 hk1
 have B3:UB m0 T2 m3 P (Zi8 k s2):=B3
 rw [ek2] at l4
 have y1:k≤n+1:=by omega
 have y2:(k:Int)≤(n+1:Nat):=by omega
 have y3:(k:Int)≤9223372036854775807:=by omega
 simp [-Int.natCast_add,-w7_58,Zcc u22 sz3,l4,y1,y3,e3]
 have D3:=D2.cut (k:=k) hk1
 have ev3:(Zi8 k s2).vals.length≤210:=ev2
 have el3:(Zi8 k s2).blks.length=s.blks.length:=el2
 generalize Zi8 k s2=s3 at *
 obtain⟨m4,T4,c4,B4⟩:=B3.endn hN (by omega) 1 0 [hh] 0
 have c4:Zaq Tryd.prog TT S 23 [.agg #[.slice none 0 0,.int .i64 1,.int .i64 0,.slice (some ⟨m3.next,0,none⟩) 1 1,.slice none 0 0,.int .i64 0],.pointer (some ⟨P.bb,0,none⟩),.pointer (some ⟨P.ub,0,none⟩)] (m3.new [.int .i64 hh] 3)=some (.int .i64 (s3.blks.length:Nat),m4):=c4
 simp [-Int.natCast_add,-w7_59,Zax Zy0,Za u22 bs3 rfl,c4]
 have D4:=D3.end 1 0 [hh] 0
 have ev4:(Zb6 1 0 [hh] 0 s3).vals.length≤210:=ev3
 have el4:(Zb6 1 0 [hh] 0 s3).blks.length=s.blks.length+1:=by simp [Zb6,el3]
 generalize Zb6 1 0 [hh] 0 s3=s4 at *
 obtain⟨m5,T5,e5,B5⟩:=B4.predn [hh]
 have e5:Zad (m4.new [.int .i64 hh] 3) ⟨P.bb,4,none⟩ [.slice (some ⟨m4.next,0,none⟩) 1 1]=some m5:=e5
 simp [-Int.natCast_add,-w7_60,Za u22 bs3 rfl,e5]
 have D5:=D4.bp [hh]
 have ev5:(bpP [hh] s4).vals.length≤210:=ev4
 have el5:(bpP [hh] s4).blks.length=s.blks.length+1:=el4
 generalize bpP [hh] s4=s5 at *
 obtain⟨v6,m6,T6,c6,B6,D6,V6,L6⟩:=B5.row hN D5 (Nat.le_trans ev5 (by decide)) (by rw [el5];exact hb3)
 simp [-Int.natCast_add,c6]
 rw [hE] at B6 D6 V6 L6
 exact Zuf.1 (Zbz (E:=[(1,.pointer (some ⟨P.rb,0,none⟩)),(2,.pointer (some ⟨P.rc,0,none⟩)),(3,.pointer (some ⟨P.ub,0,none⟩)),(5,.pointer (some ⟨P.kb,0,none⟩)),(6,.pointer (some ⟨P.bb,0,none⟩)),(7,.pointer (some ⟨P.px,0,none⟩)),(10,.pointer (some ⟨P.nx,0,none⟩)),(11,.pointer (some ⟨P.sx,0,none⟩)),(12,.func (.func 22) #[] #[.pointer (some ⟨P.nx,0,none⟩),.pointer (some ⟨P.ub,0,none⟩),.pointer (some ⟨P.kb,0,none⟩),.pointer (some ⟨P.px,0,none⟩),.pointer (some ⟨P.sx,0,none⟩)]),(13,.func (.func 23) #[] #[.pointer (some ⟨P.bb,0,none⟩),.pointer (some ⟨P.ub,0,none⟩)]),(14,.int .i64 (i:Nat))]) (meth m6 T6 B6 D6 (by rw [L6,el5]) (Nat.le_trans V6 (Nat.max_le.2 ⟨Nat.le_trans ev5 (by decide),by decide⟩))) (by repeat' constructor))
end Go.Proofs.YtcgmchechmbmeaaDoor.base
end
section
set_option maxRecDepth 100000
namespace Go.Proofs.YtcgmchechmbmeaaDoor.base
open Go.Sh gen
variable {S:Zb4}{T T':Tg}{m0 m m1 m2:Mem}{is js:List Nat}{s s1:Us}{P:Pl}{ops:List Int}
theorem Zii (k:Int):(Zat ops k s).1.vals=s.vals:=(Za5 (ops:=ops) (s:=s) k).2.2.1
theorem Zm3:(Zbc ops s).1.vals=s.vals:=Zii _
theorem Zu2 (h:Bd ops s)(a b k:Int):∃ l,(Zd0 ops a b k s).vals=s.vals++l:=by
 have e:=(Zcy (d:=(0,0,0,0,[],0,())) h).2.1
 unfold Zd0
 repeat' split
 all_goals first
  | exact⟨_,rfl⟩
  | (simp only [knP,Zbu,Zii,Zm3,e];exact⟨_,rfl⟩)
theorem Zvp (k:Nat):∀ {s:Us},Bd ops s→∃ l,(Zgf ops k s).vals=s.vals++l:=by
 induction k with
 | zero=>intro s h;exact⟨[],by simp [Zgf]⟩
 | succ k ih =>
  intro s h
  rw [Zgf]
  split
  ·have h3:=(Zfg (Zfg h)).next 20
   obtain⟨l1,e1⟩:=Zu2 h3 (Zbc ops s).2 (Zbc ops (Zbc ops s).1).2 (Zat ops 20 (Zbc ops (Zbc ops s).1).1).2
   obtain⟨l2,e2⟩:=ih (Zu h3 (Zbc ops s).2 (Zbc ops (Zbc ops s).1).2 (Zat ops 20 (Zbc ops (Zbc ops s).1).1).2)
   rw [Zii,Zm3,Zm3] at e1
   exact⟨l1++l2,e2.trans (by rw [e1,List.append_assoc])⟩
  ·exact⟨[],by simp⟩
theorem Zyo (h:Bd ops s):∃ l,(Zgv ops s).vals=s.vals++l:=by
 obtain⟨l,e⟩:=Zvp (1+(Zat ops 6 s).2.toNat) (h.next 6)
 exact⟨l,e.trans (by rw [Zii])⟩
end Go.Proofs.YtcgmchechmbmeaaDoor.base
end
section
set_option maxRecDepth 100000
namespace Go.Proofs.YtcgmchechmbmeaaDoor.base
open Go.Sh gen
variable {S:Zb4}{T T':Tg}{m0 m m1 m2:Mem}{is js:List Nat}{s s1:Us}{P:Pl}
theorem Zoz {α:Type}{l r:List α}{j:Nat}{x:α}(h:l[j]?=some x):(l++r)[j]?=some x:=by
 rw [List.getElem?_append_left (List.getElem?_eq_some_iff.1 h).1];exact h
theorem Zl4 {p j:Nat}{l:List Int}{x:Za9.D}(h:s.vals[j]?=some x)(hj:p≠j):(Zbl p l s).vals[j]?=some x:=by
 unfold Zbl
 split
 ·simp only
  rw [List.getElem?_set_ne hj];exact h
 ·exact h
theorem Bd.kns (h:Bd P.ops s){vs:List Int}(hl:s.known.length+vs.length≤s.vals.length):Bd P.ops { s with known:=s.known++vs }:=⟨by simp only [List.length_append];have:=h.k1;omega,by simpa using hl,h.b,h.st,h.a⟩
theorem Bd.any (h:Bd P.ops s):Bd P.ops (Zbc P.ops s).1:=Zfg h
set_option maxHeartbeats 8000000 in
theorem Z1b (hN:Nq S)(h:UB m0 T m P s)(hb:Bd P.ops s)(hv:s.vals.length < 160)(hbl:s.blks.length≤20){K:List Fr}{rs:List ResultVar}{A:Value→Mem→Prop}{i:Nat} :
  (∀ m1 T1,UB m0 T1 m1 P (Zpo P.ops s)→Bd P.ops (Zpo P.ops s)→(Zpo P.ops s).blks.length≤s.blks.length+3→(Zpo P.ops s).vals.length≤300→W Tryd.prog TT S 86 [126,209,298] .skip K [(1,.pointer (some ⟨P.rb,0,none⟩)),(2,.pointer (some ⟨P.rc,0,none⟩)),(3,.pointer (some ⟨P.ub,0,none⟩)),(5,.pointer (some ⟨P.kb,0,none⟩)),(6,.pointer (some ⟨P.bb,0,none⟩)),(7,.pointer (some ⟨P.px,0,none⟩)),(10,.pointer (some ⟨P.nx,0,none⟩)),(11,.pointer (some ⟨P.sx,0,none⟩)),(12,.func (.func 22) #[] #[.pointer (some ⟨P.nx,0,none⟩),.pointer (some ⟨P.ub,0,none⟩),.pointer (some ⟨P.kb,0,none⟩),.pointer (some ⟨P.px,0,none⟩),.pointer (some ⟨P.sx,0,none⟩)]),(13,.func (.func 23) #[] #[.pointer (some ⟨P.bb,0,none⟩),.pointer (some ⟨P.ub,0,none⟩)]),(14,.int .i64 (i:Nat))] m1 (QF Tryd.prog rs A))→
  W Tryd.prog TT S 86 [126,209,298] (.seq (rgn TT 7 38) (.seq (rgn TT 7 39) (.seq (rgn TT 7 40) (.seq (rgn TT 7 41) (.seq (rgn TT 7 42) (.seq (rgn TT 7 43) (.seq (rgn TT 7 44) (.seq (rgn TT 7 45) (.seq (rgn TT 7 46) (.seq (rgn TT 7 47) (.seq (rgn TT 7 48) (.seq (rgn TT 7 49) (.seq (rgn TT 7 50) (.seq (rgn TT 7 51) (.seq (rgn TT 7 52) (.seq (rgn TT 7 53) (.seq (.seq (rgn TT 7 54) (.cond (.tmp 298) (rgn TT 7 55) .skip)) (.seq (rgn TT 7 56) (.seq (rgn TT 7 57) (.seq (rgn TT 7 58) (.seq (rgn TT 7 59) (rgn TT 7 60)))))))))))))))))))))) K [(1,.pointer (some ⟨P.rb,0,none⟩)),(2,.pointer (some ⟨P.rc,0,none⟩)),(3,.pointer (some ⟨P.ub,0,none⟩)),(5,.pointer (some ⟨P.kb,0,none⟩)),(6,.pointer (some ⟨P.bb,0,none⟩)),(7,.pointer (some ⟨P.px,0,none⟩)),(10,.pointer (some ⟨P.nx,0,none⟩)),(11,.pointer (some ⟨P.sx,0,none⟩)),(12,.func (.func 22) #[] #[.pointer (some ⟨P.nx,0,none⟩),.pointer (some ⟨P.ub,0,none⟩),.pointer (some ⟨P.kb,0,none⟩),.pointer (some ⟨P.px,0,none⟩),.pointer (some ⟨P.sx,0,none⟩)]),(13,.func (.func 23) #[] #[.pointer (some ⟨P.bb,0,none⟩),.pointer (some ⟨P.ub,0,none⟩)]),(14,.int .i64 (i:Nat))] m (QF Tryd.prog rs A):=by
 intro meth
 have g1:=hb.k1
 have g2:=hb.k2
 have g3:=hb.b
 obtain⟨k,K0⟩:∃ k,s.known.length=k:=⟨_,rfl⟩
 obtain⟨b,L0⟩:∃ b,s.blks.length=b:=⟨_,rfl⟩
 obtain⟨v,V0⟩:∃ v,s.vals.length=v:=⟨_,rfl⟩
 have hb3:b+1+1+1≤90:=by omega
 have hb2:b+1+1≤80:=by omega
 have hv9:v+5≤200:=by omega
 have hkv:k≤v:=by omega
 have hk1:1≤k:=by omega
 obtain⟨m1,kv,x,c1,hx,hy,hz,B1,kt1,la,lb,lx,D1,K1,V1,L1⟩:=h.any hN hb (by omega)
 obtain⟨_,_,_,_,_,_,lN,_⟩:=h.ll
 obtain⟨_,_,_,_,_,_,lN1,_⟩:=B1.ll
 simp [-Int.natCast_add,-w7_39,Zde _ _ (Zox _ _),c1,hx,hz,la,lb,lx,lN]
 have w1:IntKind.i64.wrap ((b:Int)+1)=(b:Int)+1:=Zab (by omega) (by omega)
 have w2:IntKind.i64.wrap ((b:Int)+1+1)=(b:Int)+2:=by rw [Zab (by omega) (by omega)];omega
 have w3:IntKind.i64.wrap ((b:Int)+1+2)=(b:Int)+3:=by rw [Zab (by omega) (by omega)];omega
 have ek1:(Zbc P.ops s).1.known.length=k:=by rw [K1];exact K0
 have el1:(Zbc P.ops s).1.blks.length=b:=by rw [L1];exact L0
 have ev1:(Zbc P.ops s).1.vals.length=v:=by rw [V1];exact V0
 obtain⟨E,hE⟩:∃ E,Zpo P.ops s=E:=⟨_,rfl⟩
 rw [hE] at meth
 unfold Zpo at hE
 dsimp only at hE
 rw [L0] at hE meth
 clear g1 g2 g3 hv hbl K0 V0 L0 hx hy hz la lb lx K1 V1 L1 c1 lN lN1 kt1
 generalize (Zbc P.ops s).1=s1 at *
 generalize (Zbc P.ops s).2=f at *
 obtain⟨m2,T2,c2,B2⟩:=B1.endn hN (by omega) 1 0 [(b:Int)+1] 0
 obtain⟨_,ba1,_,_,lb1,_⟩:=B1.ll
 rw [el1] at c2 lb1
 have c2:Zaq Tryd.prog TT S 23 [.agg #[.slice none 0 0,.int .i64 1,.int .i64 0,.slice (some ⟨m1.next,0,none⟩) 1 1,.slice none 0 0,.int .i64 0],.pointer (some ⟨P.bb,0,none⟩),.pointer (some ⟨P.ub,0,none⟩)] (m1.new [.int .i64 ((b:Int)+1)] 3)=some (.int .i64 (b:Nat),m2):=c2
 simp [-Int.natCast_add,-w7_40,Zax Zy0,Za u22 bs3 rfl,lb1,w1,c2]
 simp [-Int.natCast_add,-w7_41,w1]
 have D2:=D1.end 1 0 [(b:Int)+1] 0
 have ek2:(Zb6 1 0 [(b:Int)+1] 0 s1).known.length=k:=ek1
 have ev2:(Zb6 1 0 [(b:Int)+1] 0 s1).vals.length=v:=ev1
 have el2:(Zb6 1 0 [(b:Int)+1] 0 s1).blks.length=b+1:=by simp [Zb6,el1]
 generalize Zb6 1 0 [(b:Int)+1] 0 s1=s2 at *
 obtain⟨m3,T3,e3,B3⟩:=B2.predn [(b:Int),(b:Int)+2]
 have e3:Zad (m2.new [.int .i64 (b:Int),.int .i64 ((b:Int)+2)] 3) ⟨P.bb,4,none⟩ [.slice (some ⟨m2.next,0,none⟩) 2 2]=some m3:=e3
 simp [-Int.natCast_add,-w7_42,Za u22 bs3 rfl,w2,e3]
 have D3:=D2.bp [(b:Int),(b:Int)+2]
 have ek3:(bpP [(b:Int),(b:Int)+2] s2).known.length=k:=ek2
 have ev3:(bpP [(b:Int),(b:Int)+2] s2).vals.length=v:=ev2
 have el3:(bpP [(b:Int),(b:Int)+2] s2).blks.length=b+1:=el2
 generalize bpP [(b:Int),(b:Int)+2] s2=s3 at *
 clear ek1 ev1 el1 ek2 ev2 el2 D1 D2 B1 B2 c2 e3
 rw [ev3] at hE
 have hb3':=D3.b
 obtain⟨_,_,_,_,_,_,_,lP3,_⟩:=B3.ll
 obtain⟨T3',B3',d3,a3,k3⟩:=B3.ints [f,0] rfl
 obtain⟨m4,T4,c4,B4,a4,k4⟩:=B3'.put hN (by omega) (by omega) ((21,0,0,0,[f,0],0,()):Za9.D) d3
 have c4:Zaq Tryd.prog TT S 19 [.agg #[.int .i64 21,.int .i64 0,.int .i64 0,.int .i64 0,.slice (some ⟨m3.next,0,none⟩) 2 2,.int .i64 0],.pointer (some ⟨P.ub,0,none⟩),.pointer (some ⟨P.bb,0,none⟩)] (m3.new [.int .i64 f,.int .i64 0] 3)=some (.int .i64 (s3.vals.length:Nat),m4):=c4
 rw [ev3] at c4
 simp [-Int.natCast_add,-w7_43,Zax Zqw,Za u22 bs3 rfl,lP3,c4]
 have D4:=D3.put ((21,0,0,0,[f,0],0,()):Za9.D)
 have ek4:(Zbu ((21,0,0,0,[f,0],0,()):Za9.D) s3).known.length=k:=ek3
 have ev4:(Zbu ((21,0,0,0,[f,0],0,()):Za9.D) s3).vals.length=v+1:=by simp [Zbu,ev3]
 have el4:(Zbu ((21,0,0,0,[f,0],0,()):Za9.D) s3).blks.length=b+1:=el3
 generalize Zbu ((21,0,0,0,[f,0],0,()):Za9.D) s3=s4 at *
 clear ek3 ev3 el3 D3 B3 B3' c4 lP3 d3 a3 k3 a4 k4 hb3'
 obtain⟨m5,kv,x,c5,hx,hy,hz,B5,kt5,la,lb,lx,D5,K5,V5,L5⟩:=B4.any hN D4 (by omega)
 have ek5:(Zbc P.ops s4).1.known.length=k:=by rw [K5];exact ek4
 have el5:(Zbc P.ops s4).1.blks.length=b+1:=by rw [L5];exact el4
 have ev5:(Zbc P.ops s4).1.vals.length=v+1:=by rw [V5];exact ev4
 rw [ev5] at hE
 clear K5 V5 L5
 generalize (Zbc P.ops s4).1=s5 at *
 generalize (Zbc P.ops s4).2=a at *
 obtain⟨_,_,_,_,_,_,lN4,lP4,_⟩:=B4.ll
 obtain⟨_,_,_,_,_,_,lN5,lP5,_⟩:=B5.ll
 have hb5:=D5.b
 obtain⟨T5',B5',d5,a5,k5⟩:=B5.ints [a,(v:Int)] rfl
 obtain⟨_,_,_,_,_,_,_,lP5',_⟩:=B5'.ll
 have lP5':loadRow (m5.new [.int .i64 a,.int .i64 (v:Int)] 3) ⟨P.px,0,none⟩ 1=_:=lP5'
 obtain⟨m6,T6,c6,B6,a6,k6⟩:=B5'.put hN (by omega) (by omega) ((21,0,0,0,[a,(v:Int)],0,()):Za9.D) d5
 have c6:Zaq Tryd.prog TT S 19 [.agg #[.int .i64 21,.int .i64 0,.int .i64 0,.int .i64 0,.slice (some ⟨m5.next,0,none⟩) 2 2,.int .i64 0],.pointer (some ⟨P.ub,0,none⟩),.pointer (some ⟨P.bb,0,none⟩)] (m5.new [.int .i64 a,.int .i64 (v:Int)] 3)=some (.int .i64 (s5.vals.length:Nat),m6):=c6
 rw [ev5] at c6
 simp [-Int.natCast_add,-w7_44,Zax Zqw,Za u22 bs3 rfl,Zde _ _ (Zox _ _),c5,hx,hz,la,lb,lx,lN4,lP4,lP5,lP5',c6]
 have D6:=D5.put ((21,0,0,0,[a,(v:Int)],0,()):Za9.D)
 have ek6:(Zbu ((21,0,0,0,[a,(v:Int)],0,()):Za9.D) s5).known.length=k:=ek5
 have ev6:(Zbu ((21,0,0,0,[a,(v:Int)],0,()):Za9.D) s5).vals.length=v+2:=by simp [Zbu,ev5]
 have el6:(Zbu ((21,0,0,0,[a,(v:Int)],0,()):Za9.D) s5).blks.length=b+1:=el5
 have X6:(Zbu ((21,0,0,0,[a,(v:Int)],0,()):Za9.D) s5).vals[v+1]?=some ((21,0,0,0,[a,(v:Int)],0,()):Za9.D):=by
  simp only [Zbu]
  rw [List.getElem?_append_right (by omega),ev5,Nat.sub_self]
  rfl
 generalize Zbu ((21,0,0,0,[a,(v:Int)],0,()):Za9.D) s5=s6 at *
 clear ek4 ev4 el4 ek5 ev5 el5 D4 D5 B4 B5 B5' c5 c6 hx hy hz la lb lx lN4 lN5 lP4 lP5 lP5' d5 a5 k5 a6 k6 kt5 hb5
 obtain⟨ka,l1,_,l3,m7,ka2,m7',T7,e7,l4,e7',B7⟩:=B6.kns B6 (KT.refl (is:=[])) Ag.refl (by simp) rfl (by omega) [(v:Int),((v+1:Nat):Int)] (by simp) (by simp)
 rw [ek6] at l1 e7 l4 e7'
 have e7:Zak Tryd.prog 22 (m6.new [.int .i64 (v:Int),.int .i64 ((v+1:Nat):Int)] 3) (.slice ka k k) [.int .i64 (v:Int),.int .i64 ((v+1:Nat):Int)] 2=some (.slice ka2 (k+2) (k+2),m7):=e7
 have e7':Zad m7 ⟨P.kb,0,none⟩ [.slice ka2 (k+2) (k+2)]=some m7':=e7'
 simp [-Int.natCast_add,-w7_45,Za u22 bs3 rfl,Zbb u22 sz3,l1,e7,e7']
 have D7:Bd P.ops ({ s6 with known:=s6.known++[(v:Int),((v+1:Nat):Int)] }:Us):=D6.kns (by simp only [List.length_cons,List.length_nil];omega)
 have ek7:(({ s6 with known:=s6.known++[(v:Int),((v+1:Nat):Int)] }:Us):Us).known.length=k+2:=by simp [ek6]
 have ev7:(({ s6 with known:=s6.known++[(v:Int),((v+1:Nat):Int)] }:Us):Us).vals.length=v+2:=ev6
 have el7:(({ s6 with known:=s6.known++[(v:Int),((v+1:Nat):Int)] }:Us):Us).blks.length=b+1:=el6
 have X7:(({ s6 with known:=s6.known++[(v:Int),((v+1:Nat):Int)] }:Us):Us).vals[v+1]?=some ((21,0,0,0,[a,(v:Int)],0,()):Za9.D):=X6
 generalize (({ s6 with known:=s6.known++[(v:Int),((v+1:Nat):Int)] }:Us):Us)=s7 at *
 clear ek6 ev6 el6 D6 B6 l1 l3 e7 e7' l4 X6
 obtain⟨m8,T8,c8,B8⟩:=B7.state hN D7 (by omega) (by omega)
 obtain⟨_,f1,f2,f3,f4,_,_⟩:=Zcy (d:=(0,0,0,0,[],0,())) D7
 have D9:=(Zcy D7 ((23,0,0,0,[],(Zac P.ops s7).2,()):Za9.D)).1
 have hb8:=D7.b
 obtain⟨_,_,_,_,_,_,_,lP7,lS7⟩:=B7.ll
 obtain⟨_,_,_,_,_,_,_,lP8,lS8⟩:=B8.ll
 obtain⟨m9,T9,c9,B9,_,_⟩:=B8.put hN (by rw [f1];omega) (by rw [f3];omega) ((23,0,0,0,[],(Zac P.ops s7).2,()):Za9.D) Zdj
 have c9:Zaq Tryd.prog TT S 19 [.agg #[.int .i64 23,.int .i64 0,.int .i64 0,.int .i64 0,.slice none 0 0,.int .i64 (Zac P.ops s7).2],.pointer (some ⟨P.ub,0,none⟩),.pointer (some ⟨P.bb,0,none⟩)] m8=some (.int .i64 ((Zac P.ops s7).1.vals.length:Nat),m9):=c9
 simp [-Int.natCast_add,-w7_46,Zax Zqw,Zde _ _ (Zox _ _),Zde _ _ (Z80 _ _ _),lP7,lP8,lS7,c8,c9]
 have ek9:(Zbu ((23,0,0,0,[],(Zac P.ops s7).2,()):Za9.D) (Zac P.ops s7).1).known.length=k+2:=by simp only [Zbu];rw [f2];exact ek7
 have ev9:(Zbu ((23,0,0,0,[],(Zac P.ops s7).2,()):Za9.D) (Zac P.ops s7).1).vals.length=v+3:=by simp only [Zbu,List.length_append,List.length_cons,List.length_nil];rw [f1];omega
 have el9:(Zbu ((23,0,0,0,[],(Zac P.ops s7).2,()):Za9.D) (Zac P.ops s7).1).blks.length=b+1:=by simp only [Zbu];rw [f4];exact el7
 have X9:(Zbu ((23,0,0,0,[],(Zac P.ops s7).2,()):Za9.D) (Zac P.ops s7).1).vals[v+1]?=some ((21,0,0,0,[a,(v:Int)],0,()):Za9.D):=by simp only [Zbu];rw [f1];exact Zoz X7
 generalize Zbu ((23,0,0,0,[],(Zac P.ops s7).2,()):Za9.D) (Zac P.ops s7).1=s9 at *
 clear ek7 ev7 el7 X7 D7 B7 B8 c8 c9 lP7 lP8 lS7 lS8 f1 f2 f3 f4 hb8
 rw [ev9] at hE
 have hb9:=D9.b
 obtain⟨_,_,_,_,_,_,_,lP9,_⟩:=B9.ll
 obtain⟨m10,T10,c10,B10,_,_⟩:=B9.put hN (by omega) (by omega) ((2,0,0,1,[],0,()):Za9.D) Zdj
 have c10:Zaq Tryd.prog TT S 19 [.agg #[.int .i64 2,.int .i64 0,.int .i64 0,.int .i64 1,.slice none 0 0,.int .i64 0],.pointer (some ⟨P.ub,0,none⟩),.pointer (some ⟨P.bb,0,none⟩)] m9=some (.int .i64 (s9.vals.length:Nat),m10):=c10
 rw [ev9] at c10
 simp [-Int.natCast_add,-w7_47,Zax Zqw,lP9,c10]
 have D10:=D9.put ((2,0,0,1,[],0,()):Za9.D)
 have ek10:(Zbu ((2,0,0,1,[],0,()):Za9.D) s9).known.length=k+2:=ek9
 have ev10:(Zbu ((2,0,0,1,[],0,()):Za9.D) s9).vals.length=v+4:=by simp [Zbu,ev9]
 have el10:(Zbu ((2,0,0,1,[],0,()):Za9.D) s9).blks.length=b+1:=el9
 have X10:(Zbu ((2,0,0,1,[],0,()):Za9.D) s9).vals[v+1]?=some ((21,0,0,0,[a,(v:Int)],0,()):Za9.D):=Zoz X9
 generalize Zbu ((2,0,0,1,[],0,()):Za9.D) s9=s10 at *
 clear ek9 ev9 el9 X9 D9 B9 c10 lP9 hb9
 rw [ev10] at hE
 have hb10:=D10.b
 obtain⟨_,_,_,_,_,_,_,lP10,_⟩:=B10.ll
 obtain⟨m11,T11,c11,B11,_,_⟩:=B10.put hN (by omega) (by omega) ((4,(v:Int),((v+3:Nat):Int),0,[],0,()):Za9.D) Zdj
 have c11:Zaq Tryd.prog TT S 19 [.agg #[.int .i64 4,.int .i64 (v:Int),.int .i64 ((v+3:Nat):Int),.int .i64 0,.slice none 0 0,.int .i64 0],.pointer (some ⟨P.ub,0,none⟩),.pointer (some ⟨P.bb,0,none⟩)] m10=some (.int .i64 (s10.vals.length:Nat),m11):=c11
 rw [ev10] at c11
 simp [-Int.natCast_add,-w7_48,Zax Zqw,lP10,c11]
 have ekp:(Zbu ((4,(v:Int),((v+3:Nat):Int),0,[],0,()):Za9.D) s10).known.length=k+2:=ek10
 obtain⟨ka,l1,_,l3,m12,ka2,mb,T12,e12,l4,e12',B12⟩:=B11.kns B11 (KT.refl (is:=[])) Ag.refl (by simp) rfl (by omega) [((v+4:Nat):Int)] (by simp) (by simp)
 rw [ekp] at l1 e12 l4 e12'
 have e12:Zak Tryd.prog 22 (m11.new [.int .i64 ((v+4:Nat):Int)] 3) (.slice ka (k+2) (k+2)) [.int .i64 ((v+4:Nat):Int)] 1=some (.slice ka2 (k+2+1) (k+2+1),m12):=e12
 have e12':Zad m12 ⟨P.kb,0,none⟩ [.slice ka2 (k+2+1) (k+2+1)]=some mb:=e12'
 have eK:knP ((4,(v:Int),((v+3:Nat):Int),0,[],0,()):Za9.D) s10={ Zbu ((4,(v:Int),((v+3:Nat):Int),0,[],0,()):Za9.D) s10 with known:=(Zbu ((4,(v:Int),((v+3:Nat):Int),0,[],0,()):Za9.D) s10).known++[((v+4:Nat):Int)] }:=by unfold knP;rw [ev10];rfl
 rw [← eK] at B12
 simp [-Int.natCast_add,-w7_49,Za u22 bs3 rfl,Zbb u22 sz3,l1,e12,e12']
 have D12:=D10.kn ((4,(v:Int),((v+3:Nat):Int),0,[],0,()):Za9.D)
 have ek12:(knP ((4,(v:Int),((v+3:Nat):Int),0,[],0,()):Za9.D) s10).known.length=k+3:=by simp [knP,ek10]
 have ev12:(knP ((4,(v:Int),((v+3:Nat):Int),0,[],0,()):Za9.D) s10).vals.length=v+5:=by simp [knP,Zbu,ev10]
 have el12:(knP ((4,(v:Int),((v+3:Nat):Int),0,[],0,()):Za9.D) s10).blks.length=b+1:=el10
 have X12:(knP ((4,(v:Int),((v+3:Nat):Int),0,[],0,()):Za9.D) s10).vals[v+1]?=some ((21,0,0,0,[a,(v:Int)],0,()):Za9.D):=Zoz X10
 generalize knP ((4,(v:Int),((v+3:Nat):Int),0,[],0,()):Za9.D) s10=s12 at *
 clear ek10 ev10 el10 X10 D10 B10 B11 c11 lP10 hb10 ekp l1 l3 e12 e12' l4 eK
 obtain⟨m13,T13,c13,B13⟩:=B12.endn hN (by omega) 2 (v:Int) [(b:Int)+2,(b:Int)+3] 0
 rw [el12] at c13
 have c13:Zaq Tryd.prog TT S 23 [.agg #[.slice none 0 0,.int .i64 2,.int .i64 (v:Int),.slice (some ⟨mb.next,0,none⟩) 2 2,.slice none 0 0,.int .i64 0],.pointer (some ⟨P.bb,0,none⟩),.pointer (some ⟨P.ub,0,none⟩)] (mb.new [.int .i64 ((b:Int)+2),.int .i64 ((b:Int)+3)] 3)=some (.int .i64 ((b+1:Nat):Int),m13):=c13
 simp [-Int.natCast_add,-w7_50,Zax Zy0,Za u22 bs3 rfl,w2,w3,c13]
 have D13:=D12.end 2 (v:Int) [(b:Int)+2,(b:Int)+3] 0
 have ek13:(Zb6 2 (v:Int) [(b:Int)+2,(b:Int)+3] 0 s12).known.length=k+3:=ek12
 have ev13:(Zb6 2 (v:Int) [(b:Int)+2,(b:Int)+3] 0 s12).vals.length=v+5:=ev12
 have el13:(Zb6 2 (v:Int) [(b:Int)+2,(b:Int)+3] 0 s12).blks.length=b+1+1:=by simp [Zb6,el12]
 have X13:(Zb6 2 (v:Int) [(b:Int)+2,(b:Int)+3] 0 s12).vals[v+1]?=some ((21,0,0,0,[a,(v:Int)],0,()):Za9.D):=X12
 rw [ek13] at hE
 generalize Zb6 2 (v:Int) [(b:Int)+2,(b:Int)+3] 0 s12=s13 at *
 clear ek12 ev12 el12 X12 D12 B12 c13
 obtain⟨ka,_,_,lk13,_⟩:=B13.ll
 rw [ek13] at lk13
 simp [-Int.natCast_add,-w7_51,lk13]
 obtain⟨m14,T14,e14,B14⟩:=B13.predn [(b:Int)+1]
 have e14:Zad (m13.new [.int .i64 ((b:Int)+1)] 3) ⟨P.bb,4,none⟩ [.slice (some ⟨m13.next,0,none⟩) 1 1]=some m14:=e14
 simp [-Int.natCast_add,-w7_52,Za u22 bs3 rfl,e14]
 have D14:=D13.bp [(b:Int)+1]
 have ek14:(bpP [(b:Int)+1] s13).known.length=k+3:=ek13
 have ev14:(bpP [(b:Int)+1] s13).vals.length=v+5:=ev13
 have el14:(bpP [(b:Int)+1] s13).blks.length=b+1+1:=el13
 have X14:(bpP [(b:Int)+1] s13).vals[v+1]?=some ((21,0,0,0,[a,(v:Int)],0,()):Za9.D):=X13
 generalize bpP [(b:Int)+1] s13=s14 at *
 clear ek13 ev13 el13 X13 D13 B13 e14 lk13
 obtain⟨v15,m15,T15,c15,B15,D15,V15,L15⟩:=B14.row hN D14 (by omega) (by omega)
 simp [-Int.natCast_add,-w7_53,c15]
 have ek15:=Zic D14
 obtain⟨lv,V15'⟩:=Zyo D14
 have X15:(Zgv P.ops s14).vals[v+1]?=some ((21,0,0,0,[a,(v:Int)],0,()):Za9.D):=by rw [V15'];exact Zoz X14
 have ev15:v+5≤(Zgv P.ops s14).vals.length:=by rw [V15',List.length_append];omega
 have ew15:(Zgv P.ops s14).vals.length≤200:=by omega
 have el15:(Zgv P.ops s14).blks.length=b+1+1:=by rw [L15];exact el14
 rw [ek14] at ek15
 clear V15' V15 L15 c15
 generalize Zgv P.ops s14=s15 at *
 clear ek14 ev14 el14 X14 D14 B14
 have hvl:v < s15.vals.length:=by omega
 have hvi:(v:Int) < s15.vals.length:=by omega
 have hvj:(v:Int)≤9223372036854775807:=by omega
 obtain⟨va,l1,m16,T16,e16,B16⟩:=B15.args hvl [f,((v+4:Nat):Int)]
 have e16:Zad (m15.new [.int .i64 f,.int .i64 ((v+4:Nat):Int)] 3) ⟨va,v * 6+4,none⟩ [.slice (some ⟨m15.next,0,none⟩) 2 2]=some m16:=e16
 simp [-Int.natCast_add,-w7_54,Za u22 bs3 rfl,l1,hvl,hvj,e16]
 simp only [Int.toNat_natCast] at hE
 have D16:=D15.sets v [f,((v+4:Nat):Int)]
 obtain⟨f1,f2,f3,_,_,_⟩:=Zfx (s:=s15) (p:=v) (l:=[f,((v+4:Nat):Int)])
 have X16:=Zl4 (l:=[f,((v+4:Nat):Int)]) X15 (p:=v) (by omega)
 have ek16:k+3≤(Zbl v [f,((v+4:Nat):Int)] s15).known.length:=by rw [f2];exact ek15
 have ew16:(Zbl v [f,((v+4:Nat):Int)] s15).vals.length≤200:=by rw [f1];exact ew15
 have ev16:v+5≤(Zbl v [f,((v+4:Nat):Int)] s15).vals.length:=by rw [f1];exact ev15
 have el16:(Zbl v [f,((v+4:Nat):Int)] s15).blks.length=b+1+1:=by rw [f3];exact el15
 clear f1 f2 f3
 generalize Zbl v [f,((v+4:Nat):Int)] s15=s16 at *
 clear ek15 ev15 ew15 el15 X15 D15 B15 hvl hvi e16 l1
 obtain⟨m17,c17,B17⟩:=B16.next hN D16 (k:=3) (by omega) (by omega)
 have D17:=D16.next 3
 obtain⟨_,_,_,_,_,_,lN16,_⟩:=B16.ll
 obtain⟨f1,_,f3,_,f5,_⟩:=Za5 (ops:=P.ops) (s:=s16) 3
 have ek17:k+3≤(Zat P.ops 3 s16).1.known.length:=by rw [f1];exact ek16
 have ew17:(Zat P.ops 3 s16).1.vals.length≤200:=by rw [f3];exact ew16
 have ev17:v+5≤(Zat P.ops 3 s16).1.vals.length:=by rw [f3];exact ev16
 have el17:(Zat P.ops 3 s16).1.blks.length=b+1+1:=by rw [f5];exact el16
 have X17:(Zat P.ops 3 s16).1.vals[v+1]?=some ((21,0,0,0,[a,(v:Int)],0,()):Za9.D):=by rw [f3];exact X16
 clear f1 f3 f5
 generalize (Zat P.ops 3 s16).1=s17 at *
 generalize (Zat P.ops 3 s16).2=n at *
 clear ek16 ev16 ew16 el16 X16 D16 B16
 have fin:∀ (s18:Us) (m18:Mem) (T18:Tg),UB m0 T18 m18 P s18→Bd P.ops s18→s18.vals.length≤200→s18.blks.length=b+1+1→k+3≤s18.known.length→s18.vals[v+1]?=some ((21,0,0,0,[a,(v:Int)],0,()):Za9.D)→Zpb P.ops (v+1) a (k+3) ((b:Int)+1) s18=E→
   W Tryd.prog TT S 86 [126,209,298] (.seq (rgn TT 7 56) (.seq (rgn TT 7 57) (.seq (rgn TT 7 58) (.seq (rgn TT 7 59) (rgn TT 7 60))))) K [(1,.pointer (some ⟨P.rb,0,none⟩)),(2,.pointer (some ⟨P.rc,0,none⟩)),(3,.pointer (some ⟨P.ub,0,none⟩)),(5,.pointer (some ⟨P.kb,0,none⟩)),(6,.pointer (some ⟨P.bb,0,none⟩)),(7,.pointer (some ⟨P.px,0,none⟩)),(10,.pointer (some ⟨P.nx,0,none⟩)),(11,.pointer (some ⟨P.sx,0,none⟩)),(12,.func (.func 22) #[] #[.pointer (some ⟨P.nx,0,none⟩),.pointer (some ⟨P.ub,0,none⟩),.pointer (some ⟨P.kb,0,none⟩),.pointer (some ⟨P.px,0,none⟩),.pointer (some ⟨P.sx,0,none⟩)]),(13,.func (.func 23) #[] #[.pointer (some ⟨P.bb,0,none⟩),.pointer (some ⟨P.ub,0,none⟩)]),(14,.int .i64 (i:Nat)),(24,.int .i64 ((b:Int)+1)),(26,.int .i64 ((v+1:Nat):Int)),(29,.int .i64 ((k+3:Nat):Int))] m18 (QF Tryd.prog rs A):=by
  intro s18 m18 T18 B18 D18 ev18 el18 ek18 X18 hE
  obtain⟨hq,hx⟩:=List.getElem?_eq_some_iff.1 X18
  refine Zzb hN B18 D18 (Nat.le_trans ev18 (by decide)) (by rw [el18];exact hb2) (y:=(v:Int)) hq (by rw [hx]) ek18 (by omega) ?_
  rw [hE]
  exact fun m1 T1 h1 h2 h3 h4=>meth m1 T1 h1 h2 (by rw [h3,el18];omega) h4
 clear meth
 by_cases hn:n=0
 ·rw [if_pos hn] at hE
  have g1:=D17.k1
  have g2:=D17.k2
  obtain⟨kv,lk,ll⟩:=B17.last g1
  have hvl:v < s17.vals.length:=by omega
  have hvi:(v:Int) < s17.vals.length:=by omega
  obtain⟨va,l1,m18,T18,e18,B18⟩:=B17.args hvl [f,Zdz s17]
  have e18:Zad (m17.new [.int .i64 f,.int .i64 (Zdz s17)] 3) ⟨va,v * 6+4,none⟩ [.slice (some ⟨m17.next,0,none⟩) 2 2]=some m18:=e18
  have l1n:=(B17.lvn [.int .i64 f,.int .i64 (Zdz s17)] 3).trans l1
  obtain⟨N,hN1⟩:∃ n,s17.known.length=n+1:=⟨s17.known.length - 1,by omega⟩
  rw [hN1] at lk ll
  rw [Nat.add_sub_cancel] at ll
  have wn:IntKind.i64.wrap (((N+1:Nat):Int) - 1)=(N:Int):=by rw [Zab (by omega) (by omega)];omega
  have x1:N < N+1:=by omega
  have x2:(N:Int) < (N+1:Nat):=by omega
  have x3:(N:Int)≤9223372036854775807:=by omega
  obtain⟨f1,f2,f3,_,_,_⟩:=Zfx (s:=s17) (p:=v) (l:=[f,Zdz s17])
  have H:=fin _ m18 T18 B18 (D17.sets v _) (by rw [f1];exact ew17) (by rw [f3];exact el17) (by rw [f2];exact ek17) (Zl4 X17 (by omega)) hE
  simp [-Int.natCast_add,-w7_56,Za u22 bs3 rfl,lN16,c17,hn,l1,l1n,lk,ll,wn,x1,x3,hvl,hvj,e18]
  exact (Zor _ _).1 (Zbz (E:=[(1,.pointer (some ⟨P.rb,0,none⟩)),(2,.pointer (some ⟨P.rc,0,none⟩)),(3,.pointer (some ⟨P.ub,0,none⟩)),(5,.pointer (some ⟨P.kb,0,none⟩)),(6,.pointer (some ⟨P.bb,0,none⟩)),(7,.pointer (some ⟨P.px,0,none⟩)),(10,.pointer (some ⟨P.nx,0,none⟩)),(11,.pointer (some ⟨P.sx,0,none⟩)),(12,.func (.func 22) #[] #[.pointer (some ⟨P.nx,0,none⟩),.pointer (some ⟨P.ub,0,none⟩),.pointer (some ⟨P.kb,0,none⟩),.pointer (some ⟨P.px,0,none⟩),.pointer (some ⟨P.sx,0,none⟩)]),(13,.func (.func 23) #[] #[.pointer (some ⟨P.bb,0,none⟩),.pointer (some ⟨P.ub,0,none⟩)]),(14,.int .i64 (i:Nat)),(24,.int .i64 ((b:Int)+1)),(26,.int .i64 ((v+1:Nat):Int)),(29,.int .i64 ((k+3:Nat):Int))]) H (by repeat' constructor))
 ·rw [if_neg hn] at hE
  have H:=fin _ m17 _ B17 D17 ew17 el17 ek17 X17 hE
  simp [-Int.natCast_add,-w7_56,lN16,c17,hn]
  exact (Zor _ _).1 (Zbz (E:=[(1,.pointer (some ⟨P.rb,0,none⟩)),(2,.pointer (some ⟨P.rc,0,none⟩)),(3,.pointer (some ⟨P.ub,0,none⟩)),(5,.pointer (some ⟨P.kb,0,none⟩)),(6,.pointer (some ⟨P.bb,0,none⟩)),(7,.pointer (some ⟨P.px,0,none⟩)),(10,.pointer (some ⟨P.nx,0,none⟩)),(11,.pointer (some ⟨P.sx,0,none⟩)),(12,.func (.func 22) #[] #[.pointer (some ⟨P.nx,0,none⟩),.pointer (some ⟨P.ub,0,none⟩),.pointer (some ⟨P.kb,0,none⟩),.pointer (some ⟨P.px,0,none⟩),.pointer (some ⟨P.sx,0,none⟩)]),(13,.func (.func 23) #[] #[.pointer (some ⟨P.bb,0,none⟩),.pointer (some ⟨P.ub,0,none⟩)]),(14,.int .i64 (i:Nat)),(24,.int .i64 ((b:Int)+1)),(26,.int .i64 ((v+1:Nat):Int)),(29,.int .i64 ((k+3:Nat):Int))]) H (by repeat' constructor))
end Go.Proofs.YtcgmchechmbmeaaDoor.base
end
