/- This text proves what turnstonehand.Unit does, over the abstract run: a loop. Condition: nothing is known of the calls ahead ('S f = []'). -/
import Derived.Test.YtlogdohlcdhepaaDoorM17
import Derived.Test.YtlogdohlcdhepaaDoorM16
set_option linter.unusedVariables false
set_option linter.unusedSimpArgs false
section
set_option maxRecDepth 100000
namespace Go.Proofs.YtlogdohlcdhepaaDoor.base
open Go.Sh gen
variable {S:Sums}{T T':Tg}{m0 m m1 m2:Mem}{is js:List Nat}{s s1:Us}{P:Pl}
theorem get_app {α:Type}{l r:List α}{j:Nat}{x:α}(h:l[j]?=some x):(l++r)[j]?=some x:=by
  rw [List.getElem?_append_left (List.getElem?_eq_some_iff.1 h).1];exact h
theorem setArgs_get {p j:Nat}{l:List Int}{x:ValT.D}(h:s.vals[j]?=some x)(hj:p≠j):(setArgs p l s).vals[j]?=some x:=by
  unfold setArgs
  split
  · simp only
    rw [List.getElem?_set_ne hj];exact h
  · exact h
theorem Bd.kns (h:Bd P.ops s){vs:List Int}(hl:s.known.length+vs.length≤s.vals.length):Bd P.ops { s with known:=s.known++vs }:=⟨by simp only [List.length_append];have:=h.k1;omega,by simpa using hl,h.b,h.st,h.a⟩
theorem Bd.any (h:Bd P.ops s):Bd P.ops (anyP P.ops s).1:=anyP_bd h
set_option maxHeartbeats 8000000 in
theorem loop_run (hN:Nq S)(h:UB m0 T m P s)(hb:Bd P.ops s)(hv:s.vals.length < 160)(hbl:s.blks.length≤20){K:List Fr}{rs:List ResultVar}{A:Value→Mem→Prop}{i:Nat} :
    (∀ m1 T1,UB m0 T1 m1 P (loopP P.ops s)→Bd P.ops (loopP P.ops s)→(loopP P.ops s).blks.length≤s.blks.length+3→(loopP P.ops s).vals.length≤300→W Tryd.prog TT S 86 [126,209,298] .skip K [(1,.pointer (some ⟨P.rb,0,none⟩)),(2,.pointer (some ⟨P.rc,0,none⟩)),(3,.pointer (some ⟨P.ub,0,none⟩)),(5,.pointer (some ⟨P.kb,0,none⟩)),(6,.pointer (some ⟨P.bb,0,none⟩)),(7,.pointer (some ⟨P.px,0,none⟩)),(10,.pointer (some ⟨P.nx,0,none⟩)),(11,.pointer (some ⟨P.sx,0,none⟩)),(12,.func (.func 34) #[] #[.pointer (some ⟨P.nx,0,none⟩),.pointer (some ⟨P.ub,0,none⟩),.pointer (some ⟨P.kb,0,none⟩),.pointer (some ⟨P.px,0,none⟩),.pointer (some ⟨P.sx,0,none⟩)]),(13,.func (.func 35) #[] #[.pointer (some ⟨P.bb,0,none⟩),.pointer (some ⟨P.ub,0,none⟩)]),(14,.int .i64 (i:Nat))] m1 (QF Tryd.prog rs A))→
    W Tryd.prog TT S 86 [126,209,298] (.seq (rgn TT 13 38) (.seq (rgn TT 13 39) (.seq (rgn TT 13 40) (.seq (rgn TT 13 41) (.seq (rgn TT 13 42) (.seq (rgn TT 13 43) (.seq (rgn TT 13 44) (.seq (rgn TT 13 45) (.seq (rgn TT 13 46) (.seq (rgn TT 13 47) (.seq (rgn TT 13 48) (.seq (rgn TT 13 49) (.seq (rgn TT 13 50) (.seq (rgn TT 13 51) (.seq (rgn TT 13 52) (.seq (rgn TT 13 53) (.seq (.seq (rgn TT 13 54) (.cond (.tmp 298) (rgn TT 13 55) .skip)) (.seq (rgn TT 13 56) (.seq (rgn TT 13 57) (.seq (rgn TT 13 58) (.seq (rgn TT 13 59) (rgn TT 13 60)))))))))))))))))))))) K [(1,.pointer (some ⟨P.rb,0,none⟩)),(2,.pointer (some ⟨P.rc,0,none⟩)),(3,.pointer (some ⟨P.ub,0,none⟩)),(5,.pointer (some ⟨P.kb,0,none⟩)),(6,.pointer (some ⟨P.bb,0,none⟩)),(7,.pointer (some ⟨P.px,0,none⟩)),(10,.pointer (some ⟨P.nx,0,none⟩)),(11,.pointer (some ⟨P.sx,0,none⟩)),(12,.func (.func 34) #[] #[.pointer (some ⟨P.nx,0,none⟩),.pointer (some ⟨P.ub,0,none⟩),.pointer (some ⟨P.kb,0,none⟩),.pointer (some ⟨P.px,0,none⟩),.pointer (some ⟨P.sx,0,none⟩)]),(13,.func (.func 35) #[] #[.pointer (some ⟨P.bb,0,none⟩),.pointer (some ⟨P.ub,0,none⟩)]),(14,.int .i64 (i:Nat))] m (QF Tryd.prog rs A):=by
  intro meth
  have g1:=hb.k1
  have g2:=hb.k2
  have g3:=hb.b
  obtain⟨k,K0⟩:∃ k,s.known.length=k:=⟨_,rfl⟩
  obtain⟨b,L0⟩:∃ b,s.blks.length=b:=⟨_,rfl⟩
  obtain⟨v,V0⟩:∃ v,s.vals.length=v:=⟨_,rfl⟩
  have hb3:b+1+1+1≤90:=by omega
  have hb2:b+1+1≤80:=by omega
  have hv9:v+5≤200:=by omega
  have hkv:k≤v:=by omega
  have hk1:1≤k:=by omega
  obtain⟨m1,kv,x,c1,hx,hy,hz,B1,kt1,la,lb,lx,D1,K1,V1,L1⟩:=h.any hN hb (by omega)
  obtain⟨_,_,_,_,_,_,lN,_⟩:=h.ll
  obtain⟨_,_,_,_,_,_,lN1,_⟩:=B1.ll
  simp [-Int.natCast_add,-w13_39,load_of ld3,load_of ld36,len_slice u36,index_slice u36 sz3,load_of ld86,eqV_fn _ _ (eqA2 _ _),c1,hx,hz,la,lb,lx,lN]
  have w1:IntKind.i64.wrap ((b:Int)+1)=(b:Int)+1:=wrap_i64 (by omega) (by omega)
  have w2:IntKind.i64.wrap ((b:Int)+1+1)=(b:Int)+2:=by rw [wrap_i64 (by omega) (by omega)];omega
  have w3:IntKind.i64.wrap ((b:Int)+1+2)=(b:Int)+3:=by rw [wrap_i64 (by omega) (by omega)];omega
  have ek1:(anyP P.ops s).1.known.length=k:=by rw [K1];exact K0
  have el1:(anyP P.ops s).1.blks.length=b:=by rw [L1];exact L0
  have ev1:(anyP P.ops s).1.vals.length=v:=by rw [V1];exact V0
  obtain⟨E,hE⟩:∃ E,loopP P.ops s=E:=⟨_,rfl⟩
  rw [hE] at meth
  unfold loopP at hE
  dsimp only at hE
  rw [L0] at hE meth
  clear g1 g2 g3 hv hbl K0 V0 L0 hx hy hz la lb lx K1 V1 L1 c1 lN lN1 kt1
  generalize (anyP P.ops s).1=s1 at *
  generalize (anyP P.ops s).2=f at *
  obtain⟨m2,T2,c2,B2⟩:=B1.endn hN (by omega) 1 0 [(b:Int)+1] 0
  obtain⟨_,ba1,_,_,lb1,_⟩:=B1.ll
  rw [el1] at c2 lb1
  have c2:callw Tryd.prog TT S 35 [.agg #[.slice none 0 0,.int .i64 1,.int .i64 0,.slice (some ⟨m1.next,0,none⟩) 1 1,.slice none 0 0,.int .i64 0],.pointer (some ⟨P.bb,0,none⟩),.pointer (some ⟨P.ub,0,none⟩)] (m1.new [.int .i64 ((b:Int)+1)] 3)=some (.int .i64 (b:Nat),m2):=c2
  simp [-Int.natCast_add,-w13_40,build_of bo40,buildSlice_of u36 bs3 rfl,fieldAddr_of fa34_3,load_of ld31,len_slice u31,lb1,w1,c2]
  simp [-Int.natCast_add,-w13_41,w1]
  have D2:=D1.end 1 0 [(b:Int)+1] 0
  have ek2:(endP 1 0 [(b:Int)+1] 0 s1).known.length=k:=ek1
  have ev2:(endP 1 0 [(b:Int)+1] 0 s1).vals.length=v:=ev1
  have el2:(endP 1 0 [(b:Int)+1] 0 s1).blks.length=b+1:=by simp [endP,el1]
  generalize endP 1 0 [(b:Int)+1] 0 s1=s2 at *
  obtain⟨m3,T3,e3,B3⟩:=B2.predn [(b:Int),(b:Int)+2]
  have e3:storeRow (m2.new [.int .i64 (b:Int),.int .i64 ((b:Int)+2)] 3) ⟨P.bb,4,none⟩ [.slice (some ⟨m2.next,0,none⟩) 2 2]=some m3:=e3
  simp [-Int.natCast_add,-w13_42,buildSlice_of u36 bs3 rfl,store_of sz36,fieldAddr_of fa40_4,w2,e3]
  have D3:=D2.bp [(b:Int),(b:Int)+2]
  have ek3:(bpP [(b:Int),(b:Int)+2] s2).known.length=k:=ek2
  have ev3:(bpP [(b:Int),(b:Int)+2] s2).vals.length=v:=ev2
  have el3:(bpP [(b:Int),(b:Int)+2] s2).blks.length=b+1:=el2
  generalize bpP [(b:Int),(b:Int)+2] s2=s3 at *
  clear ek1 ev1 el1 ek2 ev2 el2 D1 D2 B1 B2 c2 e3
  rw [ev3] at hE
  have hb3':=D3.b
  obtain⟨_,_,_,_,_,_,_,lP3,_⟩:=B3.ll
  obtain⟨T3',B3',d3,a3,k3⟩:=B3.ints [f,0] rfl
  obtain⟨m4,T4,c4,B4,a4,k4⟩:=B3'.put hN (by omega) (by omega) ((21,0,0,0,[f,0],0,()):ValT.D) d3
  have c4:callw Tryd.prog TT S 31 [.agg #[.int .i64 21,.int .i64 0,.int .i64 0,.int .i64 0,.slice (some ⟨m3.next,0,none⟩) 2 2,.int .i64 0],.pointer (some ⟨P.ub,0,none⟩),.pointer (some ⟨P.bb,0,none⟩)] (m3.new [.int .i64 f,.int .i64 0] 3)=some (.int .i64 (s3.vals.length:Nat),m4):=c4
  rw [ev3] at c4
  simp [-Int.natCast_add,-w13_43,load_of ld85,build_of bo38,buildSlice_of u36 bs3 rfl,lP3,c4]
  have D4:=D3.put ((21,0,0,0,[f,0],0,()):ValT.D)
  have ek4:(putP ((21,0,0,0,[f,0],0,()):ValT.D) s3).known.length=k:=ek3
  have ev4:(putP ((21,0,0,0,[f,0],0,()):ValT.D) s3).vals.length=v+1:=by simp [putP,ev3]
  have el4:(putP ((21,0,0,0,[f,0],0,()):ValT.D) s3).blks.length=b+1:=el3
  generalize putP ((21,0,0,0,[f,0],0,()):ValT.D) s3=s4 at *
  clear ek3 ev3 el3 D3 B3 B3' c4 lP3 d3 a3 k3 a4 k4 hb3'
  obtain⟨m5,kv,x,c5,hx,hy,hz,B5,kt5,la,lb,lx,D5,K5,V5,L5⟩:=B4.any hN D4 (by omega)
  have ek5:(anyP P.ops s4).1.known.length=k:=by rw [K5];exact ek4
  have el5:(anyP P.ops s4).1.blks.length=b+1:=by rw [L5];exact el4
  have ev5:(anyP P.ops s4).1.vals.length=v+1:=by rw [V5];exact ev4
  rw [ev5] at hE
  clear K5 V5 L5
  generalize (anyP P.ops s4).1=s5 at *
  generalize (anyP P.ops s4).2=a at *
  obtain⟨_,_,_,_,_,_,lN4,lP4,_⟩:=B4.ll
  obtain⟨_,_,_,_,_,_,lN5,lP5,_⟩:=B5.ll
  have hb5:=D5.b
  obtain⟨T5',B5',d5,a5,k5⟩:=B5.ints [a,(v:Int)] rfl
  obtain⟨_,_,_,_,_,_,_,lP5',_⟩:=B5'.ll
  have lP5':loadRow (m5.new [.int .i64 a,.int .i64 (v:Int)] 3) ⟨P.px,0,none⟩ 1=_:=lP5'
  obtain⟨m6,T6,c6,B6,a6,k6⟩:=B5'.put hN (by omega) (by omega) ((21,0,0,0,[a,(v:Int)],0,()):ValT.D) d5
  have c6:callw Tryd.prog TT S 31 [.agg #[.int .i64 21,.int .i64 0,.int .i64 0,.int .i64 0,.slice (some ⟨m5.next,0,none⟩) 2 2,.int .i64 0],.pointer (some ⟨P.ub,0,none⟩),.pointer (some ⟨P.bb,0,none⟩)] (m5.new [.int .i64 a,.int .i64 (v:Int)] 3)=some (.int .i64 (s5.vals.length:Nat),m6):=c6
  rw [ev5] at c6
  simp [-Int.natCast_add,-w13_44,load_of ld3,load_of ld36,load_of ld85,build_of bo38,buildSlice_of u36 bs3 rfl,len_slice u36,index_slice u36 sz3,load_of ld86,eqV_fn _ _ (eqA2 _ _),c5,hx,hz,la,lb,lx,lN4,lP4,lP5,lP5',c6]
  have D6:=D5.put ((21,0,0,0,[a,(v:Int)],0,()):ValT.D)
  have ek6:(putP ((21,0,0,0,[a,(v:Int)],0,()):ValT.D) s5).known.length=k:=ek5
  have ev6:(putP ((21,0,0,0,[a,(v:Int)],0,()):ValT.D) s5).vals.length=v+2:=by simp [putP,ev5]
  have el6:(putP ((21,0,0,0,[a,(v:Int)],0,()):ValT.D) s5).blks.length=b+1:=el5
  have X6:(putP ((21,0,0,0,[a,(v:Int)],0,()):ValT.D) s5).vals[v+1]?=some ((21,0,0,0,[a,(v:Int)],0,()):ValT.D):=by
    simp only [putP]
    rw [List.getElem?_append_right (by omega),ev5,Nat.sub_self]
    rfl
  generalize putP ((21,0,0,0,[a,(v:Int)],0,()):ValT.D) s5=s6 at *
  clear ek4 ev4 el4 ek5 ev5 el5 D4 D5 B4 B5 B5' c5 c6 hx hy hz la lb lx lN4 lN5 lP4 lP5 lP5' d5 a5 k5 a6 k6 kt5 hb5
  obtain⟨ka,l1,_,l3,m7,ka2,m7',T7,e7,l4,e7',B7⟩:=B6.kns B6 (KT.refl (is:=[])) Ag.refl (by simp) rfl (by omega) [(v:Int),((v+1:Nat):Int)] (by simp) (by simp)
  rw [ek6] at l1 e7 l4 e7'
  have e7:sappend Tryd.prog 36 (m6.new [.int .i64 (v:Int),.int .i64 ((v+1:Nat):Int)] 3) (.slice ka k k) [.int .i64 (v:Int),.int .i64 ((v+1:Nat):Int)] 2=some (.slice ka2 (k+2) (k+2),m7):=e7
  have e7':storeRow m7 ⟨P.kb,0,none⟩ [.slice ka2 (k+2) (k+2)]=some m7':=e7'
  simp [-Int.natCast_add,-w13_45,load_of ld36,buildSlice_of u36 bs3 rfl,append_s u36 sz3,store_of sz36,l1,e7,e7']
  have D7:Bd P.ops ({ s6 with known:=s6.known++[(v:Int),((v+1:Nat):Int)] }:Us):=D6.kns (by simp only [List.length_cons,List.length_nil];omega)
  have ek7:(({ s6 with known:=s6.known++[(v:Int),((v+1:Nat):Int)] }:Us):Us).known.length=k+2:=by simp [ek6]
  have ev7:(({ s6 with known:=s6.known++[(v:Int),((v+1:Nat):Int)] }:Us):Us).vals.length=v+2:=ev6
  have el7:(({ s6 with known:=s6.known++[(v:Int),((v+1:Nat):Int)] }:Us):Us).blks.length=b+1:=el6
  have X7:(({ s6 with known:=s6.known++[(v:Int),((v+1:Nat):Int)] }:Us):Us).vals[v+1]?=some ((21,0,0,0,[a,(v:Int)],0,()):ValT.D):=X6
  generalize (({ s6 with known:=s6.known++[(v:Int),((v+1:Nat):Int)] }:Us):Us)=s7 at *
  clear ek6 ev6 el6 D6 B6 l1 l3 e7 e7' l4 X6
  obtain⟨m8,T8,c8,B8⟩:=B7.state hN D7 (by omega) (by omega)
  obtain⟨_,f1,f2,f3,f4,_,_⟩:=stateP_bd (d:=(0,0,0,0,[],0,())) D7
  have D9:=(stateP_bd D7 ((23,0,0,0,[],(stateP P.ops s7).2,()):ValT.D)).1
  have hb8:=D7.b
  obtain⟨_,_,_,_,_,_,_,lP7,lS7⟩:=B7.ll
  obtain⟨_,_,_,_,_,_,_,lP8,lS8⟩:=B8.ll
  obtain⟨m9,T9,c9,B9,_,_⟩:=B8.put hN (by rw [f1];omega) (by rw [f3];omega) ((23,0,0,0,[],(stateP P.ops s7).2,()):ValT.D) nil_dat
  have c9:callw Tryd.prog TT S 31 [.agg #[.int .i64 23,.int .i64 0,.int .i64 0,.int .i64 0,.slice none 0 0,.int .i64 (stateP P.ops s7).2],.pointer (some ⟨P.ub,0,none⟩),.pointer (some ⟨P.bb,0,none⟩)] m8=some (.int .i64 ((stateP P.ops s7).1.vals.length:Nat),m9):=c9
  simp [-Int.natCast_add,-w13_46,load_of ld85,build_of bo38,load_of ld87,eqV_fn _ _ (eqA2 _ _),eqV_fn _ _ (eqA3 _ _ _),lP7,lP8,lS7,c8,c9]
  have ek9:(putP ((23,0,0,0,[],(stateP P.ops s7).2,()):ValT.D) (stateP P.ops s7).1).known.length=k+2:=by simp only [putP];rw [f2];exact ek7
  have ev9:(putP ((23,0,0,0,[],(stateP P.ops s7).2,()):ValT.D) (stateP P.ops s7).1).vals.length=v+3:=by simp only [putP,List.length_append,List.length_cons,List.length_nil];rw [f1];omega
  have el9:(putP ((23,0,0,0,[],(stateP P.ops s7).2,()):ValT.D) (stateP P.ops s7).1).blks.length=b+1:=by simp only [putP];rw [f4];exact el7
  have X9:(putP ((23,0,0,0,[],(stateP P.ops s7).2,()):ValT.D) (stateP P.ops s7).1).vals[v+1]?=some ((21,0,0,0,[a,(v:Int)],0,()):ValT.D):=by simp only [putP];rw [f1];exact get_app X7
  generalize putP ((23,0,0,0,[],(stateP P.ops s7).2,()):ValT.D) (stateP P.ops s7).1=s9 at *
  clear ek7 ev7 el7 X7 D7 B7 B8 c8 c9 lP7 lP8 lS7 lS8 f1 f2 f3 f4 hb8
  rw [ev9] at hE
  have hb9:=D9.b
  obtain⟨_,_,_,_,_,_,_,lP9,_⟩:=B9.ll
  obtain⟨m10,T10,c10,B10,_,_⟩:=B9.put hN (by omega) (by omega) ((2,0,0,1,[],0,()):ValT.D) nil_dat
  have c10:callw Tryd.prog TT S 31 [.agg #[.int .i64 2,.int .i64 0,.int .i64 0,.int .i64 1,.slice none 0 0,.int .i64 0],.pointer (some ⟨P.ub,0,none⟩),.pointer (some ⟨P.bb,0,none⟩)] m9=some (.int .i64 (s9.vals.length:Nat),m10):=c10
  rw [ev9] at c10
  simp [-Int.natCast_add,-w13_47,load_of ld85,build_of bo38,lP9,c10]
  have D10:=D9.put ((2,0,0,1,[],0,()):ValT.D)
  have ek10:(putP ((2,0,0,1,[],0,()):ValT.D) s9).known.length=k+2:=ek9
  have ev10:(putP ((2,0,0,1,[],0,()):ValT.D) s9).vals.length=v+4:=by simp [putP,ev9]
  have el10:(putP ((2,0,0,1,[],0,()):ValT.D) s9).blks.length=b+1:=el9
  have X10:(putP ((2,0,0,1,[],0,()):ValT.D) s9).vals[v+1]?=some ((21,0,0,0,[a,(v:Int)],0,()):ValT.D):=get_app X9
  generalize putP ((2,0,0,1,[],0,()):ValT.D) s9=s10 at *
  clear ek9 ev9 el9 X9 D9 B9 c10 lP9 hb9
  rw [ev10] at hE
  have hb10:=D10.b
  obtain⟨_,_,_,_,_,_,_,lP10,_⟩:=B10.ll
  obtain⟨m11,T11,c11,B11,_,_⟩:=B10.put hN (by omega) (by omega) ((4,(v:Int),((v+3:Nat):Int),0,[],0,()):ValT.D) nil_dat
  have c11:callw Tryd.prog TT S 31 [.agg #[.int .i64 4,.int .i64 (v:Int),.int .i64 ((v+3:Nat):Int),.int .i64 0,.slice none 0 0,.int .i64 0],.pointer (some ⟨P.ub,0,none⟩),.pointer (some ⟨P.bb,0,none⟩)] m10=some (.int .i64 (s10.vals.length:Nat),m11):=c11
  rw [ev10] at c11
  simp [-Int.natCast_add,-w13_48,load_of ld85,build_of bo38,lP10,c11]
  have ekp:(putP ((4,(v:Int),((v+3:Nat):Int),0,[],0,()):ValT.D) s10).known.length=k+2:=ek10
  obtain⟨ka,l1,_,l3,m12,ka2,mb,T12,e12,l4,e12',B12⟩:=B11.kns B11 (KT.refl (is:=[])) Ag.refl (by simp) rfl (by omega) [((v+4:Nat):Int)] (by simp) (by simp)
  rw [ekp] at l1 e12 l4 e12'
  have e12:sappend Tryd.prog 36 (m11.new [.int .i64 ((v+4:Nat):Int)] 3) (.slice ka (k+2) (k+2)) [.int .i64 ((v+4:Nat):Int)] 1=some (.slice ka2 (k+2+1) (k+2+1),m12):=e12
  have e12':storeRow m12 ⟨P.kb,0,none⟩ [.slice ka2 (k+2+1) (k+2+1)]=some mb:=e12'
  have eK:knP ((4,(v:Int),((v+3:Nat):Int),0,[],0,()):ValT.D) s10={ putP ((4,(v:Int),((v+3:Nat):Int),0,[],0,()):ValT.D) s10 with known:=(putP ((4,(v:Int),((v+3:Nat):Int),0,[],0,()):ValT.D) s10).known++[((v+4:Nat):Int)] }:=by unfold knP;rw [ev10];rfl
  rw [← eK] at B12
  simp [-Int.natCast_add,-w13_49,load_of ld36,buildSlice_of u36 bs3 rfl,append_s u36 sz3,store_of sz36,l1,e12,e12']
  have D12:=D10.kn ((4,(v:Int),((v+3:Nat):Int),0,[],0,()):ValT.D)
  have ek12:(knP ((4,(v:Int),((v+3:Nat):Int),0,[],0,()):ValT.D) s10).known.length=k+3:=by simp [knP,ek10]
  have ev12:(knP ((4,(v:Int),((v+3:Nat):Int),0,[],0,()):ValT.D) s10).vals.length=v+5:=by simp [knP,putP,ev10]
  have el12:(knP ((4,(v:Int),((v+3:Nat):Int),0,[],0,()):ValT.D) s10).blks.length=b+1:=el10
  have X12:(knP ((4,(v:Int),((v+3:Nat):Int),0,[],0,()):ValT.D) s10).vals[v+1]?=some ((21,0,0,0,[a,(v:Int)],0,()):ValT.D):=get_app X10
  generalize knP ((4,(v:Int),((v+3:Nat):Int),0,[],0,()):ValT.D) s10=s12 at *
  clear ek10 ev10 el10 X10 D10 B10 B11 c11 lP10 hb10 ekp l1 l3 e12 e12' l4 eK
  obtain⟨m13,T13,c13,B13⟩:=B12.endn hN (by omega) 2 (v:Int) [(b:Int)+2,(b:Int)+3] 0
  rw [el12] at c13
  have c13:callw Tryd.prog TT S 35 [.agg #[.slice none 0 0,.int .i64 2,.int .i64 (v:Int),.slice (some ⟨mb.next,0,none⟩) 2 2,.slice none 0 0,.int .i64 0],.pointer (some ⟨P.bb,0,none⟩),.pointer (some ⟨P.ub,0,none⟩)] (mb.new [.int .i64 ((b:Int)+2),.int .i64 ((b:Int)+3)] 3)=some (.int .i64 ((b+1:Nat):Int),m13):=c13
  simp [-Int.natCast_add,-w13_50,build_of bo40,buildSlice_of u36 bs3 rfl,w2,w3,c13]
  have D13:=D12.end 2 (v:Int) [(b:Int)+2,(b:Int)+3] 0
  have ek13:(endP 2 (v:Int) [(b:Int)+2,(b:Int)+3] 0 s12).known.length=k+3:=ek12
  have ev13:(endP 2 (v:Int) [(b:Int)+2,(b:Int)+3] 0 s12).vals.length=v+5:=ev12
  have el13:(endP 2 (v:Int) [(b:Int)+2,(b:Int)+3] 0 s12).blks.length=b+1+1:=by simp [endP,el12]
  have X13:(endP 2 (v:Int) [(b:Int)+2,(b:Int)+3] 0 s12).vals[v+1]?=some ((21,0,0,0,[a,(v:Int)],0,()):ValT.D):=X12
  rw [ek13] at hE
  generalize endP 2 (v:Int) [(b:Int)+2,(b:Int)+3] 0 s12=s13 at *
  clear ek12 ev12 el12 X12 D12 B12 c13
  obtain⟨ka,_,_,lk13,_⟩:=B13.ll
  rw [ek13] at lk13
  simp [-Int.natCast_add,-w13_51,load_of ld36,len_slice u36,lk13]
  obtain⟨m14,T14,e14,B14⟩:=B13.predn [(b:Int)+1]
  have e14:storeRow (m13.new [.int .i64 ((b:Int)+1)] 3) ⟨P.bb,4,none⟩ [.slice (some ⟨m13.next,0,none⟩) 1 1]=some m14:=e14
  simp [-Int.natCast_add,-w13_52,buildSlice_of u36 bs3 rfl,store_of sz36,fieldAddr_of fa40_4,e14]
  have D14:=D13.bp [(b:Int)+1]
  have ek14:(bpP [(b:Int)+1] s13).known.length=k+3:=ek13
  have ev14:(bpP [(b:Int)+1] s13).vals.length=v+5:=ev13
  have el14:(bpP [(b:Int)+1] s13).blks.length=b+1+1:=el13
  have X14:(bpP [(b:Int)+1] s13).vals[v+1]?=some ((21,0,0,0,[a,(v:Int)],0,()):ValT.D):=X13
  generalize bpP [(b:Int)+1] s13=s14 at *
  clear ek13 ev13 el13 X13 D13 B13 e14 lk13
  obtain⟨v15,m15,T15,c15,B15,D15,V15,L15⟩:=B14.row hN D14 (by omega) (by omega)
  simp [-Int.natCast_add,-w13_53,c15]
  have ek15:=rowP_known D14
  obtain⟨lv,V15'⟩:=rowP_vals D14
  have X15:(rowP P.ops s14).vals[v+1]?=some ((21,0,0,0,[a,(v:Int)],0,()):ValT.D):=by rw [V15'];exact get_app X14
  have ev15:v+5≤(rowP P.ops s14).vals.length:=by rw [V15',List.length_append];omega
  have ew15:(rowP P.ops s14).vals.length≤200:=by omega
  have el15:(rowP P.ops s14).blks.length=b+1+1:=by rw [L15];exact el14
  rw [ek14] at ek15
  clear V15' V15 L15 c15
  generalize rowP P.ops s14=s15 at *
  clear ek14 ev14 el14 X14 D14 B14
  have hvl:v < s15.vals.length:=by omega
  have hvi:(v:Int) < s15.vals.length:=by omega
  have hvj:(v:Int)≤9223372036854775807:=by omega
  obtain⟨va,l1,m16,T16,e16,B16⟩:=B15.args hvl [f,((v+4:Nat):Int)]
  have e16:storeRow (m15.new [.int .i64 f,.int .i64 ((v+4:Nat):Int)] 3) ⟨va,v * 6+4,none⟩ [.slice (some ⟨m15.next,0,none⟩) 2 2]=some m16:=e16
  simp [-Int.natCast_add,-w13_54,buildSlice_of u36 bs3 rfl,store_of sz36,fieldAddr_of fa34_2,load_of ld30,index_slice u30 sz38,fieldAddr_of fa38_4,l1,hvl,hvj,e16]
  simp only [Int.toNat_natCast] at hE
  have D16:=D15.sets v [f,((v+4:Nat):Int)]
  obtain⟨f1,f2,f3,_,_,_⟩:=setArgs_vals (s:=s15) (p:=v) (l:=[f,((v+4:Nat):Int)])
  have X16:=setArgs_get (l:=[f,((v+4:Nat):Int)]) X15 (p:=v) (by omega)
  have ek16:k+3≤(setArgs v [f,((v+4:Nat):Int)] s15).known.length:=by rw [f2];exact ek15
  have ew16:(setArgs v [f,((v+4:Nat):Int)] s15).vals.length≤200:=by rw [f1];exact ew15
  have ev16:v+5≤(setArgs v [f,((v+4:Nat):Int)] s15).vals.length:=by rw [f1];exact ev15
  have el16:(setArgs v [f,((v+4:Nat):Int)] s15).blks.length=b+1+1:=by rw [f3];exact el15
  clear f1 f2 f3
  generalize setArgs v [f,((v+4:Nat):Int)] s15=s16 at *
  clear ek15 ev15 ew15 el15 X15 D15 B15 hvl hvi e16 l1
  obtain⟨m17,c17,B17⟩:=B16.next hN D16 (k:=3) (by omega) (by omega)
  have D17:=D16.next 3
  obtain⟨_,_,_,_,_,_,lN16,_⟩:=B16.ll
  obtain⟨f1,_,f3,_,f5,_⟩:=nextP_known (ops:=P.ops) (s:=s16) 3
  have ek17:k+3≤(nextP P.ops 3 s16).1.known.length:=by rw [f1];exact ek16
  have ew17:(nextP P.ops 3 s16).1.vals.length≤200:=by rw [f3];exact ew16
  have ev17:v+5≤(nextP P.ops 3 s16).1.vals.length:=by rw [f3];exact ev16
  have el17:(nextP P.ops 3 s16).1.blks.length=b+1+1:=by rw [f5];exact el16
  have X17:(nextP P.ops 3 s16).1.vals[v+1]?=some ((21,0,0,0,[a,(v:Int)],0,()):ValT.D):=by rw [f3];exact X16
  clear f1 f3 f5
  generalize (nextP P.ops 3 s16).1=s17 at *
  generalize (nextP P.ops 3 s16).2=n at *
  clear ek16 ev16 ew16 el16 X16 D16 B16
  have fin:∀ (s18:Us) (m18:Mem) (T18:Tg),UB m0 T18 m18 P s18→Bd P.ops s18→s18.vals.length≤200→s18.blks.length=b+1+1→k+3≤s18.known.length→s18.vals[v+1]?=some ((21,0,0,0,[a,(v:Int)],0,()):ValT.D)→tailP P.ops (v+1) a (k+3) ((b:Int)+1) s18=E→
      W Tryd.prog TT S 86 [126,209,298] (.seq (rgn TT 13 56) (.seq (rgn TT 13 57) (.seq (rgn TT 13 58) (.seq (rgn TT 13 59) (rgn TT 13 60))))) K [(1,.pointer (some ⟨P.rb,0,none⟩)),(2,.pointer (some ⟨P.rc,0,none⟩)),(3,.pointer (some ⟨P.ub,0,none⟩)),(5,.pointer (some ⟨P.kb,0,none⟩)),(6,.pointer (some ⟨P.bb,0,none⟩)),(7,.pointer (some ⟨P.px,0,none⟩)),(10,.pointer (some ⟨P.nx,0,none⟩)),(11,.pointer (some ⟨P.sx,0,none⟩)),(12,.func (.func 34) #[] #[.pointer (some ⟨P.nx,0,none⟩),.pointer (some ⟨P.ub,0,none⟩),.pointer (some ⟨P.kb,0,none⟩),.pointer (some ⟨P.px,0,none⟩),.pointer (some ⟨P.sx,0,none⟩)]),(13,.func (.func 35) #[] #[.pointer (some ⟨P.bb,0,none⟩),.pointer (some ⟨P.ub,0,none⟩)]),(14,.int .i64 (i:Nat)),(24,.int .i64 ((b:Int)+1)),(26,.int .i64 ((v+1:Nat):Int)),(29,.int .i64 ((k+3:Nat):Int))] m18 (QF Tryd.prog rs A):=by
    intro s18 m18 T18 B18 D18 ev18 el18 ek18 X18 hE
    obtain⟨hq,hx⟩:=List.getElem?_eq_some_iff.1 X18
    refine loopt_run hN B18 D18 (Nat.le_trans ev18 (by decide)) (by rw [el18];exact hb2) (y:=(v:Int)) hq (by rw [hx]) ek18 (by omega) ?_
    rw [hE]
    exact fun m1 T1 h1 h2 h3 h4=>meth m1 T1 h1 h2 (by rw [h3,el18];omega) h4
  clear meth
  by_cases hn:n=0
  · rw [if_pos hn] at hE
    have g1:=D17.k1
    have g2:=D17.k2
    obtain⟨kv,lk,ll⟩:=B17.last g1
    have hvl:v < s17.vals.length:=by omega
    have hvi:(v:Int) < s17.vals.length:=by omega
    obtain⟨va,l1,m18,T18,e18,B18⟩:=B17.args hvl [f,lastP s17]
    have e18:storeRow (m17.new [.int .i64 f,.int .i64 (lastP s17)] 3) ⟨va,v * 6+4,none⟩ [.slice (some ⟨m17.next,0,none⟩) 2 2]=some m18:=e18
    have l1n:=(B17.lvn [.int .i64 f,.int .i64 (lastP s17)] 3).trans l1
    obtain⟨N,hN1⟩:∃ n,s17.known.length=n+1:=⟨s17.known.length - 1,by omega⟩
    rw [hN1] at lk ll
    rw [Nat.add_sub_cancel] at ll
    have wn:IntKind.i64.wrap (((N+1:Nat):Int) - 1)=(N:Int):=by rw [wrap_i64 (by omega) (by omega)];omega
    have x1:N < N+1:=by omega
    have x2:(N:Int) < (N+1:Nat):=by omega
    have x3:(N:Int)≤9223372036854775807:=by omega
    obtain⟨f1,f2,f3,_,_,_⟩:=setArgs_vals (s:=s17) (p:=v) (l:=[f,lastP s17])
    have H:=fin _ m18 T18 B18 (D17.sets v _) (by rw [f1];exact ew17) (by rw [f3];exact el17) (by rw [f2];exact ek17) (setArgs_get X17 (by omega)) hE
    simp [-Int.natCast_add,-w13_56,load_of ld3,load_of ld36,buildSlice_of u36 bs3 rfl,store_of sz36,len_slice u36,fieldAddr_of fa34_2,load_of ld30,index_slice u36 sz3,load_of ld86,index_slice u30 sz38,fieldAddr_of fa38_4,lN16,c17,hn,l1,l1n,lk,ll,wn,x1,x3,hvl,hvj,e18]
    exact (w_seq _ _).1 (w_sub (E:=[(1,.pointer (some ⟨P.rb,0,none⟩)),(2,.pointer (some ⟨P.rc,0,none⟩)),(3,.pointer (some ⟨P.ub,0,none⟩)),(5,.pointer (some ⟨P.kb,0,none⟩)),(6,.pointer (some ⟨P.bb,0,none⟩)),(7,.pointer (some ⟨P.px,0,none⟩)),(10,.pointer (some ⟨P.nx,0,none⟩)),(11,.pointer (some ⟨P.sx,0,none⟩)),(12,.func (.func 34) #[] #[.pointer (some ⟨P.nx,0,none⟩),.pointer (some ⟨P.ub,0,none⟩),.pointer (some ⟨P.kb,0,none⟩),.pointer (some ⟨P.px,0,none⟩),.pointer (some ⟨P.sx,0,none⟩)]),(13,.func (.func 35) #[] #[.pointer (some ⟨P.bb,0,none⟩),.pointer (some ⟨P.ub,0,none⟩)]),(14,.int .i64 (i:Nat)),(24,.int .i64 ((b:Int)+1)),(26,.int .i64 ((v+1:Nat):Int)),(29,.int .i64 ((k+3:Nat):Int))]) H ⟨by rfl,by rfl,by rfl,by rfl,by rfl,by rfl,by rfl,by rfl,by rfl,by rfl,by rfl,by rfl,by rfl,by rfl,trivial⟩)
  · rw [if_neg hn] at hE
    have H:=fin _ m17 _ B17 D17 ew17 el17 ek17 X17 hE
    simp [-Int.natCast_add,-w13_56,load_of ld86,lN16,c17,hn]
    exact (w_seq _ _).1 (w_sub (E:=[(1,.pointer (some ⟨P.rb,0,none⟩)),(2,.pointer (some ⟨P.rc,0,none⟩)),(3,.pointer (some ⟨P.ub,0,none⟩)),(5,.pointer (some ⟨P.kb,0,none⟩)),(6,.pointer (some ⟨P.bb,0,none⟩)),(7,.pointer (some ⟨P.px,0,none⟩)),(10,.pointer (some ⟨P.nx,0,none⟩)),(11,.pointer (some ⟨P.sx,0,none⟩)),(12,.func (.func 34) #[] #[.pointer (some ⟨P.nx,0,none⟩),.pointer (some ⟨P.ub,0,none⟩),.pointer (some ⟨P.kb,0,none⟩),.pointer (some ⟨P.px,0,none⟩),.pointer (some ⟨P.sx,0,none⟩)]),(13,.func (.func 35) #[] #[.pointer (some ⟨P.bb,0,none⟩),.pointer (some ⟨P.ub,0,none⟩)]),(14,.int .i64 (i:Nat)),(24,.int .i64 ((b:Int)+1)),(26,.int .i64 ((v+1:Nat):Int)),(29,.int .i64 ((k+3:Nat):Int))]) H ⟨by rfl,by rfl,by rfl,by rfl,by rfl,by rfl,by rfl,by rfl,by rfl,by rfl,by rfl,by rfl,by rfl,by rfl,trivial⟩)
end Go.Proofs.YtlogdohlcdhepaaDoor.base
end
section
set_option maxRecDepth 100000
namespace Go.Proofs.YtlogdohlcdhepaaDoor.base
open Go.Sh gen
variable {S:Sums}{T T':Tg}{m0 m m1 m2:Mem}{is js:List Nat}{s s1:Us}{P:Pl}
theorem cells_fn (f:Fn)(a b:Array Value):(Value.func f a b).cells=#[Value.func f a b]:=by
  rw [Value.cells]
  intro _ h
  cases h
theorem newst_T (T:Tg)(i:Nat){zs vs:List Value}{e:TypeId}{r:Option Mem}(hr:storeRow (m.new zs e) ⟨m.next,0,none⟩ vs=r)(hl:zs.length=vs.length)(h1:vs.all one=true) :
    ∃ m1 T',r=some m1∧Ag T T' m∧OwnT T' i m1 m.next vs e∧KT T [] m m1∧∀ f,T' f=T f∨T' f=i:=by
  obtain⟨o,k,n⟩:=new_own (m:=m) (cs:=zs) (e:=e) rfl
  obtain⟨m1,h2,o1,k2⟩:=store_own hr o (off:=0) (by omega) h1
  have e:over zs 0 vs=vs:=by simp [over,← hl]
  rw [e] at o1
  exact⟨m1,fun f=>if f=m.next then i else T f,h2,fun f hf=>if_neg (by omega),⟨_,o1,if_pos rfl⟩,KT.of (k.fresh k2 (by simp)),fun f=>by simp only;split <;> simp⟩
def Us0:Us:=⟨[],[],[],[],[],[],0⟩
def startP:Nat→Us
  | 0=>Us0
  | i+1=>knP (1,0,0,(i:Nat),[],0,()) (startP i)
theorem startP_len (k:Nat):(startP k).vals.length=k∧(startP k).known.length=k∧(startP k).bv.length=k∧(startP k).blks=[]∧(startP k).sts=[]∧(startP k).at_=0:=by
  induction k with
  | zero=>exact⟨rfl,rfl,rfl,rfl,rfl,rfl⟩
  | succ k ih=>obtain⟨h1,h2,h3,h4,h5,h6⟩:=ih;exact⟨by simp [startP,knP,putP,h1],by simp [startP,knP,h2],by simp [startP,knP,putP,h3],h4,h5,h6⟩
theorem px_load {T:Tg}{m:Mem}{px ub bb:Nat}(o:OwnT T 10 m px [.func (.func 31) #[] #[.pointer (some ⟨ub,0,none⟩),.pointer (some ⟨bb,0,none⟩)]] 85):loadRow m ⟨px,0,none⟩ 1=some [.func (.func 31) #[] #[.pointer (some ⟨ub,0,none⟩),.pointer (some ⟨bb,0,none⟩)]]∧∀ v:Int,loadRow (m.new [.int .i64 v] 3) ⟨px,0,none⟩ 1=some [.func (.func 31) #[] #[.pointer (some ⟨ub,0,none⟩),.pointer (some ⟨bb,0,none⟩)]]:=by
  obtain⟨f,o,_⟩:=o
  have l:=o.load1 (off:=0) rfl
  exact⟨l,fun v=>(o.ln _ _ 0 1).trans l⟩
theorem startP_bd (ops:List Int)(d:ValT.D)(k:Nat):Bd ops (knP d (startP k)):=by
  obtain⟨h1,h2,h3,h4,h5,h6⟩:=startP_len k
  exact⟨by simp [knP],by simp [knP,putP,h1,h2],by simp [knP,putP,h1,h3],by simp [knP,putP,h5],by simp [knP,putP,h6]⟩
def Us.un (s:Us):UnT.D:=(1,2,s.vals,s.blks,s.sts,())
theorem RowT.at {T:Tg}{m:Mem}{e i:Nat}{t:Ty}{l:List t.D}{ao:Option Addr}(h:RowT T m e t l ao i):AtQ (fun f=>f < m.next) m (.slice e t) l [.slice ao l.length l.length]:=by
  obtain⟨css,h1,h2,fam,h3,_⟩:=h
  refine⟨ao,css,fam,rfl,h1,fun j d c hd hc=>(h2 j d c hd hc).mono (fun f hq=>hq.2),h3.rs,fun hn=>?_⟩
  obtain⟨b,_,o⟩:=h3.own hn
  exact o.flt
set_option maxHeartbeats 4000000 in
theorem last_run (hN:Nq S)(h:UB m0 T m P s)(hb:Bd P.ops s)(hv:s.vals.length≤300)(hbl:s.blks.length≤20){A:Value→Mem→Prop}{i:Nat}
    (meth:∀ va ba sa m1,UAt (fun f=>f < m1.next) m1 (endP 3 0 [] (stateP P.ops s).2 (stateP P.ops s).1).un va ba sa→Keeps m0 m1 []→A (.agg #[.int .i64 1,.int .i64 2,.slice va (endP 3 0 [] (stateP P.ops s).2 (stateP P.ops s).1).vals.length (endP 3 0 [] (stateP P.ops s).2 (stateP P.ops s).1).vals.length,.slice ba (endP 3 0 [] (stateP P.ops s).2 (stateP P.ops s).1).blks.length (endP 3 0 [] (stateP P.ops s).2 (stateP P.ops s).1).blks.length,.slice sa (endP 3 0 [] (stateP P.ops s).2 (stateP P.ops s).1).sts.length (endP 3 0 [] (stateP P.ops s).2 (stateP P.ops s).1).sts.length]) m1) :
    W Tryd.prog TT S 86 [126,209,298] (.seq (rgn TT 13 71) (.seq (rgn TT 13 72) .ret)) [] [(1,.pointer (some ⟨P.rb,0,none⟩)),(2,.pointer (some ⟨P.rc,0,none⟩)),(3,.pointer (some ⟨P.ub,0,none⟩)),(5,.pointer (some ⟨P.kb,0,none⟩)),(6,.pointer (some ⟨P.bb,0,none⟩)),(7,.pointer (some ⟨P.px,0,none⟩)),(10,.pointer (some ⟨P.nx,0,none⟩)),(11,.pointer (some ⟨P.sx,0,none⟩)),(12,.func (.func 34) #[] #[.pointer (some ⟨P.nx,0,none⟩),.pointer (some ⟨P.ub,0,none⟩),.pointer (some ⟨P.kb,0,none⟩),.pointer (some ⟨P.px,0,none⟩),.pointer (some ⟨P.sx,0,none⟩)]),(13,.func (.func 35) #[] #[.pointer (some ⟨P.bb,0,none⟩),.pointer (some ⟨P.ub,0,none⟩)]),(14,.int .i64 (i:Nat))] m (QF Tryd.prog [.cell 2 34] A):=by
  obtain⟨m5,T5,c5,B5⟩:=h.state hN hb (by omega) (by omega)
  obtain⟨_,_,_,_,_,_,_,_,lS⟩:=h.ll
  obtain⟨_,f1,f2,_,f4,_,_⟩:=stateP_bd (d:=(0,0,0,0,[],0,())) hb
  obtain⟨m6,T6,c6,B6⟩:=B5.end hN (by rw [f4];omega) 3 0 [] (stateP P.ops s).2 nil_dat
  have c6:callw Tryd.prog TT S 35 [.agg #[.slice none 0 0,.int .i64 3,.int .i64 0,.slice none 0 0,.slice none 0 0,.int .i64 (stateP P.ops s).2],.pointer (some ⟨P.bb,0,none⟩),.pointer (some ⟨P.ub,0,none⟩)] m5=some (.int .i64 ((stateP P.ops s).1.blks.length:Nat),m6):=c6
  simp [-Int.natCast_add,-w13_72,build_of bo40,load_of ld87,lS,c5,c6]
  generalize endP 3 0 [] (stateP P.ops s).2 (stateP P.ops s).1=s6 at *
  obtain⟨va,ba,sa,u1,u2,u3,u4⟩:=B6.u.u
  obtain⟨m7,e7,o7,k7⟩:=store_T (off:=0) (vs:=[.int .i64 1,.int .i64 2,.slice va s6.vals.length s6.vals.length,.slice ba s6.blks.length s6.blks.length,.slice sa s6.sts.length s6.sts.length]) rfl B6.o (by simp) (by simp [one_int,one_slice])
  simp [over] at o7
  obtain⟨f8,o8,_⟩:=o7
  have l8:=o8.load (off:=0) 5 (by simp)
  obtain⟨f9,o9,_⟩:=u1
  have l9:=o9.load (off:=0) 5 (by simp)
  simp only [window,List.drop_zero,List.take] at l8 l9
  simp [-Int.natCast_add,lres_agg ld34,store_of sz34,load_agg ld34,l9,e7,l8]
  exact meth va ba sa m7 ⟨RowT.at (u2.keep k7 Ag.refl (by simp) (by simp)),RowT.at (u3.keep k7 Ag.refl (by simp) (by simp)),RowT.at (u4.keep k7 Ag.refl (by simp) (by simp))⟩ (jk B6.j0 B6.j1 k7 (by simp))
def shapesP (ops:List Int):List Int→Nat→Us→Us
  | [],_,s=>s
  | _::_,0,s=>s
  | x::r,j+1,s=>if s.vals.length < 160 then shapesP ops r j (if x % 3=0 then diaP ops s else if x % 3=1 then loopP ops s else exitP ops s) else s
def unitP (ops sh:List Int)(n:Int):Us:=
  let s:=shapesP ops sh 6 (rowP ops (knP (2,0,0,5,[],0,()) (startP (n % 5).toNat)))
  endP 3 0 [] (stateP ops s).2 (stateP ops s).1
set_option maxHeartbeats 8000000 in
theorem unit_run (hN:Nq S){oa sa:Option Addr}{ops sh:List Int}{n:Int}(ho:IntsAt (fun f=>f < m0.next) m0 oa ops)(hs:IntsAt (fun f=>f < m0.next) m0 sa sh)(hol:ops.length≤9223372036854775807) :
    ∃ v m1,callw Tryd.prog TT S 13 [.agg #[.slice oa ops.length ops.length,.slice sa sh.length sh.length,.int .i64 n]] m0=some (v,m1)∧∃ va ba sa,v=.agg #[.int .i64 1,.int .i64 2,.slice va (unitP ops sh n).vals.length (unitP ops sh n).vals.length,.slice ba (unitP ops sh n).blks.length (unitP ops sh n).blks.length,.slice sa (unitP ops sh n).sts.length (unitP ops sh n).sts.length]∧UAt (fun f=>f < m1.next) m1 (unitP ops sh n).un va ba sa∧Keeps m0 m1 []∧(1≤(unitP ops sh n).vals.length∧(unitP ops sh n).vals.length≤300∧(unitP ops sh n).blks.length≤20∧(unitP ops sh n).sts.length≤330):=by
  have ho:IntsAt (DQ (fun _=>0) m0) m0 oa ops:=by
    obtain⟨f,h1,h2⟩:=ho
    exact⟨f,h1,fun hz=>⟨rfl,h2 hz⟩⟩
  have hs:IntsAt (DQ (fun _=>0) m0) m0 sa sh:=by
    obtain⟨f,h1,h2⟩:=hs
    exact⟨f,h1,fun hz=>⟨rfl,h2 hz⟩⟩
  obtain⟨T1,a1,oR1,k1,n1,w1⟩:=new_T (m:=m0) (fun _=>0) 10 (cs:=[.slice oa ops.length ops.length,.slice sa sh.length sh.length,.int .i64 n]) (e:=47) rfl
  have J1:=k1
  have j1:∀ f,f < m0.next→T1 f=0:=fun f hf=>a1 f hf
  have k1:KT (fun _=>0) [] m0 _:=KT.of k1
  have ho1:=ints_keep ho k1 a1 (by simp)
  have hs1:=ints_keep hs k1 a1 (by simp)
  refine fn_w 86 [126,209,298] k13 hN.unit rfl ?_
  simp [-Int.natCast_add,-w13_1,box_of b47,alloc_of zo34]
  generalize m0.new _ _=m1 at *
  generalize hrb:m0.next=rb at oR1 ⊢
  obtain⟨T2,a2,oX2,k2,n2,w2⟩:=new_T (m:=m1) T1 10 (cs:=[.int .i64 0,.int .i64 0,.slice none 0 0,.slice none 0 0,.slice none 0 0]) (e:=34) rfl
  have k2:KT T1 [] m1 _:=KT.of k2
  have oR2:=oR1.keep k2 a2 (by simp)
  have ho2:=ints_keep ho1 k2 a2 (by simp)
  have hs2:=ints_keep hs1 k2 a2 (by simp)
  have j2:=ja j1 J1 a2
  have J2:=jk j1 J1 k2 (by simp)
  generalize m1.new _ _=m2 at *
  generalize m1.next=rc at *
  simp [-Int.natCast_add,-w13_2,alloc_of zo34,build_of bo34,store_of sz34]
  generalize hr3:storeRow _ _ _=r3
  obtain⟨m3,T3,rfl,a3,oU3,k3,w3⟩:=newst_T T2 1 hr3 rfl (by simp [one_int,one_slice])
  clear hr3
  have oR3:=oR2.keep k3 a3 (by simp)
  have oX3:=oX2.keep k3 a3 (by simp)
  have ho3:=ints_keep ho2 k3 a3 (by simp)
  have hs3:=ints_keep hs2 k3 a3 (by simp)
  have j3:=ja j2 J2 a3
  have J3:=jk j2 J2 k3 (by simp)
  generalize m2.next=ub at *
  have lR:loadRow m3 ⟨rb,2,none⟩ 1=some [.int .i64 n]:=by
    obtain⟨f,o,_⟩:=oR3
    exact o.load1 (off:=2) rfl
  have pk:=pickb_run (m:=m3) hN.pick n 5 (by omega) (by omega)
  obtain⟨N,hN1⟩:∃ N:Nat,n % 5=N:=⟨(n % 5).toNat,by omega⟩
  have hN5:N≤4:=by omega
  rw [hN1] at pk
  simp [-Int.natCast_add,-w13_3,fieldAddr_of fa47_2,load_of ld3,lR,pk]
  obtain⟨T4,a4,oK4,k4,n4,w4⟩:=new_T (m:=m3) T3 5 (cs:=[.slice none 0 0]) (e:=36) rfl
  have k4:KT T3 [] m3 _:=KT.of k4
  have oR4:=oR3.keep k4 a4 (by simp)
  have oX4:=oX3.keep k4 a4 (by simp)
  have oU4:=oU3.keep k4 a4 (by simp)
  have ho4:=ints_keep ho3 k4 a4 (by simp)
  have hs4:=ints_keep hs3 k4 a4 (by simp)
  have j4:=ja j3 J3 a4
  have J4:=jk j3 J3 k4 (by simp)
  simp [-Int.natCast_add,-w13_4,alloc_of zo36]
  generalize m3.new _ _=m4 at *
  generalize m3.next=kb at *
  simp [-Int.natCast_add,-w13_5,build_of bo40,alloc_of zo40,store_of sz40]
  generalize hr5:storeRow _ _ _=r5
  obtain⟨m5,T5,rfl,a5,oB5,k5,w5⟩:=newst_T T4 7 hr5 rfl (by simp [one_int,one_slice])
  clear hr5
  have oR5:=oR4.keep k5 a5 (by simp)
  have oX5:=oX4.keep k5 a5 (by simp)
  have oU5:=oU4.keep k5 a5 (by simp)
  have oK5:=oK4.keep k5 a5 (by simp)
  have ho5:=ints_keep ho4 k5 a5 (by simp)
  have hs5:=ints_keep hs4 k5 a5 (by simp)
  have j5:=ja j4 J4 a5
  have J5:=jk j4 J4 k5 (by simp)
  generalize m4.next=bb at *
  simp [-Int.natCast_add,-w13_6,cells_fn,alloc_of zo85,store_of sz85]
  generalize hr6:storeRow _ _ _=r6
  obtain⟨m6,T6,rfl,a6,oP6,k6,w6⟩:=newst_T T5 10 hr6 rfl rfl
  clear hr6
  have oR6:=oR5.keep k6 a6 (by simp)
  have oX6:=oX5.keep k6 a6 (by simp)
  have oU6:=oU5.keep k6 a6 (by simp)
  have oK6:=oK5.keep k6 a6 (by simp)
  have oB6:=oB5.keep k6 a6 (by simp)
  have ho6:=ints_keep ho5 k6 a6 (by simp)
  have hs6:=ints_keep hs5 k6 a6 (by simp)
  have j6:=ja j5 J5 a6
  have J6:=jk j5 J5 k6 (by simp)
  generalize m5.next=px at *
  have t6:∀ f,T6 f≤10:=fun f=>by
    have e1:=w1 f
    have e2:=w2 f
    have e3:=w3 f
    have e4:=w4 f
    have e5:=w5 f
    have e6:=w6 f
    omega
  have U6:UM T6 m6 ub kb bb 0 Us0:=⟨⟨none,none,none,oU6,RowT.nil _ _ _ _ _,RowT.nil _ _ _ _ _,RowT.nil _ _ _ _ _⟩,⟨none,oK6,⟨0,Sr.nil _ _ _ _,by simp⟩⟩,⟨none,none,oB6,⟨0,Sl.nil _ _ _ _,by simp⟩,nil_dat⟩,Or.inl rfl⟩
  simp [-Int.natCast_add]
  refine wsem_loop 86 [126,209,298] (fun d E mG=>∃ (i:Nat) (T':Tg),N - i=d∧i≤N∧UM T' mG ub kb bb 0 (startP i)∧(∀ f,T' f≤10)∧Ag T6 T' m6∧KT T6 [1,2,5,6,7,8] m6 mG∧
    E=[(0,.agg #[.slice oa ops.length ops.length,.slice sa sh.length sh.length,.int .i64 n]),(1,.pointer (some ⟨rb,0,none⟩)),(2,.pointer (some ⟨rc,0,none⟩)),(3,.pointer (some ⟨ub,0,none⟩)),(4,.int .i64 (N:Int)),(5,.pointer (some ⟨kb,0,none⟩)),(6,.pointer (some ⟨bb,0,none⟩)),(7,.pointer (some ⟨px,0,none⟩)),(8,.int .i64 (i:Int))]) _ ⟨_,⟨0,T6,rfl,by omega,U6,t6,Ag.refl,KT.refl,rfl⟩,⟨by rfl,by rfl,by rfl,by rfl,by rfl,by rfl,by rfl,by rfl,by rfl,trivial⟩⟩ ?_
  rintro d E mG ih ⟨i,T',rfl,hiN,hU,hT',aG,kG,rfl⟩
  obtain⟨z1,z2,z3,z4,z5,z6⟩:=startP_len i
  have oP:OwnT T' 10 mG px _ _:=oP6.keep kG aG (by simp)
  by_cases hi:i < N
  · have hi':(i:Int) < N:=by omega
    obtain⟨J,hJ⟩:∃ J,i+1=J:=⟨_,rfl⟩
    have wi:IntKind.i64.wrap ((i:Int)+1)=(J:Int):=by rw [wrap_i64 (by omega) (by omega)];omega
    obtain⟨v7,m7,c7,rfl,T7,hU7,a7,k7,b7⟩:=uput_run hN hT' hU (by omega) (by omega) (d:=(1,0,0,(i:Nat),[],0,())) (aa:=none) nil_dat
    have c7:callw Tryd.prog TT S 31 [.agg #[.int .i64 1,.int .i64 0,.int .i64 0,.int .i64 (i:Nat),.slice none 0 0,.int .i64 0],.pointer (some ⟨ub,0,none⟩),.pointer (some ⟨bb,0,none⟩)] mG=some (.int .i64 ((startP i).vals.length:Nat),m7):=c7
    obtain⟨ka,l1,l2,l3,m8,ka2,m9,T9,e8,l4,e9,hU9,a9,k9,b9⟩:=UM.kn hU hU7 k7 a7 (by simp) rfl b7 (by omega) ((startP i).vals.length:Nat)
    obtain⟨lP,_⟩:=px_load oP
    obtain⟨lP7,lPn⟩:=px_load (oP.keep k7 a7 (by simp))
    simp [-Int.natCast_add,-w13_9,load_of ld36,load_of ld85,build_of bo38,buildSlice_of u36 bs3 rfl,append_s u36 sz3,store_of sz36,hi',eqV_fn _ _ (eqA2 _ _),lP,c7,l1,l2,l3,e8,e9]
    simp [-Int.natCast_add,wi]
    exact ih (N - J) [(0,.agg #[.slice oa ops.length ops.length,.slice sa sh.length sh.length,.int .i64 n]),(1,.pointer (some ⟨rb,0,none⟩)),(2,.pointer (some ⟨rc,0,none⟩)),(3,.pointer (some ⟨ub,0,none⟩)),(4,.int .i64 (N:Int)),(5,.pointer (some ⟨kb,0,none⟩)),(6,.pointer (some ⟨bb,0,none⟩)),(7,.pointer (some ⟨px,0,none⟩)),(8,.int .i64 (J:Int))] _ _ ⟨J,T9,rfl,by omega,by rw [← hJ];exact hU9,b9,(aG.trans a7 kG.le).trans a9 (by have:=kG.le;have:=k7.le;omega),(kG.trans aG (k7.mono (by simp))).trans (aG.trans a7 kG.le) (k9.mono (by simp)),rfl⟩ (by omega) ⟨by rfl,by rfl,by rfl,by rfl,by rfl,by rfl,by rfl,by rfl,by rfl,trivial⟩
  · have hi':¬ (i:Int) < N:=by omega
    obtain⟨v7,m7,c7,rfl,T7,hU7,a7,k7,b7⟩:=uput_run hN hT' hU (by omega) (by omega) (d:=(2,0,0,5,[],0,())) (aa:=none) nil_dat
    have c7:callw Tryd.prog TT S 31 [.agg #[.int .i64 2,.int .i64 0,.int .i64 0,.int .i64 5,.slice none 0 0,.int .i64 0],.pointer (some ⟨ub,0,none⟩),.pointer (some ⟨bb,0,none⟩)] mG=some (.int .i64 ((startP i).vals.length:Nat),m7):=c7
    obtain⟨ka,l1,l2,l3,m8,ka2,m9,T9,e8,l4,e9,hU9,a9,k9,b9⟩:=UM.kn hU hU7 k7 a7 (by simp) rfl b7 (by omega) ((startP i).vals.length:Nat)
    obtain⟨lP,_⟩:=px_load oP
    obtain⟨lP7,lPn⟩:=px_load (oP.keep k7 a7 (by simp))
    simp [-Int.natCast_add,-w13_10,hi']
    simp [-Int.natCast_add,-w13_11,load_of ld36,load_of ld85,build_of bo38,buildSlice_of u36 bs3 rfl,append_s u36 sz3,store_of sz36,eqV_fn _ _ (eqA2 _ _),lP,c7,l1,l2,l3,e8,e9]
    have aT:=(aG.trans a7 kG.le).trans a9 (by have:=kG.le;have:=k7.le;omega)
    have kT:KT T6 [1,2,5,6,7,8] m6 m9:=(kG.trans aG (k7.mono (by simp))).trans (aG.trans a7 kG.le) (k9.mono (by simp))
    have eN:i=N:=by omega
    subst eN
    have oR9:=oR6.keep kT aT (by simp)
    have oX9:=oX6.keep kT aT (by simp)
    have oP9:=oP6.keep kT aT (by simp)
    have ho9:=ints_keep ho6 kT aT (by simp)
    have hs9:=ints_keep hs6 kT aT (by simp)
    have j9:=ja j6 J6 aT
    have J9:=jk j6 J6 kT (by simp)
    simp [-Int.natCast_add,-w13_12,alloc_of zo3,store_of sz3]
    generalize hr10:storeRow _ _ _=r10
    obtain⟨m10,T10,rfl,a10,oA10,k10,w10⟩:=newst_T T9 9 hr10 rfl (by simp [one_int])
    clear hr10
    have oR10:=oR9.keep k10 a10 (by simp)
    have oX10:=oX9.keep k10 a10 (by simp)
    have oP10:=oP9.keep k10 a10 (by simp)
    have ho10:=ints_keep ho9 k10 a10 (by simp)
    have hs10:=ints_keep hs9 k10 a10 (by simp)
    have j10:=ja j9 J9 a10
    have J10:=jk j9 J9 k10 (by simp)
    have U10:=hU9.keep k10 a10 (by simp)
    have z:m9.next≠0:=by
      obtain⟨f,o,_⟩:=oP9
      have:=o.flt
      omega
    generalize m9.next=ab at *
    have U10:UM T10 m10 ub kb bb ab (knP (2,0,0,5,[],0,()) (startP i)):=⟨U10.u,U10.k,U10.b,Or.inr (by simp only [knP,putP,z6];exact oA10)⟩
    simp [-Int.natCast_add,-w13_13,cells_fn,alloc_of zo86,store_of sz86]
    generalize hr11:storeRow _ _ _=r11
    obtain⟨m11,T11,rfl,a11,oN11,k11,w11⟩:=newst_T T10 10 hr11 rfl rfl
    clear hr11
    have oR11:=oR10.keep k11 a11 (by simp)
    have oX11:=oX10.keep k11 a11 (by simp)
    have oP11:=oP10.keep k11 a11 (by simp)
    have ho11:=ints_keep ho10 k11 a11 (by simp)
    have hs11:=ints_keep hs10 k11 a11 (by simp)
    have j11:=ja j10 J10 a11
    have J11:=jk j10 J10 k11 (by simp)
    have U11:=U10.keep k11 a11 (by simp)
    generalize m10.next=nx at *
    simp [-Int.natCast_add,-w13_14,cells_fn,alloc_of zo87,store_of sz87]
    generalize hr12:storeRow _ _ _=r12
    obtain⟨m12,T12,rfl,a12,oS12,k12,w12⟩:=newst_T T11 10 hr12 rfl rfl
    clear hr12
    have oR12:=oR11.keep k12 a12 (by simp)
    have oX12:=oX11.keep k12 a12 (by simp)
    have oP12:=oP11.keep k12 a12 (by simp)
    have oN12:=oN11.keep k12 a12 (by simp)
    have ho12:=ints_keep ho11 k12 a12 (by simp)
    have hs12:=ints_keep hs11 k12 a12 (by simp)
    have j12:=ja j11 J11 a12
    have J12:=jk j11 J11 k12 (by simp)
    have U12:=U11.keep k12 a12 (by simp)
    generalize m11.next=sx at *
    have B12:UB m0 T12 m12 ⟨ub,kb,bb,ab,rb,nx,px,sx,rc,ops,sh,n⟩ (knP (2,0,0,5,[],0,()) (startP i)):=⟨U12,⟨⟨oa,sa,oR12,ho12,hs12⟩,oN12,oP12,oS12,z⟩,fun f=>by have e1:=b9 f;have e2:=w10 f;have e3:=w11 f;have e4:=w12 f;omega,j12,J12,oX12,hol⟩
    simp [-Int.natCast_add,-w13_16]
    obtain⟨v13,m13,T13,c13',B13,D13,y13,x13⟩:=B12.row hN (startP_bd ops (2,0,0,5,[],0,()) i) (by simp only [knP,putP,List.length_append,List.length_cons,List.length_nil];omega) (by simp only [knP,putP,z4];simp)
    simp [-Int.natCast_add,-w13_17,c13']
    have eU:unitP ops sh n=(let s:=shapesP ops sh 6 (rowP ops (knP (2,0,0,5,[],0,()) (startP i)));endP 3 0 [] (stateP ops s).2 (stateP ops s).1):=by unfold unitP;rw [hN1];rfl
    dsimp only at B13 D13 x13 y13 eU
    have x13:(rowP ops (knP (2,0,0,5,[],0,()) (startP i))).blks.length=0:=by rw [x13];simp only [knP,putP,z4];rfl
    have y13:(rowP ops (knP (2,0,0,5,[],0,()) (startP i))).vals.length≤300:=by
      have e:(knP (2,0,0,5,[],0,()) (startP i)).vals.length=i+1:=by simp [knP,putP,z1]
      rw [e] at y13
      omega
    generalize rowP ops (knP (2,0,0,5,[],0,()) (startP i))=s13 at *
    simp [-Int.natCast_add]
    obtain⟨R,hR⟩:∃ R,shapesP ops sh 6 s13=R:=⟨_,rfl⟩
    rw [hR] at eU
    refine wsem_loop 86 [126,209,298] (fun d E mG=>∃ (k:Nat) (s':Us) (T':Tg),6 - k=d∧k≤6∧k≤sh.length∧UB m0 T' mG (⟨ub,kb,bb,ab,rb,nx,px,sx,rc,ops,sh,n⟩:Pl) s'∧Bd ops s'∧s'.blks.length≤3 * k∧s'.vals.length≤300∧shapesP ops (sh.drop k) (6 - k) s'=R∧
      E=[(1,.pointer (some ⟨rb,0,none⟩)),(2,.pointer (some ⟨rc,0,none⟩)),(3,.pointer (some ⟨ub,0,none⟩)),(5,.pointer (some ⟨kb,0,none⟩)),(6,.pointer (some ⟨bb,0,none⟩)),(7,.pointer (some ⟨px,0,none⟩)),(10,.pointer (some ⟨nx,0,none⟩)),(11,.pointer (some ⟨sx,0,none⟩)),(12,.func (.func 34) #[] #[.pointer (some ⟨nx,0,none⟩),.pointer (some ⟨ub,0,none⟩),.pointer (some ⟨kb,0,none⟩),.pointer (some ⟨px,0,none⟩),.pointer (some ⟨sx,0,none⟩)]),(13,.func (.func 35) #[] #[.pointer (some ⟨bb,0,none⟩),.pointer (some ⟨ub,0,none⟩)]),(14,.int .i64 (k:Nat))]) _ ⟨_,⟨0,s13,T13,rfl,by omega,by omega,B13,D13,by omega,y13,hR,rfl⟩,⟨by rfl,by rfl,by rfl,by rfl,by rfl,by rfl,by rfl,by rfl,by rfl,by rfl,by rfl,trivial⟩⟩ ?_
    clear hR B13 D13 x13 y13 U6 U10 U11 U12 B12
    rintro d E mG ih ⟨k,s',T',rfl,hk6,hkl,hB,hD,hbl,hvl,hS,rfl⟩
    obtain⟨ka,ba,va,lk,lb,lv,lN,lP,lS⟩:=hB.ll
    obtain⟨oa',sa',⟨fr,oR,_⟩,_,hSh⟩:=hB.c.r
    have lR:=oR.load1 (off:=1) rfl
    by_cases hc:k < sh.length∧k < 6∧s'.vals.length < 160
    · obtain⟨q1,q2,q3⟩:=hc
      have q1':(k:Int) < sh.length:=by omega
      have q2':(k:Int) < 6:=by omega
      have q3':(s'.vals.length:Int) < 160:=by omega
      have q4:(k:Int)≤9223372036854775807:=by omega
      obtain⟨J,hJ⟩:∃ J,k+1=J:=⟨_,rfl⟩
      have wk:IntKind.i64.wrap ((k:Int)+1)=(J:Int):=by rw [wrap_i64 (by omega) (by omega)];omega
      obtain⟨sb,rfl,lo⟩:=hSh.get q1
      have e6:6 - k=(6 - J)+1:=by omega
      have ex:sh.drop k=sh.getD k 0::sh.drop J:=by rw [List.drop_eq_getElem_cons q1,← hJ];simp [List.getD,q1]
      rw [e6,ex,shapesP,if_pos q3] at hS
      generalize sh.getD k 0=x at *
      have pk:=pickb_run (m:=mG) hN.pick x 3 (by omega) (by omega)
      by_cases x0:x % 3=0
      · rw [if_pos x0] at hS
        rw [x0] at pk
        simp [-Int.natCast_add,-w13_21,load_of ld3,load_of ld36,fieldAddr_of fa47_1,len_slice u36,fieldAddr_of fa34_2,load_of ld30,len_slice u30,index_slice u36 sz3,q1,q1',q2',q3',q4,lR,lv,lo,pk]
        refine (w_seq _ _).1 (w_sub (E:=[(1,.pointer (some ⟨rb,0,none⟩)),(2,.pointer (some ⟨rc,0,none⟩)),(3,.pointer (some ⟨ub,0,none⟩)),(5,.pointer (some ⟨kb,0,none⟩)),(6,.pointer (some ⟨bb,0,none⟩)),(7,.pointer (some ⟨px,0,none⟩)),(10,.pointer (some ⟨nx,0,none⟩)),(11,.pointer (some ⟨sx,0,none⟩)),(12,.func (.func 34) #[] #[.pointer (some ⟨nx,0,none⟩),.pointer (some ⟨ub,0,none⟩),.pointer (some ⟨kb,0,none⟩),.pointer (some ⟨px,0,none⟩),.pointer (some ⟨sx,0,none⟩)]),(13,.func (.func 35) #[] #[.pointer (some ⟨bb,0,none⟩),.pointer (some ⟨ub,0,none⟩)]),(14,.int .i64 (k:Nat))]) (dia_run hN hB hD q3 (by omega) ?_) ⟨by rfl,by rfl,by rfl,by rfl,by rfl,by rfl,by rfl,by rfl,by rfl,by rfl,by rfl,trivial⟩)
        intro m1 T1 h1 d1 b1 v1
        simp [-Int.natCast_add,wk]
        exact ih (6 - J) [(1,.pointer (some ⟨rb,0,none⟩)),(2,.pointer (some ⟨rc,0,none⟩)),(3,.pointer (some ⟨ub,0,none⟩)),(5,.pointer (some ⟨kb,0,none⟩)),(6,.pointer (some ⟨bb,0,none⟩)),(7,.pointer (some ⟨px,0,none⟩)),(10,.pointer (some ⟨nx,0,none⟩)),(11,.pointer (some ⟨sx,0,none⟩)),(12,.func (.func 34) #[] #[.pointer (some ⟨nx,0,none⟩),.pointer (some ⟨ub,0,none⟩),.pointer (some ⟨kb,0,none⟩),.pointer (some ⟨px,0,none⟩),.pointer (some ⟨sx,0,none⟩)]),(13,.func (.func 35) #[] #[.pointer (some ⟨bb,0,none⟩),.pointer (some ⟨ub,0,none⟩)]),(14,.int .i64 (J:Nat))] _ _ ⟨J,_,T1,rfl,by omega,by omega,h1,d1,by omega,v1,hS,rfl⟩ (by omega) ⟨by rfl,by rfl,by rfl,by rfl,by rfl,by rfl,by rfl,by rfl,by rfl,by rfl,by rfl,trivial⟩
      · rw [if_neg x0] at hS
        by_cases x1:x % 3=1
        · rw [if_pos x1] at hS
          rw [x1] at pk
          simp [-Int.natCast_add,-w13_38,load_of ld3,load_of ld36,fieldAddr_of fa47_1,len_slice u36,fieldAddr_of fa34_2,load_of ld30,len_slice u30,index_slice u36 sz3,q1,q1',q2',q3',q4,lR,lv,lo,pk]
          refine (w_seq _ _).1 (w_sub (E:=[(1,.pointer (some ⟨rb,0,none⟩)),(2,.pointer (some ⟨rc,0,none⟩)),(3,.pointer (some ⟨ub,0,none⟩)),(5,.pointer (some ⟨kb,0,none⟩)),(6,.pointer (some ⟨bb,0,none⟩)),(7,.pointer (some ⟨px,0,none⟩)),(10,.pointer (some ⟨nx,0,none⟩)),(11,.pointer (some ⟨sx,0,none⟩)),(12,.func (.func 34) #[] #[.pointer (some ⟨nx,0,none⟩),.pointer (some ⟨ub,0,none⟩),.pointer (some ⟨kb,0,none⟩),.pointer (some ⟨px,0,none⟩),.pointer (some ⟨sx,0,none⟩)]),(13,.func (.func 35) #[] #[.pointer (some ⟨bb,0,none⟩),.pointer (some ⟨ub,0,none⟩)]),(14,.int .i64 (k:Nat))]) (loop_run hN hB hD q3 (by omega) ?_) ⟨by rfl,by rfl,by rfl,by rfl,by rfl,by rfl,by rfl,by rfl,by rfl,by rfl,by rfl,trivial⟩)
          intro m1 T1 h1 d1 b1 v1
          simp [-Int.natCast_add,wk]
          exact ih (6 - J) [(1,.pointer (some ⟨rb,0,none⟩)),(2,.pointer (some ⟨rc,0,none⟩)),(3,.pointer (some ⟨ub,0,none⟩)),(5,.pointer (some ⟨kb,0,none⟩)),(6,.pointer (some ⟨bb,0,none⟩)),(7,.pointer (some ⟨px,0,none⟩)),(10,.pointer (some ⟨nx,0,none⟩)),(11,.pointer (some ⟨sx,0,none⟩)),(12,.func (.func 34) #[] #[.pointer (some ⟨nx,0,none⟩),.pointer (some ⟨ub,0,none⟩),.pointer (some ⟨kb,0,none⟩),.pointer (some ⟨px,0,none⟩),.pointer (some ⟨sx,0,none⟩)]),(13,.func (.func 35) #[] #[.pointer (some ⟨bb,0,none⟩),.pointer (some ⟨ub,0,none⟩)]),(14,.int .i64 (J:Nat))] _ _ ⟨J,_,T1,rfl,by omega,by omega,h1,d1,by omega,v1,hS,rfl⟩ (by omega) ⟨by rfl,by rfl,by rfl,by rfl,by rfl,by rfl,by rfl,by rfl,by rfl,by rfl,by rfl,trivial⟩
        · rw [if_neg x1] at hS
          simp [-Int.natCast_add,-w13_61,load_of ld3,load_of ld36,fieldAddr_of fa47_1,len_slice u36,fieldAddr_of fa34_2,load_of ld30,len_slice u30,index_slice u36 sz3,q1,q1',q2',q3',q4,lR,lv,lo,pk,x0,x1]
          refine (w_seq _ _).1 (w_sub (E:=[(1,.pointer (some ⟨rb,0,none⟩)),(2,.pointer (some ⟨rc,0,none⟩)),(3,.pointer (some ⟨ub,0,none⟩)),(5,.pointer (some ⟨kb,0,none⟩)),(6,.pointer (some ⟨bb,0,none⟩)),(7,.pointer (some ⟨px,0,none⟩)),(10,.pointer (some ⟨nx,0,none⟩)),(11,.pointer (some ⟨sx,0,none⟩)),(12,.func (.func 34) #[] #[.pointer (some ⟨nx,0,none⟩),.pointer (some ⟨ub,0,none⟩),.pointer (some ⟨kb,0,none⟩),.pointer (some ⟨px,0,none⟩),.pointer (some ⟨sx,0,none⟩)]),(13,.func (.func 35) #[] #[.pointer (some ⟨bb,0,none⟩),.pointer (some ⟨ub,0,none⟩)]),(14,.int .i64 (k:Nat))]) (exit_run hN hB hD q3 (by omega) ?_) ⟨by rfl,by rfl,by rfl,by rfl,by rfl,by rfl,by rfl,by rfl,by rfl,by rfl,by rfl,trivial⟩)
          intro m1 T1 h1 d1 b1 v1
          simp [-Int.natCast_add,wk]
          exact ih (6 - J) [(1,.pointer (some ⟨rb,0,none⟩)),(2,.pointer (some ⟨rc,0,none⟩)),(3,.pointer (some ⟨ub,0,none⟩)),(5,.pointer (some ⟨kb,0,none⟩)),(6,.pointer (some ⟨bb,0,none⟩)),(7,.pointer (some ⟨px,0,none⟩)),(10,.pointer (some ⟨nx,0,none⟩)),(11,.pointer (some ⟨sx,0,none⟩)),(12,.func (.func 34) #[] #[.pointer (some ⟨nx,0,none⟩),.pointer (some ⟨ub,0,none⟩),.pointer (some ⟨kb,0,none⟩),.pointer (some ⟨px,0,none⟩),.pointer (some ⟨sx,0,none⟩)]),(13,.func (.func 35) #[] #[.pointer (some ⟨bb,0,none⟩),.pointer (some ⟨ub,0,none⟩)]),(14,.int .i64 (J:Nat))] _ _ ⟨J,_,T1,rfl,by omega,by omega,h1,d1,by omega,v1,hS,rfl⟩ (by omega) ⟨by rfl,by rfl,by rfl,by rfl,by rfl,by rfl,by rfl,by rfl,by rfl,by rfl,by rfl,trivial⟩
    · have eS:s'=R:=by
        rw [← hS]
        by_cases q1:k < sh.length
        · rw [List.drop_eq_getElem_cons q1]
          by_cases q2:k < 6
          · rw [show 6 - k=(5 - k)+1 by omega,shapesP,if_neg (fun h=>hc ⟨q1,q2,h⟩)]
          · rw [show 6 - k=0 by omega,shapesP]
        · rw [List.drop_eq_nil_of_le (by omega)]
          rfl
      clear ih hS
      subst eS
      rw [eU]
      obtain⟨_,f1,_,_,f4,f5,_⟩:=stateP_bd (d:=(0,0,0,0,[],0,())) hD
      have g1:=hD.k1
      have g2:=hD.k2
      have g3:=hD.st
      have hNum:(1≤(endP 3 0 [] (stateP ops s').2 (stateP ops s').1).vals.length∧(endP 3 0 [] (stateP ops s').2 (stateP ops s').1).vals.length≤300∧(endP 3 0 [] (stateP ops s').2 (stateP ops s').1).blks.length≤20∧(endP 3 0 [] (stateP ops s').2 (stateP ops s').1).sts.length≤330):=by
        simp only [endP,List.length_append,List.length_cons,List.length_nil]
        rw [f1,f4,f5]
        omega
      have H:=last_run hN hB hD hvl (by omega) (i:=k) (A:=fun v m1=>∃ va ba sa,v=.agg #[.int .i64 1,.int .i64 2,.slice va (endP 3 0 [] (stateP ops s').2 (stateP ops s').1).vals.length (endP 3 0 [] (stateP ops s').2 (stateP ops s').1).vals.length,.slice ba (endP 3 0 [] (stateP ops s').2 (stateP ops s').1).blks.length (endP 3 0 [] (stateP ops s').2 (stateP ops s').1).blks.length,.slice sa (endP 3 0 [] (stateP ops s').2 (stateP ops s').1).sts.length (endP 3 0 [] (stateP ops s').2 (stateP ops s').1).sts.length]∧UAt (fun f=>f < m1.next) m1 (endP 3 0 [] (stateP ops s').2 (stateP ops s').1).un va ba sa∧Keeps m0 m1 []∧(1≤(endP 3 0 [] (stateP ops s').2 (stateP ops s').1).vals.length∧(endP 3 0 [] (stateP ops s').2 (stateP ops s').1).vals.length≤300∧(endP 3 0 [] (stateP ops s').2 (stateP ops s').1).blks.length≤20∧(endP 3 0 [] (stateP ops s').2 (stateP ops s').1).sts.length≤330)) (fun va ba sa m1 h1 h2=>⟨va,ba,sa,rfl,h1,h2,hNum⟩)
      by_cases q1:k < sh.length
      · have q1':(k:Int) < sh.length:=by omega
        by_cases q2:k < 6
        · have q2':(k:Int) < 6:=by omega
          have q3:¬ s'.vals.length < 160:=fun h=>hc ⟨q1,q2,h⟩
          have q3':¬ (s'.vals.length:Int) < 160:=by omega
          simp [-Int.natCast_add,-w13_71,load_of ld36,fieldAddr_of fa47_1,len_slice u36,fieldAddr_of fa34_2,load_of ld30,len_slice u30,lR,lv,q1',q2',q3']
          exact (w_seq _ _).1 (w_sub (E:=[(1,.pointer (some ⟨rb,0,none⟩)),(2,.pointer (some ⟨rc,0,none⟩)),(3,.pointer (some ⟨ub,0,none⟩)),(5,.pointer (some ⟨kb,0,none⟩)),(6,.pointer (some ⟨bb,0,none⟩)),(7,.pointer (some ⟨px,0,none⟩)),(10,.pointer (some ⟨nx,0,none⟩)),(11,.pointer (some ⟨sx,0,none⟩)),(12,.func (.func 34) #[] #[.pointer (some ⟨nx,0,none⟩),.pointer (some ⟨ub,0,none⟩),.pointer (some ⟨kb,0,none⟩),.pointer (some ⟨px,0,none⟩),.pointer (some ⟨sx,0,none⟩)]),(13,.func (.func 35) #[] #[.pointer (some ⟨bb,0,none⟩),.pointer (some ⟨ub,0,none⟩)]),(14,.int .i64 (k:Nat))]) H ⟨by rfl,by rfl,by rfl,by rfl,by rfl,by rfl,by rfl,by rfl,by rfl,by rfl,by rfl,trivial⟩)
        · have q2':¬ (k:Int) < 6:=by omega
          simp [-Int.natCast_add,-w13_71,load_of ld36,fieldAddr_of fa47_1,len_slice u36,fieldAddr_of fa34_2,load_of ld30,len_slice u30,lR,q1',q2']
          exact (w_seq _ _).1 (w_sub (E:=[(1,.pointer (some ⟨rb,0,none⟩)),(2,.pointer (some ⟨rc,0,none⟩)),(3,.pointer (some ⟨ub,0,none⟩)),(5,.pointer (some ⟨kb,0,none⟩)),(6,.pointer (some ⟨bb,0,none⟩)),(7,.pointer (some ⟨px,0,none⟩)),(10,.pointer (some ⟨nx,0,none⟩)),(11,.pointer (some ⟨sx,0,none⟩)),(12,.func (.func 34) #[] #[.pointer (some ⟨nx,0,none⟩),.pointer (some ⟨ub,0,none⟩),.pointer (some ⟨kb,0,none⟩),.pointer (some ⟨px,0,none⟩),.pointer (some ⟨sx,0,none⟩)]),(13,.func (.func 35) #[] #[.pointer (some ⟨bb,0,none⟩),.pointer (some ⟨ub,0,none⟩)]),(14,.int .i64 (k:Nat))]) H ⟨by rfl,by rfl,by rfl,by rfl,by rfl,by rfl,by rfl,by rfl,by rfl,by rfl,by rfl,trivial⟩)
      · have q1':¬ (k:Int) < sh.length:=by omega
        simp [-Int.natCast_add,-w13_71,load_of ld36,fieldAddr_of fa47_1,len_slice u36,fieldAddr_of fa34_2,load_of ld30,len_slice u30,lR,q1']
        exact (w_seq _ _).1 (w_sub (E:=[(1,.pointer (some ⟨rb,0,none⟩)),(2,.pointer (some ⟨rc,0,none⟩)),(3,.pointer (some ⟨ub,0,none⟩)),(5,.pointer (some ⟨kb,0,none⟩)),(6,.pointer (some ⟨bb,0,none⟩)),(7,.pointer (some ⟨px,0,none⟩)),(10,.pointer (some ⟨nx,0,none⟩)),(11,.pointer (some ⟨sx,0,none⟩)),(12,.func (.func 34) #[] #[.pointer (some ⟨nx,0,none⟩),.pointer (some ⟨ub,0,none⟩),.pointer (some ⟨kb,0,none⟩),.pointer (some ⟨px,0,none⟩),.pointer (some ⟨sx,0,none⟩)]),(13,.func (.func 35) #[] #[.pointer (some ⟨bb,0,none⟩),.pointer (some ⟨ub,0,none⟩)]),(14,.int .i64 (k:Nat))]) H ⟨by rfl,by rfl,by rfl,by rfl,by rfl,by rfl,by rfl,by rfl,by rfl,by rfl,by rfl,trivial⟩)
end Go.Proofs.YtlogdohlcdhepaaDoor.base
end
