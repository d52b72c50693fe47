/- This text proves what the parts of turnstonehand.Unit do, over the abstract run: row. Condition: nothing is known of the calls ahead ('S f = []'). -/
import Derived.Test.YtlogdohlcdhepaaDoorM14
set_option linter.unusedVariables false
set_option linter.unusedSimpArgs false
section
set_option maxRecDepth 100000
namespace Go.Proofs.YtlogdohlcdhepaaDoor.base
open Go.Sh gen
variable {S:Sums}{T T':Tg}{m m1 m2:Mem}{is js:List Nat}{ub kb bb ab rb nx px sx:Nat}{ops sh:List Int}{n:Int}{s s1:Us}
theorem UM.kl (h:UM T m ub kb bb ab s)(k:KT T is m m1)(h5:5∉is):loadRow m1 ⟨kb,0,none⟩ 1=loadRow m ⟨kb,0,none⟩ 1:=by
  obtain⟨ka,q1,_⟩:=h.k
  obtain⟨f1,o1,_⟩:=q1.keep k Ag.refl h5
  obtain⟨f0,o0,_⟩:=q1
  exact (o1.load1 (off:=0) rfl).trans (o0.load1 (off:=0) rfl).symm
theorem UC.ln (h:UC T m ub kb bb ab rb nx px sx ops sh n):loadRow m ⟨nx,0,none⟩ 1=some [.func (.func 32) #[] #[.pointer (some ⟨ab,0,none⟩),.pointer (some ⟨rb,0,none⟩)]]:=by
  obtain⟨f,o,_⟩:=h.cn
  exact o.load1 (off:=0) rfl
theorem UC.lp (h:UC T m ub kb bb ab rb nx px sx ops sh n):loadRow m ⟨px,0,none⟩ 1=some [.func (.func 31) #[] #[.pointer (some ⟨ub,0,none⟩),.pointer (some ⟨bb,0,none⟩)]]:=by
  obtain⟨f,o,_⟩:=h.cp
  exact o.load1 (off:=0) rfl
theorem UC.ls (h:UC T m ub kb bb ab rb nx px sx ops sh n):loadRow m ⟨sx,0,none⟩ 1=some [.func (.func 33) #[] #[.pointer (some ⟨ub,0,none⟩),.pointer (some ⟨nx,0,none⟩),.pointer (some ⟨kb,0,none⟩)]]:=by
  obtain⟨f,o,_⟩:=h.cs
  exact o.load1 (off:=0) rfl
theorem UC.l3 (h:UC T m ub kb bb ab rb nx px sx ops sh n)(v:Int):loadRow (m.new [.int .i64 v] 3) ⟨px,0,none⟩ 1=some [.func (.func 31) #[] #[.pointer (some ⟨ub,0,none⟩),.pointer (some ⟨bb,0,none⟩)]]:=by
  obtain⟨f,o,_⟩:=h.cp
  exact (o.ln _ _ 0 1).trans (o.load1 (off:=0) rfl)
theorem nil_dat {Q:Nat→Prop}:IntsAt Q m none []:=⟨0,⟨rfl,Or.inl ⟨rfl,.nil⟩⟩,by simp⟩
theorem any_run (hN:Nq S)(h:UM T m ub kb bb ab s)(hc:UC T m ub kb bb ab rb nx px sx ops sh n)(hb:Bd ops s)(hol:ops.length≤9223372036854775807)(hk:s.known.length≤1000) :
    ∃ m1 kv x,callw Tryd.prog TT S 32 [.int .i64 (s.known.length:Nat),.pointer (some ⟨ab,0,none⟩),.pointer (some ⟨rb,0,none⟩)] m=some (.int .i64 (x:Nat),m1)∧x < s.known.length∧UM T m1 ub kb bb ab (anyP ops s).1∧UC T m1 ub kb bb ab rb nx px sx ops sh n∧KT T [9] m m1∧
      loadRow m ⟨kb,0,none⟩ 1=some [.slice (some ⟨kv,0,none⟩) s.known.length s.known.length]∧loadRow m1 ⟨kb,0,none⟩ 1=some [.slice (some ⟨kv,0,none⟩) s.known.length s.known.length]∧loadRow m1 ⟨kv,x,none⟩ 1=some [.int .i64 (anyP ops s).2]∧(anyP ops s).1.known=s.known∧(anyP ops s).1.vals=s.vals∧(anyP ops s).1.blks=s.blks:=by
  have h1:=hb.k1
  obtain⟨v1,m1,c1,rfl,hU1,hC1,k1⟩:=next_run hN h hc hb.a hol (k:=(s.known.length:Nat)) (by omega) (by omega)
  have z0:=nextP_lt (ops:=ops) (s:=s) (k:=(s.known.length:Nat)) (by omega)
  obtain⟨z1,z2,z3,z4,z5,z6⟩:=nextP_known (ops:=ops) (s:=s) (s.known.length:Nat)
  obtain⟨x,hx⟩:∃ x:Nat,(nextP ops (s.known.length:Nat) s).2=x:=⟨(nextP ops (s.known.length:Nat) s).2.toNat,by omega⟩
  have hxl:x < s.known.length:=by omega
  obtain⟨kv,lk,lk4,_,lx⟩:=h.known2 k1 (by simp) (by simp) hxl
  rw [hx] at c1
  have eA:(anyP ops s).2=s.known.getD x 0:=by unfold anyP;rw [hx];rfl
  exact⟨m1,kv,x,c1,hxl,hU1,hC1,k1,lk,lk4,by rw [eA];exact lx,z1,z3,z5⟩
set_option maxHeartbeats 8000000 in
theorem urow_run (hN:Nq S)(hT:∀ f,T f≤10)(h:UM T m ub kb bb ab s)(hc:UC T m ub kb bb ab rb nx px sx ops sh n)(hol:ops.length≤9223372036854775807)(hb:Bd ops s)(hv:s.vals.length≤600)(hbl:s.blks.length≤300) :
    ∃ v m1,callw Tryd.prog TT S 34 [.pointer (some ⟨nx,0,none⟩),.pointer (some ⟨ub,0,none⟩),.pointer (some ⟨kb,0,none⟩),.pointer (some ⟨px,0,none⟩),.pointer (some ⟨sx,0,none⟩)] m=some (v,m1)∧∃ T',UM T' m1 ub kb bb ab (rowP ops s)∧UC T' m1 ub kb bb ab rb nx px sx ops sh n∧Ag T T' m∧KT T [1,2,4,5,6,7,8,9,11,12] m m1∧(∀ f,T' f≤10)∧Bd ops (rowP ops s)∧(rowP ops s).vals.length≤max s.vals.length 200∧(rowP ops s).blks=s.blks:=by
  obtain⟨v1,m1,c1,rfl,h1,hc1,k1⟩:=next_run hN h hc hb.a hol (k:=6) (by omega) (by omega)
  have q0:=nextP_lt (ops:=ops) (s:=s) (k:=6) (by omega)
  obtain⟨q1,q2,q3,q4,q5,q6⟩:=nextP_known (ops:=ops) (s:=s) 6
  obtain⟨qn,hqn⟩:∃ qn:Nat,(nextP ops 6 s).2=qn:=⟨(nextP ops 6 s).2.toNat,by omega⟩
  have eR:rowP ops s=rowsP ops (1+qn) (nextP ops 6 s).1:=by unfold rowP;rw [hqn];rfl
  rw [eR]
  rw [hqn] at c1
  obtain⟨I,hI⟩:∃ I,1+qn=I:=⟨_,rfl⟩
  rw [hI]
  have wI:IntKind.i64.wrap (1+(qn:Int))=(I:Int):=by rw [wrap_i64 (by omega) (by omega)];omega
  obtain⟨R,hR⟩:∃ R,rowsP ops I (nextP ops 6 s).1=R:=⟨_,rfl⟩
  rw [hR]
  refine fn_w 9 [19,48,61,73,85,96,106,122,131] k34 hN.f4 rfl ?_
  simp [-Int.natCast_add,load_of ld86,hc.ln,c1,wI]
  refine wsem_loop 9 [19,48,61,73,85,96,106,122,131] (fun d E mG=>∃ (i:Nat) (s':Us) (T':Tg),i=d∧i≤6∧UM T' mG ub kb bb ab s'∧UC T' mG ub kb bb ab rb nx px sx ops sh n∧(∀ f,T' f≤10)∧Bd ops s'∧s'.vals.length≤max s.vals.length 200∧s'.blks=s.blks∧rowsP ops i s'=R∧Ag T T' m∧KT T [1,2,4,5,6,7,8,9,11,12] m mG∧
    E=[(0,.pointer (some ⟨nx,0,none⟩)),(1,.pointer (some ⟨ub,0,none⟩)),(2,.pointer (some ⟨kb,0,none⟩)),(3,.pointer (some ⟨px,0,none⟩)),(4,.pointer (some ⟨sx,0,none⟩)),(5,.int .i64 (i:Int))]) _ ⟨_,⟨I,(nextP ops 6 s).1,T,rfl,by omega,h1,hc1,hT,hb.next 6,by rw [q3];omega,q5,hR,Ag.refl,k1.mono (by simp),rfl⟩,⟨by rfl,by rfl,by rfl,by rfl,by rfl,by rfl,trivial⟩⟩ ?_
  rintro d E mG ih ⟨i,s',T',rfl,hi6,hU,hC,hT',hB,hvl,hbk,hL,aG,kG,rfl⟩
  have hBv:s'.vals.length≤900:=by omega
  have im:(i:Int)≤9223372036854775807∨True:=Or.inr trivial
  obtain⟨va,ba,sa,u1,u2,u3,u4⟩:=hU.u
  obtain⟨fu,ou,_⟩:=u1
  have lU:=ou.load1 (off:=2) rfl
  by_cases hi0:i=0
  · subst hi0
    rw [rowsP] at hL
    simp [-Int.natCast_add,fieldAddr_of fa34_2,load_of ld30,len_slice u30]
    subst hL
    exact⟨T',hU,hC,aG,kG,hT',hB,hvl,hbk⟩
  obtain⟨j,hj⟩:∃ j,j+1=i:=⟨i - 1,by omega⟩
  have hi1:0 < i:=by omega
  have hi1':0 < (i:Int):=by omega
  by_cases h200:s'.vals.length < 200
  · have h200':(s'.vals.length:Int) < 200:=by omega
    rw [← hj,rowsP,if_pos h200] at hL
    have wj:IntKind.i64.wrap ((i:Int) - 1)=(j:Int):=by rw [wrap_i64 (by omega) (by omega)];omega
    have hk1:s'.known.length≤1000:=by have:=hB.k2;omega
    obtain⟨m4,kv4,x4,c4,hx4,hU4,hC4,k4,l41,l42,l43,e41,e42,e43⟩:=any_run hN hU hC hB hol hk1
    have hB4:=anyP_bd (ops:=ops) hB
    obtain⟨m5,kv5,x5,c5,hx5,hU5,hC5,k5,l51,l52,l53,e51,e52,e53⟩:=any_run hN hU4 hC4 hB4 hol (by rw [e41];exact hk1)
    have hB5:=anyP_bd (ops:=ops) hB4
    obtain⟨v6,m6,c6,rfl,hU6,hC6,k6⟩:=next_run hN hU5 hC5 hB5.a hol (k:=20) (by omega) (by omega)
    have hB6:=hB5.next 20
    have z0:=nextP_lt (ops:=ops) (s:=(anyP ops (anyP ops s').1).1) (k:=20) (by omega)
    obtain⟨z1,z2,z3,z4,z5,z6⟩:=nextP_known (ops:=ops) (s:=(anyP ops (anyP ops s').1).1) 20
    have eO:oneP ops s'=kindP ops (anyP ops s').2 (anyP ops (anyP ops s').1).2 (nextP ops 20 (anyP ops (anyP ops s').1).1).2 (nextP ops 20 (anyP ops (anyP ops s').1).1).1:=rfl
    rw [eO] at hL
    have e6k:(nextP ops 20 (anyP ops (anyP ops s').1).1).1.known=s'.known:=z1.trans (e51.trans e41)
    have e6v:(nextP ops 20 (anyP ops (anyP ops s').1).1).1.vals=s'.vals:=z3.trans (e52.trans e42)
    have e6b:(nextP ops 20 (anyP ops (anyP ops s').1).1).1.blks=s'.blks:=z5.trans (e53.trans e43)
    generalize (nextP ops 20 (anyP ops (anyP ops s').1).1).1=s6 at *
    generalize (nextP ops 20 (anyP ops (anyP ops s').1).1).2=k at *
    generalize (anyP ops (anyP ops s').1).2=b at *
    generalize (anyP ops s').2=a at *
    rw [e41] at c5 hx5 l51 l52
    have ekv:kv5=kv4:=by
      rw [l42] at l51
      simpa using l51.symm
    subst ekv
    have x4i:(x4:Int)≤9223372036854775807:=by omega
    have x5i:(x5:Int)≤9223372036854775807:=by omega
    have x4l:(x4:Int) < s'.known.length:=by omega
    have x5l:(x5:Int) < s'.known.length:=by omega
    simp [-Int.natCast_add,-w34_6,load_of ld86,fieldAddr_of fa34_2,load_of ld30,len_slice u30,load_of ld36,len_slice u36,index_slice u36 sz3,load_of ld3,lU,hi1,h200',eqV_fn _ _ (eqA2 _ _),hC.ln,hC4.ln,hC5.ln,c4,l41,l42,l43,x4i,hx4,c5,l52,l53,x5i,hx5,c6]
    have kG6:KT T [1,2,4,5,6,7,8,9,11,12] m m6:=((kG.trans aG (k4.mono (by simp))).trans (aG.trans Ag.refl kG.le) (k5.mono (by simp))).trans (aG.trans Ag.refl kG.le) (k6.mono (by simp))
    have fin:∀ (mX:Mem) (s'':Us) (T'':Tg),UM T'' mX ub kb bb ab s''→UC T'' mX ub kb bb ab rb nx px sx ops sh n→(∀ f,T'' f≤10)→Bd ops s''→s''.vals.length≤s6.vals.length+1→s''.blks=s6.blks→kindP ops a b k s6=s''→Ag T' T'' m6→KT T' [1,2,4,5,6,7,8,9,11,12] m6 mX→
        ∃ (s'':Us) (T'':Tg),UM T'' mX ub kb bb ab s''∧UC T'' mX ub kb bb ab rb nx px sx ops sh n∧(∀ f,T'' f≤10)∧Bd ops s''∧s''.vals.length≤max s.vals.length 200∧s''.blks=s.blks∧rowsP ops j s''=R∧Ag T T'' m∧KT T [1,2,4,5,6,7,8,9,11,12] m mX:=by
      intro mX s'' T'' g1 g2 g3 g4 g5 g6 g7 g8 g9
      rw [g7] at hL
      rw [e6v] at g5
      exact⟨s'',T'',g1,g2,g3,g4,by omega,g6.trans (e6b.trans hbk),hL,aG.trans g8 kG6.le,kG6.trans aG g9⟩
    apply cut1_ (fun mX:Mem=>∃ (s'':Us) (T'':Tg),UM T'' mX ub kb bb ab s''∧UC T'' mX ub kb bb ab rb nx px sx ops sh n∧(∀ f,T'' f≤10)∧Bd ops s''∧s''.vals.length≤max s.vals.length 200∧s''.blks=s.blks∧rowsP ops j s''=R∧Ag T T'' m∧KT T [1,2,4,5,6,7,8,9,11,12] m mX)
    case main =>
      have w12:k < 12→IntKind.i64.wrap (3+k)=3+k:=fun h=>wrap_i64 (by omega) (by omega)
      by_cases h12:k < 12
      · have w12:=w12 h12
        obtain⟨v7,m7,c7,rfl,T7,hU7,a7,k7,b7⟩:=uput_run hN hT' hU6 (by rw [e6v];omega) (by have:=hB6.b;rw [e6v] at this;omega) (d:=(3+k,a,b,0,[],0,())) (aa:=none) nil_dat
        have c7:callw Tryd.prog TT S 31 [.agg #[.int .i64 (3+k),.int .i64 a,.int .i64 b,.int .i64 0,.slice none 0 0,.int .i64 0],.pointer (some ⟨ub,0,none⟩),.pointer (some ⟨bb,0,none⟩)] m6=some (.int .i64 (s6.vals.length:Nat),m7):=c7
        have hC7:=hC6.keep k7 a7 (by simp) (by simp)
        obtain⟨ka,l1,l2,l3,m8,ka2,m9,T9,e8,l4,e9,hU9,a9,k9,b9⟩:=UM.kn hU6 hU7 k7 a7 (by simp) rfl b7 (by rw [e6k];exact hk1) (s6.vals.length:Nat)
        have hC9:=hC7.keep k9 a9 (by simp) (by simp)
        have H:=fin m9 _ T9 hU9 hC9 b9 (hB6.kn (3+k,a,b,0,[],0,())) (by simp [putP]) rfl (by unfold kindP;rw [if_pos h12];rfl) (a7.trans a9 k7.le) ((k7.mono (by simp)).trans a7 (k9.mono (by simp)))
        intro meth
        simp [-Int.natCast_add,-w34_22,load_of ld36,load_of ld85,build_of bo38,buildSlice_of u36 bs3 rfl,append_s u36 sz3,store_of sz36,h12,w12,eqV_fn _ _ (eqA2 _ _),hC6.lp,c7,l1,l2,l3,e8,e9]
        exact w_sub (E:=[(0,.pointer (some ⟨nx,0,none⟩)),(1,.pointer (some ⟨ub,0,none⟩)),(2,.pointer (some ⟨kb,0,none⟩)),(3,.pointer (some ⟨px,0,none⟩)),(4,.pointer (some ⟨sx,0,none⟩)),(5,.int .i64 (i:Int))]) (meth m9 H) ⟨by rfl,by rfl,by rfl,by rfl,by rfl,by rfl,trivial⟩
      by_cases hk12:k=12
      · have hk:=hk12
        obtain⟨v7,m7,c7,rfl,hU7,hC7,k7⟩:=next_run hN hU6 hC6 hB6.a hol (k:=1048576) (by omega) (by omega)
        have hB7:=hB6.next 1048576
        have y0:=nextP_lt (ops:=ops) (s:=s6) (k:=1048576) (by omega)
        obtain⟨y1,y2,y3,y4,y5,y6⟩:=nextP_known (ops:=ops) (s:=s6) 1048576
        have ke:kindP ops a b k s6=knP (2,0,0,(nextP ops 1048576 s6).2 - 9,[],0,()) (nextP ops 1048576 s6).1:=by unfold kindP;rw [if_neg (by omega),if_pos hk]
        generalize (nextP ops 1048576 s6).1=s7 at *
        generalize (nextP ops 1048576 s6).2=x at *
        have wx:IntKind.i64.wrap (x - 9)=x - 9:=wrap_i64 (by omega) (by omega)
        obtain⟨v8,m8,c8,rfl,T8,hU8,a8,k8,b8⟩:=uput_run hN hT' hU7 (by rw [y3,e6v];omega) (by have:=hB7.b;rw [y3,e6v] at this;omega) (d:=(2,0,0,x - 9,[],0,())) (aa:=none) nil_dat
        have c8:callw Tryd.prog TT S 31 [.agg #[.int .i64 2,.int .i64 0,.int .i64 0,.int .i64 (x - 9),.slice none 0 0,.int .i64 0],.pointer (some ⟨ub,0,none⟩),.pointer (some ⟨bb,0,none⟩)] m7=some (.int .i64 (s7.vals.length:Nat),m8):=c8
        have hC8:=hC7.keep k8 a8 (by simp) (by simp)
        have k78:KT T' [1,2,7,8,9] m6 m8:=(k7.mono (by simp)).trans Ag.refl (k8.mono (by simp))
        have a78:Ag T' T8 m6:=Ag.trans Ag.refl a8 k7.le
        obtain⟨ka,l1,l2,l3,m9,ka2,m10,T10,e9,l4,e10,hU10,a10,k10,b10⟩:=UM.kn hU6 hU8 k78 a78 (by simp) y1 b8 (by rw [e6k];exact hk1) (s7.vals.length:Nat)
        have l17:=(hU6.kl k7 (by simp)).trans l1
        have hC10:=hC8.keep k10 a10 (by simp) (by simp)
        have ke2:({ putP (2,0,0,x - 9,[],0,()) s7 with known:=s6.known++[((s7.vals.length:Nat):Int)] }:Us)=knP (2,0,0,x - 9,[],0,()) s7:=by unfold knP;rw [y1]
        rw [ke2] at hU10
        have H:=fin m10 _ T10 hU10 hC10 b10 (hB7.kn _) (by simp [knP,putP];rw [y3];omega) (by simp [knP,putP];exact y5) ke (a78.trans a10 k78.le) ((k78.mono (by simp)).trans a78 (k10.mono (by simp)))
        intro meth
        simp [-Int.natCast_add,-w34_22,load_of ld86,load_of ld36,load_of ld85,build_of bo38,buildSlice_of u36 bs3 rfl,append_s u36 sz3,store_of sz36,hk,eqV_fn _ _ (eqA2 _ _),hC6.lp,hC6.ln,hC7.lp,c7,c8,l1,l17,l2,l3,e9,e10,wx]
        exact w_sub (E:=[(0,.pointer (some ⟨nx,0,none⟩)),(1,.pointer (some ⟨ub,0,none⟩)),(2,.pointer (some ⟨kb,0,none⟩)),(3,.pointer (some ⟨px,0,none⟩)),(4,.pointer (some ⟨sx,0,none⟩)),(5,.int .i64 (i:Int))]) (meth m10 H) ⟨by rfl,by rfl,by rfl,by rfl,by rfl,by rfl,trivial⟩
      by_cases hk13:k=13
      · have hk:=hk13
        obtain⟨v7,m7,c7,rfl,hU7,hC7,k7⟩:=next_run hN hU6 hC6 hB6.a hol (k:=5) (by omega) (by omega)
        have hB7:=hB6.next 5
        have y0:=nextP_lt (ops:=ops) (s:=s6) (k:=5) (by omega)
        obtain⟨y1,y2,y3,y4,y5,y6⟩:=nextP_known (ops:=ops) (s:=s6) 5
        have ke:kindP ops a b k s6=knP (17,a,0,(nextP ops 5 s6).2,[],0,()) (nextP ops 5 s6).1:=by unfold kindP;rw [if_neg (by omega),if_neg (by omega),if_pos hk]
        generalize (nextP ops 5 s6).1=s7 at *
        generalize (nextP ops 5 s6).2=x at *
        have wx:(0:Int)=0:=rfl
        obtain⟨v8,m8,c8,rfl,T8,hU8,a8,k8,b8⟩:=uput_run hN hT' hU7 (by rw [y3,e6v];omega) (by have:=hB7.b;rw [y3,e6v] at this;omega) (d:=(17,a,0,x,[],0,())) (aa:=none) nil_dat
        have c8:callw Tryd.prog TT S 31 [.agg #[.int .i64 17,.int .i64 a,.int .i64 0,.int .i64 x,.slice none 0 0,.int .i64 0],.pointer (some ⟨ub,0,none⟩),.pointer (some ⟨bb,0,none⟩)] m7=some (.int .i64 (s7.vals.length:Nat),m8):=c8
        have hC8:=hC7.keep k8 a8 (by simp) (by simp)
        have k78:KT T' [1,2,7,8,9] m6 m8:=(k7.mono (by simp)).trans Ag.refl (k8.mono (by simp))
        have a78:Ag T' T8 m6:=Ag.trans Ag.refl a8 k7.le
        obtain⟨ka,l1,l2,l3,m9,ka2,m10,T10,e9,l4,e10,hU10,a10,k10,b10⟩:=UM.kn hU6 hU8 k78 a78 (by simp) y1 b8 (by rw [e6k];exact hk1) (s7.vals.length:Nat)
        have l17:=(hU6.kl k7 (by simp)).trans l1
        have hC10:=hC8.keep k10 a10 (by simp) (by simp)
        have ke2:({ putP (17,a,0,x,[],0,()) s7 with known:=s6.known++[((s7.vals.length:Nat):Int)] }:Us)=knP (17,a,0,x,[],0,()) s7:=by unfold knP;rw [y1]
        rw [ke2] at hU10
        have H:=fin m10 _ T10 hU10 hC10 b10 (hB7.kn _) (by simp [knP,putP];rw [y3];omega) (by simp [knP,putP];exact y5) ke (a78.trans a10 k78.le) ((k78.mono (by simp)).trans a78 (k10.mono (by simp)))
        intro meth
        simp [-Int.natCast_add,-w34_22,load_of ld86,load_of ld36,load_of ld85,build_of bo38,buildSlice_of u36 bs3 rfl,append_s u36 sz3,store_of sz36,hk,eqV_fn _ _ (eqA2 _ _),hC6.lp,hC6.ln,hC7.lp,c7,c8,l1,l17,l2,l3,e9,e10]
        exact w_sub (E:=[(0,.pointer (some ⟨nx,0,none⟩)),(1,.pointer (some ⟨ub,0,none⟩)),(2,.pointer (some ⟨kb,0,none⟩)),(3,.pointer (some ⟨px,0,none⟩)),(4,.pointer (some ⟨sx,0,none⟩)),(5,.int .i64 (i:Int))]) (meth m10 H) ⟨by rfl,by rfl,by rfl,by rfl,by rfl,by rfl,trivial⟩
      by_cases hk14:k=14
      · have hk:=hk14
        obtain⟨v7,m7,c7,rfl,T7,hU7,a7,k7,b7⟩:=uput_run hN hT' hU6 (by rw [e6v];omega) (by have:=hB6.b;rw [e6v] at this;omega) (d:=(18,a,b,0,[],0,())) (aa:=none) nil_dat
        have c7:callw Tryd.prog TT S 31 [.agg #[.int .i64 18,.int .i64 a,.int .i64 b,.int .i64 0,.slice none 0 0,.int .i64 0],.pointer (some ⟨ub,0,none⟩),.pointer (some ⟨bb,0,none⟩)] m6=some (.int .i64 (s6.vals.length:Nat),m7):=c7
        have hC7:=hC6.keep k7 a7 (by simp) (by simp)
        obtain⟨ka,l1,l2,l3,m8,ka2,m9,T9,e8,l4,e9,hU9,a9,k9,b9⟩:=UM.kn hU6 hU7 k7 a7 (by simp) rfl b7 (by rw [e6k];exact hk1) (s6.vals.length:Nat)
        have hC9:=hC7.keep k9 a9 (by simp) (by simp)
        have H:=fin m9 _ T9 hU9 hC9 b9 (hB6.kn (18,a,b,0,[],0,())) (by simp [putP]) rfl (by unfold kindP;rw [if_neg (by omega),if_neg (by omega),if_neg (by omega),if_pos hk];rfl) (a7.trans a9 k7.le) ((k7.mono (by simp)).trans a7 (k9.mono (by simp)))
        intro meth
        simp [-Int.natCast_add,-w34_22,load_of ld36,load_of ld85,build_of bo38,buildSlice_of u36 bs3 rfl,append_s u36 sz3,store_of sz36,hk,eqV_fn _ _ (eqA2 _ _),hC6.lp,c7,l1,l2,l3,e8,e9]
        exact w_sub (E:=[(0,.pointer (some ⟨nx,0,none⟩)),(1,.pointer (some ⟨ub,0,none⟩)),(2,.pointer (some ⟨kb,0,none⟩)),(3,.pointer (some ⟨px,0,none⟩)),(4,.pointer (some ⟨sx,0,none⟩)),(5,.int .i64 (i:Int))]) (meth m9 H) ⟨by rfl,by rfl,by rfl,by rfl,by rfl,by rfl,trivial⟩
      by_cases hk15:k=15
      · have hk:=hk15
        obtain⟨v7,m7,c7,rfl,hU7,hC7,k7⟩:=next_run hN hU6 hC6 hB6.a hol (k:=5) (by omega) (by omega)
        have hB7:=hB6.next 5
        obtain⟨y1,y2,y3,y4,y5,y6⟩:=nextP_known (ops:=ops) (s:=s6) 5
        have ke:kindP ops a b k s6=putP (19,a,b,(nextP ops 5 s6).2,[],0,()) (nextP ops 5 s6).1:=by unfold kindP;rw [if_neg (by omega),if_neg (by omega),if_neg (by omega),if_neg (by omega),if_pos hk]
        generalize (nextP ops 5 s6).1=s7 at *
        generalize (nextP ops 5 s6).2=x at *
        obtain⟨v8,m8,c8,rfl,T8,hU8,a8,k8,b8⟩:=uput_run hN hT' hU7 (by rw [y3,e6v];omega) (by have:=hB7.b;rw [y3,e6v] at this;omega) (d:=(19,a,b,x,[],0,())) (aa:=none) nil_dat
        have c8:callw Tryd.prog TT S 31 [.agg #[.int .i64 19,.int .i64 a,.int .i64 b,.int .i64 x,.slice none 0 0,.int .i64 0],.pointer (some ⟨ub,0,none⟩),.pointer (some ⟨bb,0,none⟩)] m7=some (.int .i64 (s7.vals.length:Nat),m8):=c8
        have hC8:=hC7.keep k8 a8 (by simp) (by simp)
        have k78:KT T' [1,2,7,8,9] m6 m8:=(k7.mono (by simp)).trans Ag.refl (k8.mono (by simp))
        have a78:Ag T' T8 m6:=Ag.trans Ag.refl a8 k7.le
        have H:=fin m8 _ T8 hU8 hC8 b8 (hB7.put _) (by simp [putP];rw [y3];omega) (by simp [putP];exact y5) ke a78 (k78.mono (by simp))
        intro meth
        simp [-Int.natCast_add,-w34_22,load_of ld86,load_of ld85,build_of bo38,hk,eqV_fn _ _ (eqA2 _ _),hC6.lp,hC6.ln,hC7.lp,c7,c8]
        exact w_sub (E:=[(0,.pointer (some ⟨nx,0,none⟩)),(1,.pointer (some ⟨ub,0,none⟩)),(2,.pointer (some ⟨kb,0,none⟩)),(3,.pointer (some ⟨px,0,none⟩)),(4,.pointer (some ⟨sx,0,none⟩)),(5,.int .i64 (i:Int))]) (meth m8 H) ⟨by rfl,by rfl,by rfl,by rfl,by rfl,by rfl,trivial⟩
      by_cases hk16:k=16
      · have hk:=hk16
        obtain⟨m7,kv7,x7,c7,hx7,hU7,hC7,k7,l71,l72,l73,y1,y3,y5⟩:=any_run hN hU6 hC6 hB6 hol (by rw [e6k];exact hk1)
        have hB7:=anyP_bd (ops:=ops) hB6
        have ke:kindP ops a b k s6=putP (20,a,b,0,[(anyP ops s6).2],0,()) (anyP ops s6).1:=by unfold kindP;rw [if_neg (by omega),if_neg (by omega),if_neg (by omega),if_neg (by omega),if_neg (by omega),if_pos hk]
        generalize (anyP ops s6).1=s7 at *
        generalize (anyP ops s6).2=y at *
        obtain⟨T8,a8,o8,k8,n8,t8⟩:=new_T (m:=m7) T' 0 (cs:=[.int .i64 y]) (e:=3) rfl
        have kt8:KT T' [] m7 (m7.new [.int .i64 y] 3):=KT.of k8
        have hU8:=hU7.keep kt8 a8 (by simp)
        have hC8:=hC7.keep kt8 a8 (by simp) (by simp)
        have b8:∀ f,T8 f≤10:=fun f=>by have:=hT' f;have:=t8 f;omega
        obtain⟨f8,o8o,t8o⟩:=o8
        have dy:IntsAt (DQ T8 (m7.new [.int .i64 y] 3)) (m7.new [.int .i64 y] 3) (some ⟨m7.next,0,none⟩) [y]:=⟨f8,⟨rfl,Or.inr ⟨_,rfl,o8o.rdo⟩⟩,fun _=>⟨t8o,o8o.flt⟩⟩
        obtain⟨v9,m9,c9,rfl,T9,hU9,a9,k9,b9⟩:=uput_run hN b8 hU8 (by rw [y3,e6v];omega) (by have:=hB7.b;rw [y3,e6v] at this;omega) (d:=(20,a,b,0,[y],0,())) (aa:=some ⟨m7.next,0,none⟩) dy
        have c9:callw Tryd.prog TT S 31 [.agg #[.int .i64 20,.int .i64 a,.int .i64 b,.int .i64 0,.slice (some ⟨m7.next,0,none⟩) 1 1,.int .i64 0],.pointer (some ⟨ub,0,none⟩),.pointer (some ⟨bb,0,none⟩)] (m7.new [.int .i64 y] 3)=some (.int .i64 (s7.vals.length:Nat),m9):=c9
        have hC9:=hC8.keep k9 a9 (by simp) (by simp)
        have k68:KT T' [9] m6 (m7.new [.int .i64 y] 3):=k7.trans Ag.refl (kt8.mono (by simp))
        have a68:Ag T' T8 m6:=Ag.trans Ag.refl a8 k7.le
        have H:=fin m9 _ T9 hU9 hC9 b9 (hB7.put _) (by simp [putP];rw [y3];omega) (by simp [putP];exact y5) ke (a68.trans a9 k68.le) ((k68.mono (by simp)).trans a68 (k9.mono (by simp)))
        have x7i:(x7:Int)≤9223372036854775807:=by rw [e6k] at hx7;omega
        have x7l:(x7:Int) < s6.known.length:=by omega
        intro meth
        simp [-Int.natCast_add,-w34_22,load_of ld86,load_of ld36,len_slice u36,index_slice u36 sz3,load_of ld3,load_of ld85,build_of bo38,buildSlice_of u36 bs3 rfl,hk,eqV_fn _ _ (eqA2 _ _),hC6.lp,hC6.ln,hC7.lp,hC8.lp,c7,c9,l71,l72,l73,x7i,hx7]
        exact w_sub (E:=[(0,.pointer (some ⟨nx,0,none⟩)),(1,.pointer (some ⟨ub,0,none⟩)),(2,.pointer (some ⟨kb,0,none⟩)),(3,.pointer (some ⟨px,0,none⟩)),(4,.pointer (some ⟨sx,0,none⟩)),(5,.int .i64 (i:Int))]) (meth m9 H) ⟨by rfl,by rfl,by rfl,by rfl,by rfl,by rfl,trivial⟩
      by_cases hk17:k=17
      · have hk:=hk17
        obtain⟨v7,m7,c7,rfl,T7,hU7,hC7,a7,k7,b7⟩:=ustate_run hN hT' hU6 hC6 hB6.a hol ⟨by rw [e6k];exact hB.k1,by rw [e6k];exact hk1⟩ (by have:=hB6.st;rw [e6v,e6b,hbk] at this;omega)
        obtain⟨hB7,y3,y1,y4,y5,y6,y7⟩:=stateP_bd hB6 (22,a,0,0,[],(stateP ops s6).2,())
        have ke:kindP ops a b k s6=putP (22,a,0,0,[],(stateP ops s6).2,()) (stateP ops s6).1:=by unfold kindP;rw [if_neg (by omega),if_neg (by omega),if_neg (by omega),if_neg (by omega),if_neg (by omega),if_neg (by omega),if_pos hk]
        generalize (stateP ops s6).1=s7 at *
        generalize (stateP ops s6).2=st at *
        obtain⟨v8,m8,c8,rfl,T8,hU8,a8,k8,b8⟩:=uput_run hN b7 hU7 (by rw [y3,e6v];omega) (by rw [y4];have:=hB6.b;rw [e6v] at this;omega) (d:=(22,a,0,0,[],st,())) (aa:=none) nil_dat
        have c8:callw Tryd.prog TT S 31 [.agg #[.int .i64 22,.int .i64 a,.int .i64 0,.int .i64 0,.slice none 0 0,.int .i64 st],.pointer (some ⟨ub,0,none⟩),.pointer (some ⟨bb,0,none⟩)] m7=some (.int .i64 (s7.vals.length:Nat),m8):=c8
        have hC8:=hC7.keep k8 a8 (by simp) (by simp)
        have H:=fin m8 _ T8 hU8 hC8 b8 hB7 (by simp [putP];rw [y3];omega) (by simp [putP];exact y5) ke (a7.trans a8 k7.le) ((k7.mono (by simp)).trans a7 (k8.mono (by simp)))
        intro meth
        simp [-Int.natCast_add,-w34_22,load_of ld85,build_of bo38,load_of ld87,hk,eqV_fn _ _ (eqA2 _ _),eqV_fn _ _ (eqA3 _ _ _),hC6.lp,hC6.ls,hC7.lp,c7,c8]
        exact w_sub (E:=[(0,.pointer (some ⟨nx,0,none⟩)),(1,.pointer (some ⟨ub,0,none⟩)),(2,.pointer (some ⟨kb,0,none⟩)),(3,.pointer (some ⟨px,0,none⟩)),(4,.pointer (some ⟨sx,0,none⟩)),(5,.int .i64 (i:Int))]) (meth m8 H) ⟨by rfl,by rfl,by rfl,by rfl,by rfl,by rfl,trivial⟩
      by_cases hk18:k=18
      · have hk:=hk18
        obtain⟨v7,m7,c7,rfl,T7,hU7,hC7,a7,k7,b7⟩:=ustate_run hN hT' hU6 hC6 hB6.a hol ⟨by rw [e6k];exact hB.k1,by rw [e6k];exact hk1⟩ (by have:=hB6.st;rw [e6v,e6b,hbk] at this;omega)
        obtain⟨hB7,y3,y1,y4,y5,y6,y7⟩:=stateP_bd hB6 (23,0,0,0,[],(stateP ops s6).2,())
        have ke:kindP ops a b k s6=putP (23,0,0,0,[],(stateP ops s6).2,()) (stateP ops s6).1:=by unfold kindP;rw [if_neg (by omega),if_neg (by omega),if_neg (by omega),if_neg (by omega),if_neg (by omega),if_neg (by omega),if_neg (by omega),if_pos hk]
        generalize (stateP ops s6).1=s7 at *
        generalize (stateP ops s6).2=st at *
        obtain⟨v8,m8,c8,rfl,T8,hU8,a8,k8,b8⟩:=uput_run hN b7 hU7 (by rw [y3,e6v];omega) (by rw [y4];have:=hB6.b;rw [e6v] at this;omega) (d:=(23,0,0,0,[],st,())) (aa:=none) nil_dat
        have c8:callw Tryd.prog TT S 31 [.agg #[.int .i64 23,.int .i64 0,.int .i64 0,.int .i64 0,.slice none 0 0,.int .i64 st],.pointer (some ⟨ub,0,none⟩),.pointer (some ⟨bb,0,none⟩)] m7=some (.int .i64 (s7.vals.length:Nat),m8):=c8
        have hC8:=hC7.keep k8 a8 (by simp) (by simp)
        have H:=fin m8 _ T8 hU8 hC8 b8 hB7 (by simp [putP];rw [y3];omega) (by simp [putP];exact y5) ke (a7.trans a8 k7.le) ((k7.mono (by simp)).trans a7 (k8.mono (by simp)))
        intro meth
        simp [-Int.natCast_add,-w34_22,load_of ld85,build_of bo38,load_of ld87,hk,eqV_fn _ _ (eqA2 _ _),eqV_fn _ _ (eqA3 _ _ _),hC6.lp,hC6.ls,hC7.lp,c7,c8]
        exact w_sub (E:=[(0,.pointer (some ⟨nx,0,none⟩)),(1,.pointer (some ⟨ub,0,none⟩)),(2,.pointer (some ⟨kb,0,none⟩)),(3,.pointer (some ⟨px,0,none⟩)),(4,.pointer (some ⟨sx,0,none⟩)),(5,.int .i64 (i:Int))]) (meth m8 H) ⟨by rfl,by rfl,by rfl,by rfl,by rfl,by rfl,trivial⟩
      obtain⟨v7,m7,c7,rfl,hU7,hC7,k7⟩:=next_run hN hU6 hC6 hB6.a hol (k:=2) (by omega) (by omega)
      have hB7:=hB6.next 2
      have y0:=nextP_lt (ops:=ops) (s:=s6) (k:=2) (by omega)
      obtain⟨y1,y2,y3,y4,y5,y6⟩:=nextP_known (ops:=ops) (s:=s6) 2
      have ke:kindP ops a b k s6=knP (15+(nextP ops 2 s6).2,a,0,0,[],0,()) (nextP ops 2 s6).1:=by unfold kindP;rw [if_neg (by omega),if_neg (by omega),if_neg (by omega),if_neg (by omega),if_neg (by omega),if_neg (by omega),if_neg (by omega),if_neg (by omega)]
      generalize (nextP ops 2 s6).1=s7 at *
      generalize (nextP ops 2 s6).2=x at *
      have wx:IntKind.i64.wrap (15+x)=15+x:=wrap_i64 (by omega) (by omega)
      obtain⟨v8,m8,c8,rfl,T8,hU8,a8,k8,b8⟩:=uput_run hN hT' hU7 (by rw [y3,e6v];omega) (by have:=hB7.b;rw [y3,e6v] at this;omega) (d:=(15+x,a,0,0,[],0,())) (aa:=none) nil_dat
      have c8:callw Tryd.prog TT S 31 [.agg #[.int .i64 (15+x),.int .i64 a,.int .i64 0,.int .i64 0,.slice none 0 0,.int .i64 0],.pointer (some ⟨ub,0,none⟩),.pointer (some ⟨bb,0,none⟩)] m7=some (.int .i64 (s7.vals.length:Nat),m8):=c8
      have hC8:=hC7.keep k8 a8 (by simp) (by simp)
      have k78:KT T' [1,2,7,8,9] m6 m8:=(k7.mono (by simp)).trans Ag.refl (k8.mono (by simp))
      have a78:Ag T' T8 m6:=Ag.trans Ag.refl a8 k7.le
      obtain⟨ka,l1,l2,l3,m9,ka2,m10,T10,e9,l4,e10,hU10,a10,k10,b10⟩:=UM.kn hU6 hU8 k78 a78 (by simp) y1 b8 (by rw [e6k];exact hk1) (s7.vals.length:Nat)
      have l17:=(hU6.kl k7 (by simp)).trans l1
      have hC10:=hC8.keep k10 a10 (by simp) (by simp)
      have ke2:({ putP (15+x,a,0,0,[],0,()) s7 with known:=s6.known++[((s7.vals.length:Nat):Int)] }:Us)=knP (15+x,a,0,0,[],0,()) s7:=by unfold knP;rw [y1]
      rw [ke2] at hU10
      have H:=fin m10 _ T10 hU10 hC10 b10 (hB7.kn _) (by simp [knP,putP];rw [y3];omega) (by simp [knP,putP];exact y5) ke (a78.trans a10 k78.le) ((k78.mono (by simp)).trans a78 (k10.mono (by simp)))
      intro meth
      simp [-Int.natCast_add,-w34_22,load_of ld86,load_of ld36,load_of ld85,build_of bo38,buildSlice_of u36 bs3 rfl,append_s u36 sz3,store_of sz36,h12,hk12,hk13,hk14,hk15,hk16,hk17,hk18,eqV_fn _ _ (eqA2 _ _),hC6.lp,hC6.ln,hC7.lp,c7,c8,l1,l17,l2,l3,e9,e10,wx]
      exact w_sub (E:=[(0,.pointer (some ⟨nx,0,none⟩)),(1,.pointer (some ⟨ub,0,none⟩)),(2,.pointer (some ⟨kb,0,none⟩)),(3,.pointer (some ⟨px,0,none⟩)),(4,.pointer (some ⟨sx,0,none⟩)),(5,.int .i64 (i:Int))]) (meth m10 H) ⟨by rfl,by rfl,by rfl,by rfl,by rfl,by rfl,trivial⟩
    rintro mX ⟨s'',T'',g1,g2,g3,g4,g5,g6,g7,g8,g9⟩
    simp [-Int.natCast_add,wj]
    exact ih _ _ _ _ ⟨j,s'',T'',rfl,by omega,g1,g2,g3,g4,g5,g6,g7,g8,g9,rfl⟩ (by omega) ⟨by rfl,by rfl,by rfl,by rfl,by rfl,by rfl,trivial⟩
  · have h200':¬ (s'.vals.length:Int) < 200:=by omega
    rw [← hj,rowsP,if_neg h200] at hL
    simp [-Int.natCast_add,fieldAddr_of fa34_2,load_of ld30,len_slice u30,lU,hi1,h200']
    subst hL
    exact⟨T',hU,hC,aG,kG,hT',hB,hvl,hbk⟩
end Go.Proofs.YtlogdohlcdhepaaDoor.base
end
