/- This text proves what the parts of turnstonehand.Unit do, Zb1 the abstract run: end. Condition: nothing is known of the calls ahead ('S f = []'). -/
import Derived.Test.YtcgmchechmbmeaaDoorM10
set_option linter.unusedVariables false
set_option linter.unusedSimpArgs false
section
set_option maxRecDepth 100000
namespace Go.Proofs.YtcgmchechmbmeaaDoor.base
open Go.Sh gen
variable {S:Zb7}{T T':Tg}{m m1 m2:Mem}{is js:List Nat}{ub kb bb ab rb nx px sx:Nat}{ops sh:List Int}{n:Int}{s:Us}
theorem Zev.re {b e i:Nat}{cells:List Value}(h:Zev T i m b cells e)(r:∀ f,T f=i→T' f=i):Zev T' i m b cells e:=by
 obtain⟨fam,o,t⟩:=h
 exact⟨fam,o,r _ t⟩
theorem SlT.re {ao:Option Addr}{n e z i:Nat}{cells:List Value}(h:SlT T i m ao n cells e z)(r:∀ f,T f=i→T' f=i):SlT T' i m ao n cells e z:=by
 obtain⟨fam,o,t⟩:=h
 exact⟨fam,o,fun hn=>r _ (t hn)⟩
theorem SrT.re {ao:Option Addr}{n e z i:Nat}{cells:List Value}(h:SrT T i m ao n cells e z)(r:∀ f,T f=i→T' f=i):SrT T' i m ao n cells e z:=by
 obtain⟨fam,o,t⟩:=h
 exact⟨fam,o,fun hn=>r _ (t hn)⟩
theorem Zp3 {ao:Option Addr}{l:List Int}(h:Zag (DQ T m) m ao l)(r:∀ f,T f=0→T' f=0):Zag (DQ T' m) m ao l:=by
 obtain⟨f,hr,hq⟩:=h
 exact⟨f,hr,fun hz=>⟨r _ (hq hz).1,(hq hz).2⟩⟩
theorem Ziy.re {e i:Nat}{t:Ty}{l:List t.D}{ao:Option Addr}(h:Ziy T m e t l ao i)(r:∀ f,T f=i→T' f=i)(r0:∀ f,T f=0→T' f=0):Ziy T' m e t l ao i:=by
 obtain⟨css,h1,h2,h3⟩:=h
 exact⟨css,h1,fun j d c hd hc=>(h2 j d c hd hc).mono (fun f hq=>⟨r0 _ hq.1,hq.2⟩),h3.re r⟩
theorem AtT.re {ab x:Nat}(h:AtT T m ab x)(r:∀ f,T f=9→T' f=9):AtT T' m ab x:=h.imp id (fun o=>o.re r)
theorem UC.re (h:UC T m ub kb bb ab rb nx px sx ops sh n)(r:∀ f,T f=10→T' f=10)(r0:∀ f,T f=0→T' f=0):UC T' m ub kb bb ab rb nx px sx ops sh n:=by
 obtain⟨oa,sa,r1,r2,r3⟩:=h.r
 exact⟨⟨oa,sa,r1.re r,Zp3 r2 r0,Zp3 r3 r0⟩,h.cn.re r,h.cp.re r,h.cs.re r,h.z⟩
def Zbp (e c:Int)(next:List Int)(st:Int)(s:Us):Us:={ s with blks:=s.blks++[(s.bv,e,c,next,s.bp,st,())],bv:=[],bp:=[] }
set_option maxHeartbeats 2000000 in
theorem Z17 (hN:Nq S)(hT:∀ f,T f≤10)(h:UM T m ub kb bb ab s)(hc:UC T m ub kb bb ab rb nx px sx ops sh n)(hbl:s.blks.length≤1000){e c st:Int}{next:List Int}{na:Option Addr}(hd:Zag (DQ T m) m na next) :
  ∃ v m1,Zaq Tryd.prog TT S 23 [.agg #[.slice none 0 0,.int .i64 e,.int .i64 c,.slice na next.length next.length,.slice none 0 0,.int .i64 st],.pointer (some ⟨bb,0,none⟩),.pointer (some ⟨ub,0,none⟩)] m=some (v,m1)∧v=.int .i64 (s.blks.length:Nat)∧∃ T',UM T' m1 ub kb bb ab (Zbp e c next st s)∧UC T' m1 ub kb bb ab rb nx px sx ops sh n∧(∀ f,f < m.next→T f≠8→T' f=T f)∧KT T [1,3,7,8,11] m m1∧∀ f,T' f≤10:=by
 obtain⟨T1,a1,o1,k1,n1,t1⟩:=Znw (m:=m) T 11 (cs:=[.slice none 0 0,.int .i64 e,.int .i64 c,.slice na next.length next.length,.slice none 0 0,.int .i64 st]) (e:=36) rfl
 have kt1:KT T [] m (m.new [.slice none 0 0,.int .i64 e,.int .i64 c,.slice na next.length next.length,.slice none 0 0,.int .i64 st] 36):=KT.of k1
 have h1:=h.keep kt1 a1 (by simp)
 have hd1:=Zan hd kt1 a1 (by simp)
 have hc1:=hc.keep kt1 a1 (by simp) (by simp)
 obtain⟨va,ba,sa,u1,u2,u3,u4⟩:=h1.u
 obtain⟨ka,q1,q2⟩:=h1.k
 obtain⟨va',pa,b1,b2,b3⟩:=h1.b
 refine Zho 5 [] k23 hN.f5 rfl ?_
 simp [-Int.natCast_add,-w23_1,Zbw b36]
 obtain⟨xb,hxb⟩:∃ xb,m.next=xb:=⟨_,rfl⟩
 rw [hxb] at o1 ⊢
 generalize m.new _ _=m1 at *
 obtain⟨fb,ob,tb⟩:=b1
 have l0:=ob.load1 (off:=0) rfl
 have l4:=ob.load1 (off:=4) rfl
 simp [-Int.natCast_add,-w23_2,l0]
 generalize hra:Zad _ _ _=ra
 obtain⟨m2,rfl,o2,k2⟩:=Zdq hra o1 (by simp) (by simp [Zae])
 clear hra
 simp [Zb1] at o2
 have b12:Zev T1 7 m2 bb _ _:=Zev.keep ⟨fb,ob,tb⟩ k2 Ag.refl (by simp)
 obtain⟨fb2,ob2,tb2⟩:=b12
 have l42:=ob2.load1 (off:=4) rfl
 simp [-Int.natCast_add,-w23_3,l42]
 generalize hrb:Zad _ _ _=rb'
 obtain⟨m3,rfl,o3,k3⟩:=Zdq hrb o2 (by simp) (by simp [Zae])
 clear hrb
 simp [Zb1] at o3
 have k13:KT T1 [11] m1 m3:=k2.trans Ag.refl k3
 obtain⟨T3,hT3⟩:∃ T3:Tg,T3=fun f=>if T1 f≤10∧T1 f≠8 then T1 f else 0:=⟨_,rfl⟩
 have re:∀ i,i≤10→i≠8→∀ f,T1 f=i→T3 f=i:=fun i h1 h2 f hf=>by rw [hT3];simp only [hf];exact if_pos ⟨h1,h2⟩
 have re8:∀ f,T1 f=8→T3 f=0:=fun f hf=>by rw [hT3];simp only [hf];rfl
 have reb:∀ f,T3 f≤10:=fun f=>by
  rw [hT3];simp only
  split
  ·rename_i h;exact h.1
  ·omega
 have hc3:=(hc1.keep k13 Ag.refl (by simp) (by simp)).re (re 10 (by omega) (by omega)) (re 0 (by omega) (by omega))
 have u13:=(u1.keep k13 Ag.refl (by simp)).re (re 1 (by omega) (by omega))
 have u23:=(u2.keep k13 Ag.refl (by simp) (by simp)).re (re 2 (by omega) (by omega)) (re 0 (by omega) (by omega))
 have u33:=(u3.keep k13 Ag.refl (by simp) (by simp)).re (re 3 (by omega) (by omega)) (re 0 (by omega) (by omega))
 have u43:=(u4.keep k13 Ag.refl (by simp) (by simp)).re (re 4 (by omega) (by omega)) (re 0 (by omega) (by omega))
 have q13:=(q1.keep k13 Ag.refl (by simp)).re (re 5 (by omega) (by omega))
 have q23:=(q2.keep k13 Ag.refl (by simp)).re (re 6 (by omega) (by omega))
 have oA3:=(h1.a.keep k13 Ag.refl (by simp)).re (re 9 (by omega) (by omega))
 have b13:Zev T3 7 m3 bb _ _:=((Zev.keep ⟨fb,ob,tb⟩ k13 Ag.refl (by simp))).re (re 7 (by omega) (by omega))
 have b33:=Zp3 (Zan b3 k13 Ag.refl (by simp)) (re 0 (by omega) (by omega))
 have hd3:=Zp3 (Zan hd1 k13 Ag.refl (by simp)) (re 0 (by omega) (by omega))
 have b23:Zag (DQ T3 m3) m3 va' s.bv:=by
  obtain⟨bf,sl,tl⟩:=b2.keep k13 Ag.refl (by simp)
  refine⟨bf,Zpg sl.rs,fun hz=>?_⟩
  have hne:va'≠none:=by
   obtain⟨_,e,_⟩:=sl.own hz
   rw [e];simp
  exact⟨re8 _ (tl hne),sl.sr.flt hne⟩
 obtain⟨fu,ou,tu⟩:=u13
 obtain⟨fx,ox,tx⟩:=o3
 have lu:=ou.load1 (off:=3) rfl
 have lx:loadRow m3 ⟨xb,0,none⟩ 6=_:=ox.load (off:=0) 6 (by simp)
 simp only [Zap,List.drop_zero,List.take_succ_cons,List.take_zero] at lx
 simp [-Int.natCast_add,-w23_4,Za u26 Yaj rfl,Zbf u26 Z83,lu,lx]
 generalize hrc:Zal _ _ _ _ _ _=rc
 have dB:AtI (DQ T3 m3) m3 Zcj (s.bv,e,c,next,s.bp,st,()) [.slice va' s.bv.length s.bv.length,.int .i64 e,.int .i64 c,.slice na next.length next.length,.slice pa s.bp.length s.bp.length,.int .i64 st]:=
  ⟨[_],_,rfl,Zee b23,[_],_,rfl,rfl,[_],_,rfl,rfl,[_],_,rfl,Zee hd3,[_],_,rfl,Zee b33,[_],[],rfl,rfl,rfl⟩
 obtain⟨m4,b4,T4,rfl,r4,a4,k4,t4⟩:=Ziy.app (c:=[.slice va' s.bv.length s.bv.length,.int .i64 e,.int .i64 c,.slice na next.length next.length,.slice pa s.bp.length s.bp.length,.int .i64 st]) u33 (by omega) dB hrc u26 Yav (by simp [Zau,Zae]) (by omega) (by omega)
 clear hrc
 have u4':Zev T4 1 m4 ub _ _:=Zev.keep ⟨fu,ou,tu⟩ k4 a4 (by simp)
 simp [-Int.natCast_add,-w23_4]
 generalize hrd:Zad _ _ _=rd
 obtain⟨m5,rfl,u5,k5⟩:=Zdq hrd u4' (by simp) (by simp [Zae])
 clear hrd
 simp [Zb1] at u5
 have b15:Zev T4 7 m5 bb _ _:=(b13.keep k4 a4 (by simp)).keep k5 Ag.refl (by simp)
 simp [-Int.natCast_add,-w23_5,Za2 Zym]
 generalize hre:Zad _ _ _=re'
 obtain⟨m6,rfl,b6,k6⟩:=Zdq hre b15 (by simp) (by simp [Zau,Zae])
 clear hre
 simp [Zb1] at b6
 have u6:=u5.keep k6 Ag.refl (by simp)
 have u6c:=u6
 obtain⟨fu6,ou6,tu6⟩:=u6
 have lu6:=ou6.load1 (off:=3) rfl
 obtain⟨N,hN1⟩:∃ N,s.blks.length+1=N:=⟨_,rfl⟩
 rw [hN1] at lu6
 have wN:IntKind.i64.wrap ((N:Int) - 1)=(s.blks.length:Int):=by rw [Zab (by omega) (by omega)];omega
 simp [-Int.natCast_add,lu6,wN]
 have k36:KT T3 [1,3,7] m3 m6:=((k4.mono (by simp)).trans a4 (k5.mono (by simp))).trans (Ag.trans a4 Ag.refl k4.le) (k6.mono (by simp))
 have k03:KT T [11] m m3:=(kt1.mono (by simp)).trans a1 k13
 refine⟨T4,⟨⟨va,some ⟨b4,0,none⟩,sa,?_,((u23.keep k4 a4 (by simp) (by simp)).keep k5 Ag.refl (by simp) (by simp)).keep k6 Ag.refl (by simp) (by simp),(r4.keep k5 Ag.refl (by simp) (by simp)).keep k6 Ag.refl (by simp) (by simp),((u43.keep k4 a4 (by simp) (by simp)).keep k5 Ag.refl (by simp) (by simp)).keep k6 Ag.refl (by simp) (by simp)⟩,⟨ka,((q13.keep k4 a4 (by simp)).keep k5 Ag.refl (by simp)).keep k6 Ag.refl (by simp),((q23.keep k4 a4 (by simp)).keep k5 Ag.refl (by simp)).keep k6 Ag.refl (by simp)⟩,⟨none,none,b6,⟨0,Sl.nil _ _ _ _,by simp⟩,⟨0,⟨by simp [Zbp],Or.inl ⟨rfl,.nil⟩⟩,by simp [Zbp]⟩⟩,((oA3.keep k4 a4 (by simp)).keep k5 Ag.refl (by simp)).keep k6 Ag.refl (by simp)⟩,((hc3.keep k4 a4 (by simp) (by simp)).keep k5 Ag.refl (by simp) (by simp)).keep k6 Ag.refl (by simp) (by simp),fun f hf h8=>?_,?_,fun f=>?_⟩
 ·simpa [Zbp] using u6c
 ·have e1:=a1 f (by omega)
  have e3:T3 f=T1 f:=re (T1 f) (by rw [e1];exact hT f) (by rw [e1];exact h8) f rfl
  rw [a4 f (by have:=k03.le;omega),e3,e1]
 ·obtain⟨fs,kk,hf⟩:=k03
  obtain⟨gs,kk2,hg⟩:=k36
  refine⟨fs++gs,(kk.mono (fun q hq=>List.mem_append_left _ hq)).trans (kk2.mono (fun q hq=>List.mem_append_right _ hq)),fun f hm hl=>?_⟩
  rcases List.mem_append.1 hm with hm | hm
  ·have:=hf f hm (by omega);simp at this;simp [this]
  ·have h3:=hg f hm (by have:=kk.1;omega)
   have e1:=a1 f (by omega)
   by_cases h8:T f=8
   ·simp [h8]
   ·have e3:T3 f=T1 f:=re (T1 f) (by rw [e1];exact hT f) (by rw [e1];exact h8) f rfl
    rw [e3,e1] at h3
    simp at h3 ⊢
    omega
 ·have:=t4 f
  have:=reb f
  omega
end Go.Proofs.YtcgmchechmbmeaaDoor.base
end
section
set_option maxRecDepth 100000
namespace Go.Proofs.YtcgmchechmbmeaaDoor.base
open Go.Sh gen
variable {S:Zb7}{T T':Tg}{m m1 m2:Mem}{is js:List Nat}{ub kb bb ab rb nx px sx:Nat}{ops sh:List Int}{n:Int}{s s1:Us}
theorem Zur {l e e' fam fam':Nat}{c c':List Value}(h:Own m l c e fam)(k:Own m l c' e' fam'):c=c':=by
 have:=h.blk
 rw [k.blk] at this
 simp only [Option.some.injEq,Blk.mk.injEq] at this
 exact this.1.symm
theorem UM.kn (h:UM T m ub kb bb ab s)(h1:UM T' m1 ub kb bb ab s1)(k:KT T is m m1)(a:Ag T T' m)(hi:5∉is)(e:s1.known=s.known)(hT:∀ f,T' f≤10)(hl:s.known.length≤1000)(v:Int):∃ ka,loadRow m ⟨kb,0,none⟩ 1=some [.slice ka s.known.length s.known.length]∧loadRow m1 ⟨kb,0,none⟩ 1=some [.slice ka s.known.length s.known.length]∧
  loadRow (m1.new [.int .i64 v] 3) ⟨kb,0,none⟩ 1=some [.slice ka s.known.length s.known.length]∧
  ∃ m2 ka2 m3 T2,Zal Tryd.prog 22 (m1.new [.int .i64 v] 3) (.slice ka s.known.length s.known.length) [.int .i64 v] 1=some (.slice ka2 (s.known.length+1) (s.known.length+1),m2)∧loadRow m2 ⟨kb,0,none⟩ 1=some [.slice ka s.known.length s.known.length]∧
   Zad m2 ⟨kb,0,none⟩ [.slice ka2 (s.known.length+1) (s.known.length+1)]=some m3∧UM T2 m3 ub kb bb ab { s1 with known:=s.known++[v] }∧Ag T' T2 m1∧KT T' [5,6] m1 m3∧∀ f,T2 f≤10:=by
 obtain⟨ka0,q1,q2⟩:=h.k
 obtain⟨ka,q11,q12⟩:=h1.k
 have q13:=q1.keep k a hi
 obtain⟨f0,o0,_⟩:=q1
 obtain⟨f1,o1,t1⟩:=q11
 obtain⟨f3,o3,_⟩:=q13
 have ec:=Zur o1 o3
 rw [e] at ec o1 q12
 have eka:ka=ka0:=by simpa using ec
 subst eka
 obtain⟨va,ba,sa,u1,u2,u3,u4⟩:=h1.u
 obtain⟨va',pa,b1,b2,b3⟩:=h1.b
 obtain⟨m2,ka2,T2,e2,r2,hne,a2,k2,w2⟩:=Z3c (m:=m1) (k:=1) (news:=[.int .i64 v]) (cs:=[.int .i64 v]) (e0:=3) rfl u22 ap3 q12 (by omega) (by simp) (by simp [Zau]) (by omega) (by omega)
 obtain⟨f2,o2,t2⟩:Zev T2 5 m2 kb _ _:=Zev.keep ⟨f1,o1,t1⟩ k2 a2 (by simp)
 obtain⟨m3,e3,o3',k3⟩:=Zdq (vs:=[.slice ka2 (s.known.length+1) (s.known.length+1)]) (off:=0) rfl (⟨f2,o2,t2⟩:Zev T2 5 m2 kb _ _) (by simp) (by simp [Zae])
 simp [Zb1] at o3'
 refine⟨ka,o0.load1 (off:=0) rfl,o1.load1 (off:=0) rfl,(o1.ln _ _ 0 1).trans (o1.load1 (off:=0) rfl),m2,ka2,m3,T2,e2,o2.load1 (off:=0) rfl,e3,⟨⟨va,ba,sa,(u1.keep k2 a2 (by simp)).keep k3 Ag.refl (by simp),(u2.keep k2 a2 (by simp) (by simp)).keep k3 Ag.refl (by simp) (by simp),(u3.keep k2 a2 (by simp) (by simp)).keep k3 Ag.refl (by simp) (by simp),(u4.keep k2 a2 (by simp) (by simp)).keep k3 Ag.refl (by simp) (by simp)⟩,⟨ka2,by simpa using o3',by simpa using r2.keep k3 Ag.refl (by simp)⟩,⟨va',pa,(b1.keep k2 a2 (by simp)).keep k3 Ag.refl (by simp),(b2.keep k2 a2 (by simp)).keep k3 Ag.refl (by simp),Zan (Zan b3 k2 a2 (by simp)) k3 Ag.refl (by simp)⟩,(h1.a.keep k2 a2 (by simp)).keep k3 Ag.refl (by simp)⟩,a2,(k2.mono (by simp)).trans a2 (k3.mono (by simp)),fun f=>by have:=hT f;have:=w2 f;omega⟩
structure Bd (ops:List Int)(s:Us):Prop where
 k1:1≤s.known.length
 k2:s.known.length≤s.vals.length
 b:s.bv.length≤s.vals.length
 st:s.sts.length≤s.vals.length+s.blks.length
 a:s.at_≤ops.length
def knP (d:Zb.D)(s:Us):Us:={ Zbi d s with known:=s.known++[(s.vals.length:Int)] }
def Zd5 (ops:List Int)(a b:Int)(k:Int)(s:Us):Us:=
 if k < 12 then knP (3+k,a,b,0,[],0,()) s
 else if k=12 then knP (2,0,0,(Zar ops 1048576 s).2 - 9,[],0,()) (Zar ops 1048576 s).1
 else if k=13 then knP (17,a,0,(Zar ops 5 s).2,[],0,()) (Zar ops 5 s).1
 else if k=14 then knP (18,a,b,0,[],0,()) s
 else if k=15 then Zbi (19,a,b,(Zar ops 5 s).2,[],0,()) (Zar ops 5 s).1
 else if k=16 then Zbi (20,a,b,0,[(Zbc ops s).2],0,()) (Zbc ops s).1
 else if k=17 then Zbi (22,a,0,0,[],(Zac ops s).2,()) (Zac ops s).1
 else if k=18 then Zbi (23,0,0,0,[],(Zac ops s).2,()) (Zac ops s).1
 else knP (15+(Zar ops 2 s).2,a,0,0,[],0,()) (Zar ops 2 s).1
def Z8s (ops:List Int)(s:Us):Us:=
 Zd5 ops (Zbc ops s).2 (Zbc ops (Zbc ops s).1).2 (Zar ops 20 (Zbc ops (Zbc ops s).1).1).2 (Zar ops 20 (Zbc ops (Zbc ops s).1).1).1
def Zgj (ops:List Int):Nat→Us→Us
 | 0,s=>s
 | i+1,s=>if s.vals.length < 200 then Zgj ops i (Z8s ops s) else s
def Zf0 (ops:List Int)(s:Us):Us:=Zgj ops (1+(Zar ops 6 s).2.toNat) (Zar ops 6 s).1
theorem Bd.next (h:Bd ops s)(k:Int):Bd ops (Zar ops k s).1:=by
 obtain⟨q1,q2,q3,q4,q5,q6⟩:=Za6 (ops:=ops) (s:=s) k
 have q7:=Zpc k h.a
 exact⟨by rw [q1];exact h.k1,by rw [q1,q3];exact h.k2,by rw [q4,q3];exact h.b,by rw [q2,q3,q5];exact h.st,q7⟩
theorem Bd.put (h:Bd ops s)(d:Zb.D):Bd ops (Zbi d s):=⟨h.k1,by simp [Zbi];have:=h.k2;omega,by simp [Zbi];exact h.b,by simp [Zbi];have:=h.st;omega,h.a⟩
theorem Bd.kn (h:Bd ops s)(d:Zb.D):Bd ops (knP d s):=⟨by simp [knP,Zbi],by simp [knP,Zbi];exact h.k2,by simp [knP,Zbi];exact h.b,by simp [knP,Zbi];have:=h.st;omega,h.a⟩
theorem Zfy (h:Bd ops s):Bd ops (Zbc ops s).1:=h.next _
theorem Z0w (k:Nat):∀ {s:Us} {l:List Int},Bd ops s→Bd ops (Zfs ops k s l).1∧(Zfs ops k s l).1.vals=s.vals∧(Zfs ops k s l).1.sts=s.sts∧(Zfs ops k s l).1.known=s.known∧(Zfs ops k s l).1.blks=s.blks∧(Zfs ops k s l).1.bv=s.bv:=by
 induction k with
 | zero=>intro s l h;exact⟨h,rfl,rfl,rfl,rfl,rfl⟩
 | succ k ih =>
  intro s l h
  obtain⟨q1,q2,q3,q4,q5,q6⟩:=Za6 (ops:=ops) (s:=s) (s.known.length:Nat)
  obtain⟨h1,h2,h3,h4,h5,h6⟩:=ih (l:=l++[(Zbc ops s).2]) (Zfy h)
  rw [Zfs]
  exact⟨h1,h2.trans q3,h3.trans q2,h4.trans q1,h5.trans q5,h6.trans q4⟩
theorem Zde (h:Bd ops s)(d:Zb.D):Bd ops (Zbi d (Zac ops s).1)∧(Zac ops s).1.vals=s.vals∧(Zac ops s).1.known=s.known∧(Zac ops s).1.bv=s.bv∧(Zac ops s).1.blks=s.blks∧(Zac ops s).1.sts.length=s.sts.length+1∧(Zac ops s).1.at_≤ops.length:=by
 obtain⟨h1,h2,h3,h4,h5,h6⟩:=Z0w (ops:=ops) (Zar ops 4 s).2.toNat (s:=(Zar ops 4 s).1) (l:=[]) (h.next 4)
 obtain⟨q1,q2,q3,q4,q5,q6⟩:=Za6 (ops:=ops) (s:=s) 4
 have e1:=h2.trans q3
 have e2:=h4.trans q1
 have e3:=h6.trans q4
 have e4:=h5.trans q5
 have e5:=h3.trans q2
 refine⟨⟨?_,?_,?_,?_,?_⟩,e1,e2,e3,e4,?_,?_⟩
 ·simp only [Zbi,Zac,e2];exact h.k1
 ·simp only [Zbi,Zac,e2,e1,List.length_append,List.length_cons,List.length_nil];have:=h.k2;omega
 ·simp only [Zbi,Zac,e3,e1,List.length_append,List.length_cons,List.length_nil];have:=h.b;omega
 ·simp only [Zbi,Zac,e5,e1,e4,List.length_append,List.length_cons,List.length_nil];have:=h.st;omega
 ·exact h1.a
 ·simp only [Zac,e5,List.length_append,List.length_cons,List.length_nil]
 ·exact h1.a
end Go.Proofs.YtcgmchechmbmeaaDoor.base
end
