/- This text proves what the parts of turnstonehand.Unit do, Zbx the abstract run: its own steps between them. Condition: nothing is known of the calls ahead ('S f = []'). -/
import Derived.Test.YtcgmchechmbmeaaDoorM12
set_option linter.unusedVariables false
set_option linter.unusedSimpArgs false
section
set_option maxRecDepth 100000
namespace Go.Proofs.YtcgmchechmbmeaaDoor.base
open Go.Sh gen
variable {S:Zb4}{T T':Tg}{m0 m m1 m2:Mem}{is js:List Nat}{s s1:Us}
structure Pl where
 (ub kb bb ab rb nx px sx rc bad rf:Nat)
 (ops sh:List Int)
 n:Int
def Z5m (T:Tg)(i:Nat)(m:Mem)(b:Nat)(cells:List Value)(e fam:Nat):Prop:=Own m b cells e fam∧T fam=i
theorem Z5m.keep {i b e f:Nat}{cells:List Value}(h:Z5m T i m b cells e f)(k:KT T is m m1)(a:Ag T T' m)(hi:i∉is):Z5m T' i m1 b cells e f:=by
 obtain⟨o,rfl⟩:=h
 obtain⟨fs,kk,hf⟩:=k
 exact⟨o.keep kk (fun hm=>hi (hf _ hm o.flt)),a _ o.flt⟩
structure UB (m0:Mem)(T:Tg)(m:Mem)(P:Pl)(s:Us):Prop where
 u:UM T m P.ub P.kb P.bb P.ab s
 c:UC T m P.ub P.kb P.bb P.ab P.rb P.nx P.px P.sx P.ops P.sh P.n
 t:∀ f,T f≤10
 j0:∀ f,f < m0.next→T f=if f=P.bad then 10 else 0
 j1:Zaa m0 m []
 o:Z5m T 10 m P.rc [.int .i64 0,.int .i64 0,.slice none 0 0,.slice none 0 0,.slice none 0 0] 29 P.rf
 ol:P.ops.length≤9223372036854775807
variable {P:Pl}
theorem jk {bd:Nat}(h0:∀ f,f < m0.next→T f=if f=bd then 10 else 0)(h1:Zaa m0 m [])(k:KT T is m m1)(hi:0∉is)(hi2:10∉is:=by simp):Zaa m0 m1 []:=by
 obtain⟨fs,kk,hf⟩:=k
 refine h1.fresh kk (fun f hm=>?_)
 have:=h1.1
 by_cases hl:f < m.next
 ·by_cases h:m0.next≤f
  ·exact h
  ·exact absurd (hf f hm hl) (by
    rw [h0 f (by omega)]
    split
    ·exact hi2
    ·exact hi)
 ·omega
theorem ja {bd:Nat}(h0:∀ f,f < m0.next→T f=if f=bd then 10 else 0)(h1:Zaa m0 m [])(a:Ag T T' m):∀ f,f < m0.next→T' f=if f=bd then 10 else 0:=fun f hf=>(a f (by have:=h1.1;omega)).trans (h0 f hf)
theorem UB.next (hN:Nq S)(h:UB m0 T m P s)(hb:Bd P.ops s){k:Int}(hk:0 < k)(hk2:k < 4611686018427387904) :
  ∃ m1,Zaq Tryd.prog TT S 20 [.int .i64 k,.pointer (some ⟨P.ab,0,none⟩),.pointer (some ⟨P.rb,0,none⟩)] m=some (.int .i64 (Zat P.ops k s).2,m1)∧UB m0 T m1 P (Zat P.ops k s).1:=by
 obtain⟨v1,m1,c1,rfl,h1,hc1,k1⟩:=Zes hN h.u h.c hb.a h.ol hk hk2
 exact⟨m1,c1,h1,hc1,h.t,h.j0,jk h.j0 h.j1 k1 (by simp),h.o.keep k1 Ag.refl (by simp),h.ol⟩
theorem UB.any (hN:Nq S)(h:UB m0 T m P s)(hb:Bd P.ops s)(hv:s.vals.length≤900) :
  ∃ m1 kv x,Zaq Tryd.prog TT S 20 [.int .i64 (s.known.length:Nat),.pointer (some ⟨P.ab,0,none⟩),.pointer (some ⟨P.rb,0,none⟩)] m=some (.int .i64 (x:Nat),m1)∧x < s.known.length∧(x:Int) < s.known.length∧(x:Int)≤9223372036854775807∧UB m0 T m1 P (Zbc P.ops s).1∧KT T [9] m m1∧
   loadRow m ⟨P.kb,0,none⟩ 1=some [.slice (some ⟨kv,0,none⟩) s.known.length s.known.length]∧loadRow m1 ⟨P.kb,0,none⟩ 1=some [.slice (some ⟨kv,0,none⟩) s.known.length s.known.length]∧loadRow m1 ⟨kv,x,none⟩ 1=some [.int .i64 (Zbc P.ops s).2]∧Bd P.ops (Zbc P.ops s).1∧(Zbc P.ops s).1.known=s.known∧(Zbc P.ops s).1.vals=s.vals∧(Zbc P.ops s).1.blks=s.blks:=by
 obtain⟨m1,kv,x,c1,hx,h1,hc1,k1,l1,l2,l3,e1,e2,e3⟩:=Zoq hN h.u h.c hb h.ol (by have:=hb.k2;omega)
 exact⟨m1,kv,x,c1,hx,by omega,by have:=hb.k2;omega,⟨h1,hc1,h.t,h.j0,jk h.j0 h.j1 k1 (by simp),h.o.keep k1 Ag.refl (by simp),h.ol⟩,k1,l1,l2,l3,Zfg hb,e1,e2,e3⟩
theorem UB.put (hN:Nq S)(h:UB m0 T m P s)(hv:s.vals.length≤900)(hbv:s.bv.length≤1000)(d:Za9.D){aa:Option Addr}(hd:Zah (DQ T m) m aa (Zec d)) :
  ∃ m1 T',Zaq Tryd.prog TT S 19 [.agg (Zlt d aa).toArray,.pointer (some ⟨P.ub,0,none⟩),.pointer (some ⟨P.bb,0,none⟩)] m=some (.int .i64 (s.vals.length:Nat),m1)∧UB m0 T' m1 P (Zbu d s)∧Ag T T' m∧KT T [1,2,7,8] m m1:=by
 obtain⟨v1,m1,c1,rfl,T1,h1,a1,k1,b1⟩:=Zdq hN h.t h.u (by omega) hbv hd
 exact⟨m1,T1,c1,⟨h1,h.c.keep k1 a1 (by simp) (by simp),b1,ja h.j0 h.j1 a1,jk h.j0 h.j1 k1 (by simp),h.o.keep k1 a1 (by simp),h.ol⟩,a1,k1⟩
theorem UB.state (hN:Nq S)(h:UB m0 T m P s)(hb:Bd P.ops s)(hv:s.vals.length≤900)(hbl:s.blks.length≤90) :
  ∃ m1 T',Zaq Tryd.prog TT S 21 [.pointer (some ⟨P.ub,0,none⟩),.pointer (some ⟨P.nx,0,none⟩),.pointer (some ⟨P.kb,0,none⟩)] m=some (.int .i64 (Zac P.ops s).2,m1)∧UB m0 T' m1 P (Zac P.ops s).1:=by
 have:=hb.k2
 have:=hb.st
 obtain⟨v1,m1,c1,rfl,T1,h1,hc1,a1,k1,b1⟩:=Zkk hN h.t h.u h.c hb.a h.ol ⟨hb.k1,by omega⟩ (by omega)
 exact⟨m1,T1,c1,h1,hc1,b1,ja h.j0 h.j1 a1,jk h.j0 h.j1 k1 (by simp),h.o.keep k1 a1 (by simp),h.ol⟩
theorem UB.row (hN:Nq S)(h:UB m0 T m P s)(hb:Bd P.ops s)(hv:s.vals.length≤600)(hbl:s.blks.length≤90) :
  ∃ v m1 T',Zaq Tryd.prog TT S 22 [.pointer (some ⟨P.nx,0,none⟩),.pointer (some ⟨P.ub,0,none⟩),.pointer (some ⟨P.kb,0,none⟩),.pointer (some ⟨P.px,0,none⟩),.pointer (some ⟨P.sx,0,none⟩)] m=some (v,m1)∧UB m0 T' m1 P (Zgv P.ops s)∧Bd P.ops (Zgv P.ops s)∧(Zgv P.ops s).vals.length≤max s.vals.length 200∧(Zgv P.ops s).blks=s.blks:=by
 obtain⟨v1,m1,c1,T1,h1,hc1,a1,k1,b1,d1,e1,e2⟩:=Z1s hN h.t h.u h.c h.ol hb hv (by omega)
 exact⟨v1,m1,T1,c1,⟨h1,hc1,b1,ja h.j0 h.j1 a1,jk h.j0 h.j1 k1 (by simp),h.o.keep k1 a1 (by simp),h.ol⟩,d1,e1,e2⟩
theorem UB.end (hN:Nq S)(h:UB m0 T m P s)(hbl:s.blks.length≤90)(e c:Int)(next:List Int)(st:Int){na:Option Addr}(hd:Zah (DQ T m) m na next) :
  ∃ m1 T',Zaq Tryd.prog TT S 23 [.agg #[.slice none 0 0,.int .i64 e,.int .i64 c,.slice na next.length next.length,.slice none 0 0,.int .i64 st],.pointer (some ⟨P.bb,0,none⟩),.pointer (some ⟨P.ub,0,none⟩)] m=some (.int .i64 (s.blks.length:Nat),m1)∧UB m0 T' m1 P (Zb6 e c next st s):=by
 obtain⟨v1,m1,c1,rfl,T1,h1,hc1,a1,k1,b1⟩:=Zzw hN h.t h.u h.c (by omega) (e:=e) (c:=c) (st:=st) hd
 have hn:=h.j1.1
 obtain⟨oo,to⟩:=h.o
 obtain⟨fs,kk,hf⟩:=k1
 refine⟨m1,T1,c1,h1,hc1,b1,fun f hf=>(a1 f (by omega) (by rw [h.j0 f hf];split <;> omega)).trans (h.j0 f hf),jk h.j0 h.j1 ⟨fs,kk,hf⟩ (by simp),⟨oo.keep kk (fun hm=>?_),?_⟩,h.ol⟩
 ·have:=hf _ hm oo.flt
  rw [to] at this
  simp at this
 ·exact (a1 P.rf oo.flt (by rw [to];omega)).trans to
theorem UB.ints (h:UB m0 T m P s)(l:List Int){m1:Mem}(hr:m.new (ints l) 3=m1):∃ T',UB m0 T' m1 P s∧Zah (DQ T' m1) m1 (some ⟨m.next,0,none⟩) l∧Ag T T' m∧KT T [] m m1:=by
 obtain⟨T1,a1,⟨f1,o1,t1⟩,k1,n1,w1⟩:=Znh (m:=m) T 0 hr
 have kt:KT T [] m m1:=KT.of k1
 exact⟨T1,⟨h.u.keep kt a1 (by simp),h.c.keep kt a1 (by simp) (by simp),fun f=>by have:=h.t f;have:=w1 f;omega,ja h.j0 h.j1 a1,jk h.j0 h.j1 kt (by simp),h.o.keep kt a1 (by simp),h.ol⟩,⟨f1,Zp1 ⟨by simp,Or.inr ⟨_,rfl,o1.rdo⟩⟩,fun _=>⟨t1,o1.flt⟩⟩,a1,kt⟩
theorem UB.preds (h:UB m0 T m P s){pa:Option Addr}{l:List Int}(hd:Zah (DQ T m) m pa l):∃ m1,Zad m ⟨P.bb,4,none⟩ [.slice pa l.length l.length]=some m1∧UB m0 T m1 P { s with bp:=l }:=by
 obtain⟨va,pa0,b1,b2,b3⟩:=h.u.b
 obtain⟨m1,e1,o1,k1⟩:=Zdh (off:=4) (vs:=[.slice pa l.length l.length]) rfl b1 (by simp) (by simp [Zae])
 simp [Zbx] at o1
 obtain⟨va',ba,sa,u1,u2,u3,u4⟩:=h.u.u
 obtain⟨ka,q1,q2⟩:=h.u.k
 exact⟨m1,e1,⟨⟨va',ba,sa,u1.keep k1 Ag.refl (by simp),u2.keep k1 Ag.refl (by simp) (by simp),u3.keep k1 Ag.refl (by simp) (by simp),u4.keep k1 Ag.refl (by simp) (by simp)⟩,⟨ka,q1.keep k1 Ag.refl (by simp),q2.keep k1 Ag.refl (by simp)⟩,⟨va,pa,o1,b2.keep k1 Ag.refl (by simp),Zan hd k1 Ag.refl (by simp)⟩,h.u.a.keep k1 Ag.refl (by simp)⟩,h.c.keep k1 Ag.refl (by simp) (by simp),h.t,h.j0,jk h.j0 h.j1 k1 (by simp),h.o.keep k1 Ag.refl (by simp),h.ol⟩
theorem UB.cut (h:UB m0 T m P s){k:Nat}(hk:k≤s.known.length)(h1:1≤k):∃ kv,loadRow m ⟨P.kb,0,none⟩ 1=some [.slice (some ⟨kv,0,none⟩) s.known.length s.known.length]∧∃ m1,Zad m ⟨P.kb,0,none⟩ [.slice (some ⟨kv,0,none⟩) k k]=some m1∧UB m0 T m1 P { s with known:=s.known.take k }:=by
 obtain⟨va,pa0,b1,b2,b3⟩:=h.u.b
 obtain⟨va',ba,sa,u1,u2,u3,u4⟩:=h.u.u
 obtain⟨ka,q1,q2⟩:=h.u.k
 obtain⟨f6,o6,t6⟩:=q2
 obtain⟨kv,rest,rfl,_⟩:=o6.own (by omega)
 obtain⟨f5,o5,t5⟩:=q1
 have l5:=o5.load1 (off:=0) rfl
 obtain⟨m1,e1,o1,k1⟩:=Zdh (off:=0) (vs:=[.slice (some ⟨kv,0,none⟩) k k]) rfl (⟨f5,o5,t5⟩:Zeu T 5 m P.kb _ _) (by simp) (by simp [Zae])
 simp [Zbx] at o1
 have es:base.ints s.known=base.ints (s.known.take k)++base.ints (s.known.drop k):=by rw [← List.map_append,List.take_append_drop]
 have cut:SrT T 6 m (some ⟨kv,0,none⟩) k (base.ints (s.known.take k)) 3 1:=⟨f6,Sr.cut (more:=base.ints (s.known.drop k)) (n:=s.known.length) (by rw [← es];exact o6) (by simp;omega) (fun h=>by simp at h),t6⟩
 have lt:(s.known.take k).length=k:=by rw [List.length_take];omega
 refine⟨kv,l5,m1,e1,⟨⟨va',ba,sa,u1.keep k1 Ag.refl (by simp),u2.keep k1 Ag.refl (by simp) (by simp),u3.keep k1 Ag.refl (by simp) (by simp),u4.keep k1 Ag.refl (by simp) (by simp)⟩,⟨some ⟨kv,0,none⟩,?_,?_⟩,⟨va,pa0,b1.keep k1 Ag.refl (by simp),b2.keep k1 Ag.refl (by simp),Zan b3 k1 Ag.refl (by simp)⟩,h.u.a.keep k1 Ag.refl (by simp)⟩,h.c.keep k1 Ag.refl (by simp) (by simp),h.t,h.j0,jk h.j0 h.j1 k1 (by simp),h.o.keep k1 Ag.refl (by simp),h.ol⟩
 ·simp only [lt];exact o1
 ·simp only [lt];exact cut.keep k1 Ag.refl (by simp)
theorem UB.kns (h:UB m0 T m P s)(h1:UB m0 T' m1 P s1)(k:KT T is m m1)(a:Ag T T' m)(hi:5∉is)(e:s1.known=s.known)(hl:s.known.length≤900)(vs:List Int)(hvs:vs≠[])(hvl:vs.length≤2):∃ ka,loadRow m ⟨P.kb,0,none⟩ 1=some [.slice ka s.known.length s.known.length]∧loadRow m1 ⟨P.kb,0,none⟩ 1=some [.slice ka s.known.length s.known.length]∧
  loadRow (m1.new (base.ints vs) 3) ⟨P.kb,0,none⟩ 1=some [.slice ka s.known.length s.known.length]∧
  ∃ m2 ka2 m3 T2,Zak Tryd.prog 22 (m1.new (base.ints vs) 3) (.slice ka s.known.length s.known.length) (base.ints vs) vs.length=some (.slice ka2 (s.known.length+vs.length) (s.known.length+vs.length),m2)∧loadRow m2 ⟨P.kb,0,none⟩ 1=some [.slice ka s.known.length s.known.length]∧
   Zad m2 ⟨P.kb,0,none⟩ [.slice ka2 (s.known.length+vs.length) (s.known.length+vs.length)]=some m3∧UB m0 T2 m3 P { s1 with known:=s.known++vs }:=by
 have hz:vs.length≠0:=by simpa using hvs
 obtain⟨ka0,q1,q2⟩:=h.u.k
 obtain⟨ka,q11,q12⟩:=h1.u.k
 have q13:=q1.keep k a hi
 obtain⟨f0,o0,_⟩:=q1
 obtain⟨f1,o1,t1⟩:=q11
 obtain⟨f3,o3,_⟩:=q13
 have ec:=Zt3 o1 o3
 rw [e] at ec o1 q12
 have eka:ka=ka0:=by simpa using ec
 subst eka
 obtain⟨va,ba,sa,u1,u2,u3,u4⟩:=h1.u.u
 obtain⟨va',pa,b1,b2,b3⟩:=h1.u.b
 obtain⟨m2,ka2,T2,e2,r2,hne,a2,k2,w2⟩:=Z2l (m:=m1) (k:=vs.length) (news:=base.ints vs) (cs:=base.ints vs) (e0:=3) rfl u22 ap3 q12 hz (by simp) (by simp [Zau]) (by omega) (by omega)
 obtain⟨f2,o2,t2⟩:Zeu T2 5 m2 P.kb _ _:=Zeu.keep ⟨f1,o1,t1⟩ k2 a2 (by simp)
 obtain⟨m3,e3,o3',k3⟩:=Zdh (vs:=[.slice ka2 (s.known.length+vs.length) (s.known.length+vs.length)]) (off:=0) rfl (⟨f2,o2,t2⟩:Zeu T2 5 m2 P.kb _ _) (by simp) (by simp [Zae])
 simp [Zbx] at o3'
 refine⟨ka,o0.load1 (off:=0) rfl,o1.load1 (off:=0) rfl,(o1.ln _ _ 0 1).trans (o1.load1 (off:=0) rfl),m2,ka2,m3,T2,e2,o2.load1 (off:=0) rfl,e3,⟨⟨va,ba,sa,(u1.keep k2 a2 (by simp)).keep k3 Ag.refl (by simp),(u2.keep k2 a2 (by simp) (by simp)).keep k3 Ag.refl (by simp) (by simp),(u3.keep k2 a2 (by simp) (by simp)).keep k3 Ag.refl (by simp) (by simp),(u4.keep k2 a2 (by simp) (by simp)).keep k3 Ag.refl (by simp) (by simp)⟩,⟨ka2,by simpa using o3',by simpa using r2.keep k3 Ag.refl (by simp)⟩,⟨va',pa,(b1.keep k2 a2 (by simp)).keep k3 Ag.refl (by simp),(b2.keep k2 a2 (by simp)).keep k3 Ag.refl (by simp),Zan (Zan b3 k2 a2 (by simp)) k3 Ag.refl (by simp)⟩,(h1.u.a.keep k2 a2 (by simp)).keep k3 Ag.refl (by simp)⟩,(h1.c.keep k2 a2 (by simp) (by simp)).keep k3 Ag.refl (by simp) (by simp),fun f=>by have:=h1.t f;have:=w2 f;omega,ja h1.j0 h1.j1 a2,jk h1.j0 h1.j1 ((k2.mono (by simp)).trans a2 (k3.mono (by simp)):KT T' [5,6] m1 m3) (by simp),(h1.o.keep k2 a2 (by simp)).keep k3 Ag.refl (by simp),h1.ol⟩
end Go.Proofs.YtcgmchechmbmeaaDoor.base
end
section
set_option maxRecDepth 100000
namespace Go.Proofs.YtcgmchechmbmeaaDoor.base
open Go.Sh gen
variable {S:Zb4}{T T':Tg}{m0 m m1 m2:Mem}{is js:List Nat}{s s1:Us}{P:Pl}
theorem Zgs {Q:Nat→Prop}{d:Za9.D}{c:List Value}(h:AtI Q m Za9 d c):∃ ao,c=Zlt d ao∧Zah Q m ao (Zec d):=by
 obtain⟨_,_,e1,rfl,_,_,e2,rfl,_,_,e3,rfl,_,_,e4,rfl,_,_,e5,h5,_,_,e6,rfl,h7⟩:=h
 simp only [AtI] at h7
 subst h7
 obtain⟨ao,f,rfl,hr,hqf⟩:=Zdv h5
 exact⟨ao,by rw [e1,e2,e3,e4,e5,e6];rfl,f,hr,hqf⟩
theorem Zsh {css:List (List Value)}{z p k:Nat}(h:∀ x∈css,x.length=z)(hp:p < css.length)(hk:k < z):css.flatten[p * z+k]?=css[p][k]?:=by
 induction css generalizing p with
 | nil=>simp at hp
 | cons a r ih =>
  have ha:=h a (by simp)
  cases p with
  | zero=>simp only [Nat.zero_mul,Nat.zero_add,List.flatten_cons,List.getElem_cons_zero];rw [List.getElem?_append_left (by omega)]
  | succ p =>
   have:=ih (p:=p) (fun x hx=>h x (by simp [hx])) (by simpa using hp)
   simp only [List.flatten_cons,List.getElem_cons_succ] at this ⊢
   rw [List.getElem?_append_right (by rw [Nat.add_mul];omega),← this,Nat.add_mul]
   congr 1;omega
def Zrc (d:Za9.D)(l:List Int):Za9.D:=(d.1,d.2.1,d.2.2.1,d.2.2.2.1,l,d.2.2.2.2.2)
theorem Ziq.set {e i:Nat}{l:List Za9.D}{ao aa:Option Addr}{args:List Int}(h:Ziq T m e Za9 l ao i)(hi:i≠0){p:Nat}(hp:p < l.length)(ha:Zah (DQ T m) m aa args) :
  ∃ vb m1,ao=some ⟨vb,0,none⟩∧Zad m ⟨vb,p * 6+4,none⟩ [.slice aa args.length args.length]=some m1∧Ziq T m1 e Za9 (l.set p (Zrc l[p] args)) ao i∧KT T [i] m m1:=by
 obtain⟨css,h1,h2,fam,h3,h4⟩:=h
 obtain⟨vb,rfl,o⟩:=h3.own (by omega)
 have hpc:p < css.length:=by omega
 have hz:∀ x∈css,x.length=6:=fun x hx=>by
  obtain⟨j,hj,e⟩:=List.getElem_of_mem hx
  exact AtI.len (h2 j l[j] x (by simp) (by rw [← e];simp))
 have hlen:css.flatten.length=l.length * 6:=h3.1.symm
 have hb:p * 6+4+1≤css.flatten.length:=by omega
 obtain⟨m1,e1,o1,k1⟩:=Zdh (i:=i) (off:=p * 6+4) (vs:=[.slice aa args.length args.length]) rfl (⟨fam,o,h4 (by simp)⟩:Zeu T i m vb css.flatten e) hb (by simp [Zae])
 rw [Zmc hz hpc (by omega)] at o1
 obtain⟨fam1,o1,t1⟩:=o1
 refine⟨vb,m1,rfl,e1,⟨css.set p (css[p].set 4 (.slice aa args.length args.length)),by simp [h1],fun j d c hd hc=>?_,fam1,?_,fun _=>t1⟩,k1⟩
 ·have h0:(0:Nat)∉[i]:=by simp;omega
  by_cases hj:j=p
  ·subst hj
   rw [List.getElem?_set_self (by simpa using hp)] at hd
   rw [List.getElem?_set_self hpc] at hc
   simp at hd hc
   subst hd hc
   obtain⟨ao',e2,ha'⟩:=Zgs (h2 j l[j] css[j] (by simp) (by simp))
   have:=Zhu (d:=Zrc l[j] args) (Zan ha k1 Ag.refl h0)
   rw [e2]
   exact this
  ·rw [List.getElem?_set_ne (by omega)] at hd
   rw [List.getElem?_set_ne (by omega)] at hc
   exact Zls (h2 j d c hd hc) k1 Ag.refl h0
 ·refine Sl.of o1 ?_
  rw [← Zmc hz hpc (by omega)]
  simp [Zbx,-List.length_flatten]
  have:=h3.1
  omega
theorem Ziq.get {e i:Nat}{l:List Za9.D}{ao:Option Addr}(h:Ziq T m e Za9 l ao i){p:Nat}(hp:p < l.length) :
  ∃ vb aa,ao=some ⟨vb,0,none⟩∧loadRow m ⟨vb,p * 6+4,none⟩ 1=some [.slice aa (Zec l[p]).length (Zec l[p]).length]∧Zah (DQ T m) m aa (Zec l[p]):=by
 obtain⟨css,h1,h2,fam,h3,h4⟩:=h
 obtain⟨vb,rfl,o⟩:=h3.own (by omega)
 have hpc:p < css.length:=by omega
 have hz:∀ x∈css,x.length=6:=fun x hx=>by
  obtain⟨j,hj,e⟩:=List.getElem_of_mem hx
  exact AtI.len (h2 j l[j] x (by simp) (by rw [← e];simp))
 obtain⟨aa,e2,ha⟩:=Zgs (h2 p l[p] css[p] (by simp) (by simp))
 refine⟨vb,aa,rfl,o.load1 ?_,ha⟩
 rw [Zsh hz hpc (by omega),e2]
 rfl
def Zbl (p:Nat)(l:List Int)(s:Us):Us:=if h:p < s.vals.length then { s with vals:=s.vals.set p (Zrc s.vals[p] l) } else s
theorem UB.args (h:UB m0 T m P s){p:Nat}(hp:p < s.vals.length)(l:List Int):∃ va,loadRow m ⟨P.ub,2,none⟩ 1=some [.slice (some ⟨va,0,none⟩) s.vals.length s.vals.length]∧
  ∃ m2 T2,Zad (m.new (base.ints l) 3) ⟨va,p * 6+4,none⟩ [.slice (some ⟨m.next,0,none⟩) l.length l.length]=some m2∧UB m0 T2 m2 P (Zbl p l s):=by
 obtain⟨T1,h1,d1,a1,k1⟩:=h.ints l rfl
 obtain⟨va,ba,sa,u1,u2,u3,u4⟩:=h.u.u
 obtain⟨ka,q1,q2⟩:=h1.u.k
 obtain⟨va',pa0,b1,b2,b3⟩:=h1.u.b
 have v1:=u1.keep k1 a1 (by simp)
 have v2:=u2.keep k1 a1 (by simp) (by simp)
 have v3:=u3.keep k1 a1 (by simp) (by simp)
 have v4:=u4.keep k1 a1 (by simp) (by simp)
 obtain⟨vb,m2,rfl,e2,r2,k2⟩:=v2.set (by omega) hp d1
 obtain⟨f1,o1,t1⟩:=u1
 have e:Zbl p l s={ s with vals:=s.vals.set p (Zrc s.vals[p] l) }:=dif_pos hp
 rw [e]
 exact⟨vb,o1.load1 (off:=2) rfl,m2,T1,e2,⟨⟨some ⟨vb,0,none⟩,ba,sa,by simpa using v1.keep k2 Ag.refl (by simp),r2,v3.keep k2 Ag.refl (by simp) (by simp),v4.keep k2 Ag.refl (by simp) (by simp)⟩,⟨ka,q1.keep k2 Ag.refl (by simp),q2.keep k2 Ag.refl (by simp)⟩,⟨va',pa0,b1.keep k2 Ag.refl (by simp),b2.keep k2 Ag.refl (by simp),Zan b3 k2 Ag.refl (by simp)⟩,h1.u.a.keep k2 Ag.refl (by simp)⟩,h1.c.keep k2 Ag.refl (by simp) (by simp),h1.t,h1.j0,jk h1.j0 h1.j1 k2 (by simp),h1.o.keep k2 Ag.refl (by simp),h1.ol⟩
theorem UB.arg0 (h:UB m0 T m P s){p:Nat}(hp:p < s.vals.length){x y:Int}(hx:Zec s.vals[p]=[x,y]):∃ (va:Nat) (aa:Nat × Nat),loadRow m ⟨P.ub,2,none⟩ 1=some [.slice (some ⟨va,0,none⟩) s.vals.length s.vals.length]∧
  loadRow m ⟨va,p * 6+4,none⟩ 1=some [.slice (some ⟨aa.1,aa.2,none⟩) 2 2]∧loadRow m ⟨aa.1,aa.2,none⟩ 1=some [.int .i64 x]:=by
 obtain⟨va,ba,sa,u1,u2,u3,u4⟩:=h.u.u
 obtain⟨vb,aa,rfl,l1,d1⟩:=u2.get hp
 obtain⟨f1,o1,t1⟩:=u1
 rw [hx] at l1 d1
 obtain⟨b,rfl,l2⟩:=d1.get (i:=0) (by simp)
 exact⟨vb,b,o1.load1 (off:=2) rfl,l1,l2⟩
end Go.Proofs.YtcgmchechmbmeaaDoor.base
end
section
set_option maxRecDepth 100000
namespace Go.Proofs.YtcgmchechmbmeaaDoor.base
open Go.Sh gen
variable {S:Zb4}{T T':Tg}{m0 m m1 m2:Mem}{is js:List Nat}{s s1:Us}{P:Pl}
def bpP (l:List Int)(s:Us):Us:={ s with bp:=l }
def Zi8 (k:Nat)(s:Us):Us:={ s with known:=s.known.take k }
theorem UB.ll (h:UB m0 T m P s):∃ ka ba va,loadRow m ⟨P.kb,0,none⟩ 1=some [.slice ka s.known.length s.known.length]∧loadRow m ⟨P.ub,3,none⟩ 1=some [.slice ba s.blks.length s.blks.length]∧loadRow m ⟨P.ub,2,none⟩ 1=some [.slice va s.vals.length s.vals.length]∧
  loadRow m ⟨P.nx,0,none⟩ 1=some [.func (.func 20) #[] #[.pointer (some ⟨P.ab,0,none⟩),.pointer (some ⟨P.rb,0,none⟩)]]∧
  loadRow m ⟨P.px,0,none⟩ 1=some [.func (.func 19) #[] #[.pointer (some ⟨P.ub,0,none⟩),.pointer (some ⟨P.bb,0,none⟩)]]∧
  loadRow m ⟨P.sx,0,none⟩ 1=some [.func (.func 21) #[] #[.pointer (some ⟨P.ub,0,none⟩),.pointer (some ⟨P.nx,0,none⟩),.pointer (some ⟨P.kb,0,none⟩)]]:=by
 obtain⟨va,ba,sa,⟨f,o,_⟩,_⟩:=h.u.u
 obtain⟨ka,⟨f2,o2,_⟩,_⟩:=h.u.k
 exact⟨ka,ba,va,o2.load1 (off:=0) rfl,o.load1 (off:=3) rfl,o.load1 (off:=2) rfl,h.c.ln,h.c.lp,h.c.ls⟩
theorem UB.endn (hN:Nq S)(h:UB m0 T m P s)(hbl:s.blks.length≤90)(e c:Int)(next:List Int)(st:Int) :
  ∃ m1 T',Zaq Tryd.prog TT S 23 [.agg #[.slice none 0 0,.int .i64 e,.int .i64 c,.slice (some ⟨m.next,0,none⟩) next.length next.length,.slice none 0 0,.int .i64 st],.pointer (some ⟨P.bb,0,none⟩),.pointer (some ⟨P.ub,0,none⟩)] (m.new (base.ints next) 3)=some (.int .i64 (s.blks.length:Nat),m1)∧UB m0 T' m1 P (Zb6 e c next st s):=by
 obtain⟨T1,h1,d1,a1,k1⟩:=h.ints next rfl
 exact h1.end hN hbl e c next st d1
theorem UB.predn (h:UB m0 T m P s)(l:List Int):∃ m2 T2,Zad (m.new (base.ints l) 3) ⟨P.bb,4,none⟩ [.slice (some ⟨m.next,0,none⟩) l.length l.length]=some m2∧UB m0 T2 m2 P (bpP l s):=by
 obtain⟨T1,h1,d1,a1,k1⟩:=h.ints l rfl
 obtain⟨m2,e2,h2⟩:=h1.preds d1
 exact⟨m2,T1,e2,h2⟩
theorem Bd.end (h:Bd P.ops s)(e c:Int)(next:List Int)(st:Int):Bd P.ops (Zb6 e c next st s):=⟨h.k1,h.k2,by simp [Zb6],by simp [Zb6];have:=h.st;omega,h.a⟩
theorem Bd.bp (h:Bd P.ops s)(l:List Int):Bd P.ops (bpP l s):=⟨h.k1,h.k2,h.b,h.st,h.a⟩
theorem Bd.cut (h:Bd P.ops s){k:Nat}(hk:1≤k):Bd P.ops (Zi8 k s):=⟨by have:=h.k1;simp only [Zi8,List.length_take];omega,by have:=h.k2;simp only [Zi8,List.length_take];omega,h.b,h.st,h.a⟩
theorem Bd.stend (h:Bd P.ops s)(e c:Int)(next:List Int)(st:Int):Bd P.ops (Zb6 e c next st (Zac P.ops s).1):=by
 obtain⟨h0,h1,h2,h3,h4,h5,h6⟩:=Zcy (d:=(0,0,0,0,[],0,())) h
 exact⟨by simp only [Zb6];rw [h2];exact h.k1,by simp only [Zb6];rw [h2,h1];exact h.k2,by simp [Zb6],by simp only [Zb6,List.length_append,List.length_cons,List.length_nil];rw [h5,h1,h4];have:=h.st;omega,h6⟩
theorem Zsj {ops:List Int}(h:Bd ops s)(a b k:Int):s.known.length≤(Zd0 ops a b k s).known.length:=by
 have n:=fun q=>(Za5 (ops:=ops) (s:=s) q).1
 have e:=(Zcy (d:=(0,0,0,0,[],0,())) h).2.2.1
 unfold Zd0
 repeat' split
 all_goals first
  | (simp only [knP,Zbu,List.length_append,List.length_cons,List.length_nil,n];omega)
  | (simp only [Zbu,Zbc,n,e];omega)
theorem Zu {ops:List Int}(h:Bd ops s)(a b k:Int):Bd ops (Zd0 ops a b k s):=by
 unfold Zd0
 repeat' split
 all_goals first
  | exact h.kn _
  | exact (h.next _).kn _
  | exact (h.next _).put _
  | exact (Zfg h).put _
  | exact (Zcy h _).1
theorem Zth {ops:List Int}(k:Nat):∀ {s:Us},Bd ops s→s.known.length≤(Zgf ops k s).known.length:=by
 induction k with
 | zero=>intro s h;exact Nat.le_refl _
 | succ k ih =>
  intro s h
  rw [Zgf]
  split
  ·have h1:=Zfg h
   have h2:=Zfg h1
   have h3:=h2.next 20
   have e1:=(Za5 (ops:=ops) (s:=s) (s.known.length:Nat)).1
   have e2:=(Za5 (ops:=ops) (s:=(Zbc ops s).1) ((Zbc ops s).1.known.length:Nat)).1
   have e3:=(Za5 (ops:=ops) (s:=(Zbc ops (Zbc ops s).1).1) 20).1
   have h4:=Zsj h3 (Zbc ops s).2 (Zbc ops (Zbc ops s).1).2 (Zat ops 20 (Zbc ops (Zbc ops s).1).1).2
   have h5:=ih (Zu h3 (Zbc ops s).2 (Zbc ops (Zbc ops s).1).2 (Zat ops 20 (Zbc ops (Zbc ops s).1).1).2)
   have e12:(Zbc ops (Zbc ops s).1).1.known.length=s.known.length:=by
    have:(Zbc ops (Zbc ops s).1).1.known=(Zbc ops s).1.known:=e2
    rw [this]
    exact congrArg List.length e1
   rw [e3,e12] at h4
   exact Nat.le_trans h4 h5
  ·exact Nat.le_refl _
theorem Zic {ops:List Int}(h:Bd ops s):s.known.length≤(Zgv ops s).known.length:=by
 have e:=(Za5 (ops:=ops) (s:=s) 6).1
 have:=Zth (1+(Zat ops 6 s).2.toNat) (h.next 6)
 rw [e] at this
 exact this
theorem UB.last (h:UB m0 T m P s)(h1:1≤s.known.length):∃ kv,loadRow m ⟨P.kb,0,none⟩ 1=some [.slice (some ⟨kv,0,none⟩) s.known.length s.known.length]∧loadRow m ⟨kv,s.known.length - 1,none⟩ 1=some [.int .i64 (Zdz s)]:=by
 obtain⟨ka,kv,l1,rfl,l2⟩:=h.u.known (j:=s.known.length - 1) (by omega)
 exact⟨kv,l1,l2⟩
theorem UB.lvn (h:UB m0 T m P s)(cs:List Value)(e:TypeId):loadRow (m.new cs e) ⟨P.ub,2,none⟩ 1=loadRow m ⟨P.ub,2,none⟩ 1:=by
 obtain⟨va,ba,sa,⟨f,o,_⟩,_⟩:=h.u.u
 exact o.ln _ _ 2 1
theorem Zqe (a:Option Addr)(n c:Nat):eqV (.slice a n c) (.slice a n c)=true:=by simp [eqV]
theorem UB.args0 (h:UB m0 T m P s){p:Nat}(hp:p < s.vals.length){x y:Int}(hx:Zec s.vals[p]=[x,y])(l:List Int):∃ (va:Nat) (aa:Nat × Nat),loadRow m ⟨P.ub,2,none⟩ 1=some [.slice (some ⟨va,0,none⟩) s.vals.length s.vals.length]∧
  loadRow m ⟨va,p * 6+4,none⟩ 1=some [.slice (some ⟨aa.1,aa.2,none⟩) 2 2]∧loadRow m ⟨aa.1,aa.2,none⟩ 1=some [.int .i64 x]∧
  ∃ m2 T2,Zad (m.new (base.ints l) 3) ⟨va,p * 6+4,none⟩ [.slice (some ⟨m.next,0,none⟩) l.length l.length]=some m2∧UB m0 T2 m2 P (Zbl p l s):=by
 obtain⟨va,aa,l1,l2,l3⟩:=h.arg0 hp hx
 obtain⟨vb,l4,m2,T2,e,h2⟩:=h.args hp l
 have ev:vb=va:=by
  rw [l1] at l4
  simpa using l4.symm
 subst ev
 exact⟨vb,aa,l1,l2,l3,m2,T2,e,h2⟩
theorem Zfx {p:Nat}{l:List Int}:(Zbl p l s).vals.length=s.vals.length∧(Zbl p l s).known=s.known∧(Zbl p l s).blks=s.blks∧(Zbl p l s).bv=s.bv∧(Zbl p l s).sts=s.sts∧(Zbl p l s).at_=s.at_:=by
 unfold Zbl
 split
 ·exact⟨by simp,rfl,rfl,rfl,rfl,rfl⟩
 ·exact⟨rfl,rfl,rfl,rfl,rfl,rfl⟩
theorem Bd.sets (h:Bd P.ops s)(p:Nat)(l:List Int):Bd P.ops (Zbl p l s):=by
 obtain⟨e1,e2,e3,e4,e5,e6⟩:=Zfx (s:=s) (p:=p) (l:=l)
 exact⟨by rw [e2];exact h.k1,by rw [e2,e1];exact h.k2,by rw [e4,e1];exact h.b,by rw [e5,e1,e3];exact h.st,by rw [e6];exact h.a⟩
def Zpb (ops:List Int)(q:Nat)(x:Int)(here:Nat)(hh:Int)(s:Us):Us:=Zgv ops (bpP [hh] (Zb6 1 0 [hh] 0 (Zi8 here (Zbl q [x,Zdz s] s))))
def Zq1 (ops:List Int)(s:Us):Us:=
 let s2:=Zb6 2 (Zbc ops s).2 [(s.blks.length:Nat)+1,(s.blks.length:Nat)+2] 0 (Zbc ops s).1
 let s4:=Zgv ops (bpP [(s.blks.length:Nat)] s2)
 let s5:=Zb6 3 0 [] (Zac ops s4).2 (Zac ops s4).1
 Zgv ops (bpP [(s.blks.length:Nat)] (Zi8 s.known.length s5))
def Zzx (ops:List Int)(s:Us):Us:=
 let b:Int:=(s.blks.length:Nat)
 let s2:=Zb6 2 (Zbc ops s).2 [b+1,b+2] 0 (Zbc ops s).1
 let s4:=Zgv ops (bpP [b] s2)
 let s5:=Zb6 1 0 [(s4.blks.length:Nat)+2] 0 (Zi8 s.known.length s4)
 let s6:=Zgv ops (bpP [b] s5)
 let s7:=Zb6 1 0 [(s6.blks.length:Nat)+1] 0 (Zi8 s.known.length s6)
 Zgv ops (knP (21,0,0,0,[Zdz s4,Zdz s6],0,()) (bpP [(s4.blks.length:Nat),(s6.blks.length:Nat)] s7))
def Zpo (ops:List Int)(s:Us):Us:=
 let b:Int:=(s.blks.length:Nat)
 let f:=(Zbc ops s).2
 let s1:=bpP [b,b+2] (Zb6 1 0 [b+1] 0 (Zbc ops s).1)
 let p:Int:=(s1.vals.length:Nat)
 let s2:=Zbu (21,0,0,0,[f,0],0,()) s1
 let a:=Zbc ops s2
 let q:Int:=(a.1.vals.length:Nat)
 let s3:=Zbu (21,0,0,0,[a.2,p],0,()) a.1
 let s4:={ s3 with known:=s3.known++[p,q] }
 let s5:=Zbu (23,0,0,0,[],(Zac ops s4).2,()) (Zac ops s4).1
 let s6:=Zbu (2,0,0,1,[],0,()) s5
 let s7:=knP (4,p,(s5.vals.length:Nat),0,[],0,()) s6
 let s8:=Zb6 2 p [b+2,b+3] 0 s7
 let s9:=Zbl p.toNat [f,(s6.vals.length:Nat)] (Zgv ops (bpP [b+1] s8))
 let n:=Zat ops 3 s9
 let s10:=if n.2=0 then Zbl p.toNat [f,Zdz n.1] n.1 else n.1
 Zpb ops q.toNat a.2 s8.known.length (b+1) s10
end Go.Proofs.YtcgmchechmbmeaaDoor.base
end
section
set_option maxRecDepth 100000
namespace Go.Proofs.YtcgmchechmbmeaaDoor.base
open Go.Sh gen
variable {S:Zb4}{T T':Tg}{m0 m m1 m2:Mem}{is js:List Nat}{s s1:Us}{P:Pl}
set_option maxHeartbeats 8000000 in
theorem Zz8 (hN:Nq S)(h:UB m0 T m P s)(hb:Bd P.ops s)(hv:s.vals.length < 160)(hbl:s.blks.length≤20){K:List Fr}{rs:List ResultVar}{A:Value→Mem→Prop}{i:Nat} :
  (∀ m1 T1,UB m0 T1 m1 P (Zq1 P.ops s)→Bd P.ops (Zq1 P.ops s)→(Zq1 P.ops s).blks.length≤s.blks.length+3→(Zq1 P.ops s).vals.length≤300→W Tryd.prog TT S 86 [126,209,298] .skip K [(1,.pointer (some ⟨P.rb,0,none⟩)),(2,.pointer (some ⟨P.rc,0,none⟩)),(3,.pointer (some ⟨P.ub,0,none⟩)),(5,.pointer (some ⟨P.kb,0,none⟩)),(6,.pointer (some ⟨P.bb,0,none⟩)),(7,.pointer (some ⟨P.px,0,none⟩)),(10,.pointer (some ⟨P.nx,0,none⟩)),(11,.pointer (some ⟨P.sx,0,none⟩)),(12,.func (.func 22) #[] #[.pointer (some ⟨P.nx,0,none⟩),.pointer (some ⟨P.ub,0,none⟩),.pointer (some ⟨P.kb,0,none⟩),.pointer (some ⟨P.px,0,none⟩),.pointer (some ⟨P.sx,0,none⟩)]),(13,.func (.func 23) #[] #[.pointer (some ⟨P.bb,0,none⟩),.pointer (some ⟨P.ub,0,none⟩)]),(14,.int .i64 (i:Nat))] m1 (QF Tryd.prog rs A))→
  W Tryd.prog TT S 86 [126,209,298] (.seq (rgn TT 7 61) (.seq (rgn TT 7 62) (.seq (rgn TT 7 63) (.seq (rgn TT 7 64) (.seq (rgn TT 7 65) (.seq (rgn TT 7 66) (.seq (rgn TT 7 67) (.seq (rgn TT 7 68) (rgn TT 7 69))))))))) K [(1,.pointer (some ⟨P.rb,0,none⟩)),(2,.pointer (some ⟨P.rc,0,none⟩)),(3,.pointer (some ⟨P.ub,0,none⟩)),(5,.pointer (some ⟨P.kb,0,none⟩)),(6,.pointer (some ⟨P.bb,0,none⟩)),(7,.pointer (some ⟨P.px,0,none⟩)),(10,.pointer (some ⟨P.nx,0,none⟩)),(11,.pointer (some ⟨P.sx,0,none⟩)),(12,.func (.func 22) #[] #[.pointer (some ⟨P.nx,0,none⟩),.pointer (some ⟨P.ub,0,none⟩),.pointer (some ⟨P.kb,0,none⟩),.pointer (some ⟨P.px,0,none⟩),.pointer (some ⟨P.sx,0,none⟩)]),(13,.func (.func 23) #[] #[.pointer (some ⟨P.bb,0,none⟩),.pointer (some ⟨P.ub,0,none⟩)]),(14,.int .i64 (i:Nat))] m (QF Tryd.prog rs A):=by
 intro meth
 have g1:=hb.k1
 have g2:=hb.k2
 obtain⟨k,K0⟩:∃ k,s.known.length=k:=⟨_,rfl⟩
 obtain⟨b,L0⟩:∃ b,s.blks.length=b:=⟨_,rfl⟩
 obtain⟨m1,kv,x,c1,hx,hy,hz,B1,kt1,la,lb,lx,D1,K1,V1,L1⟩:=h.any hN hb (by omega)
 obtain⟨_,_,_,_,_,_,lN,_⟩:=h.ll
 obtain⟨_,_,_,_,_,_,lN1,_⟩:=B1.ll
 simp [-Int.natCast_add,-w7_62,Zde _ _ (Zox _ _),c1,hx,hz,la,lb,lx,lN]
 have w1:IntKind.i64.wrap ((b:Int)+1)=(b:Int)+1:=Zab (by omega) (by omega)
 have w2:IntKind.i64.wrap ((b:Int)+2)=(b:Int)+2:=Zab (by omega) (by omega)
 have ek:(Zbc P.ops s).1.known.length=k:=by rw [K1];exact K0
 have el:(Zbc P.ops s).1.blks.length=b:=by rw [L1];exact L0
 have ev:(Zbc P.ops s).1.vals.length < 160:=by rw [V1];exact hv
 obtain⟨E,hE⟩:∃ E,Zq1 P.ops s=E:=⟨_,rfl⟩
 rw [hE] at meth
 unfold Zq1 at hE
 dsimp only at hE
 rw [L0,K0] at hE
 generalize (Zbc P.ops s).1=s1 at *
 generalize (Zbc P.ops s).2=cv at *
 clear K1 V1 L1 lx
 obtain⟨m2,T2,c2,B2⟩:=B1.endn hN (by omega) 2 cv [(b:Int)+1,(b:Int)+2] 0
 obtain⟨_,ba1,_,_,lb1,_⟩:=B1.ll
 rw [el] at c2 lb1
 have c2:Zaq Tryd.prog TT S 23 [.agg #[.slice none 0 0,.int .i64 2,.int .i64 cv,.slice (some ⟨m1.next,0,none⟩) 2 2,.slice none 0 0,.int .i64 0],.pointer (some ⟨P.bb,0,none⟩),.pointer (some ⟨P.ub,0,none⟩)] (m1.new [.int .i64 ((b:Int)+1),.int .i64 ((b:Int)+2)] 3)=some (.int .i64 (b:Nat),m2):=c2
 simp [-Int.natCast_add,-w7_63,Zax Zy0,Za u22 bs3 rfl,lb1,w1,w2,c2]
 have D2:=D1.end 2 cv [(b:Int)+1,(b:Int)+2] 0
 have ek2:(Zb6 2 cv [(b:Int)+1,(b:Int)+2] 0 s1).known.length=k:=ek
 have ev2:(Zb6 2 cv [(b:Int)+1,(b:Int)+2] 0 s1).vals.length < 160:=ev
 have el2:(Zb6 2 cv [(b:Int)+1,(b:Int)+2] 0 s1).blks.length=b+1:=by simp [Zb6,el]
 generalize Zb6 2 cv [(b:Int)+1,(b:Int)+2] 0 s1=s2 at *
 obtain⟨ka2,_,_,lk2,_⟩:=B2.ll
 rw [ek2] at lk2
 obtain⟨m3,T3,e3,B3⟩:=B2.predn [(b:Int)]
 have e3:Zad (m2.new [.int .i64 (b:Int)] 3) ⟨P.bb,4,none⟩ [.slice (some ⟨m2.next,0,none⟩) 1 1]=some m3:=e3
 simp [-Int.natCast_add,-w7_64,lk2]
 simp [-Int.natCast_add,-w7_65,Za u22 bs3 rfl,e3]
 have D3:=D2.bp [(b:Int)]
 have ek3:(bpP [(b:Int)] s2).known.length=k:=ek2
 have ev3:(bpP [(b:Int)] s2).vals.length < 160:=ev2
 have el3:(bpP [(b:Int)] s2).blks.length=b+1:=el2
 generalize (bpP [(b:Int)] s2)=s3 at *
 obtain⟨v4,m4,T4,c4,B4,D4,V4,L4⟩:=B3.row hN D3 (by omega) (by omega)
 have ek4:=Zic D3
 rw [ek3] at ek4
 rw [L4.symm] at el3
 simp [-Int.natCast_add,-w7_66,c4]
 generalize Zgv P.ops s3=s4 at *
 obtain⟨m5,T5,c5,B5⟩:=B4.state hN D4 (by omega) (by omega)
 obtain⟨_,_,_,_,_,_,_,_,lS4⟩:=B4.ll
 obtain⟨_,f1,f2,_,f4,_,_⟩:=Zcy (d:=(0,0,0,0,[],0,())) D4
 have D6:=D4.stend 3 0 [] (Zac P.ops s4).2
 have ek6:k≤(Zb6 3 0 [] (Zac P.ops s4).2 (Zac P.ops s4).1).known.length:=by simp only [Zb6];rw [f2];exact ek4
 have ev6:(Zb6 3 0 [] (Zac P.ops s4).2 (Zac P.ops s4).1).vals.length≤200:=by simp only [Zb6];rw [f1];omega
 have el6:(Zb6 3 0 [] (Zac P.ops s4).2 (Zac P.ops s4).1).blks.length=b+2:=by simp only [Zb6,List.length_append,List.length_cons,List.length_nil];rw [f4];omega
 obtain⟨m6,T6,c6,B6⟩:=B5.end hN (by rw [f4];omega) 3 0 [] (Zac P.ops s4).2 Zdj
 have c6:Zaq Tryd.prog TT S 23 [.agg #[.slice none 0 0,.int .i64 3,.int .i64 0,.slice none 0 0,.slice none 0 0,.int .i64 (Zac P.ops s4).2],.pointer (some ⟨P.bb,0,none⟩),.pointer (some ⟨P.ub,0,none⟩)] m5=some (.int .i64 ((Zac P.ops s4).1.blks.length:Nat),m6):=c6
 simp [-Int.natCast_add,-w7_67,Zax Zy0,lS4,c5,c6]
 generalize Zb6 3 0 [] (Zac P.ops s4).2 (Zac P.ops s4).1=s6 at *
 obtain⟨kv7,l7,m7,e7,B7⟩:=B6.cut ek6 (by omega)
 have B7:UB m0 T6 m7 P (Zi8 k s6):=B7
 have q6:=D6.k2
 have hk6:(k:Int)≤s6.known.length:=by omega
 have hk7:(k:Int)≤9223372036854775807:=by omega
 simp [-Int.natCast_add,-w7_68,Zcc u22 sz3,l7,ek6,hk7,e7]
 have D7:=D6.cut (k:=k) (by omega)
 have ev7:(Zi8 k s6).vals.length≤200:=ev6
 have el7:(Zi8 k s6).blks.length=b+2:=el6
 generalize (Zi8 k s6)=s7 at *
 obtain⟨m8,T8,e8,B8⟩:=B7.predn [(b:Int)]
 have e8:Zad (m7.new [.int .i64 (b:Int)] 3) ⟨P.bb,4,none⟩ [.slice (some ⟨m7.next,0,none⟩) 1 1]=some m8:=e8
 simp [-Int.natCast_add,-w7_69,Za u22 bs3 rfl,e8]
 have D8:=D7.bp [(b:Int)]
 have ev8:(bpP [(b:Int)] s7).vals.length≤200:=ev7
 have el8:(bpP [(b:Int)] s7).blks.length=b+2:=el7
 generalize (bpP [(b:Int)] s7)=s8 at *
 obtain⟨v9,m9,T9,c9,B9,D9,V9,L9⟩:=B8.row hN D8 (by omega) (by omega)
 simp [-Int.natCast_add,c9]
 rw [hE] at B9 D9 V9 L9
 exact Zuf.1 (Zbz (E:=[(1,.pointer (some ⟨P.rb,0,none⟩)),(2,.pointer (some ⟨P.rc,0,none⟩)),(3,.pointer (some ⟨P.ub,0,none⟩)),(5,.pointer (some ⟨P.kb,0,none⟩)),(6,.pointer (some ⟨P.bb,0,none⟩)),(7,.pointer (some ⟨P.px,0,none⟩)),(10,.pointer (some ⟨P.nx,0,none⟩)),(11,.pointer (some ⟨P.sx,0,none⟩)),(12,.func (.func 22) #[] #[.pointer (some ⟨P.nx,0,none⟩),.pointer (some ⟨P.ub,0,none⟩),.pointer (some ⟨P.kb,0,none⟩),.pointer (some ⟨P.px,0,none⟩),.pointer (some ⟨P.sx,0,none⟩)]),(13,.func (.func 23) #[] #[.pointer (some ⟨P.bb,0,none⟩),.pointer (some ⟨P.ub,0,none⟩)]),(14,.int .i64 (i:Nat))]) (meth m9 T9 B9 D9 (by rw [L9];omega) (by omega)) (by repeat' constructor))
end Go.Proofs.YtcgmchechmbmeaaDoor.base
end
