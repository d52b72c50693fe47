/- This text proves what turnstoneref10.Same and turnstonelaw16.same answer at equal exits, and what Run answers where Check refuses, Zbr the abstract run. Condition: nothing is known of the calls ahead ('S f = []'). -/
import Derived.Test.YtlogdohlcdhepaaDoorM21
import Derived.Test.YtlogdohlcdhepaaDoorM20
set_option linter.unusedVariables false
set_option linter.unusedSimpArgs false
section
set_option maxRecDepth 100000
namespace Go.Proofs.YtlogdohlcdhepaaDoor.base
open Go.Sh gen
variable {S:Zb2}{m:Mem}
theorem Znw (hS:S 63=[]){ao bo:Option Addr}{a b:List Int}{af bf ae be:Nat}(ha:Rs m ao a.length (words a) ae 1 af)(hb:Rs m bo b.length (words b) be 1 bf)(hal:a.length≤4611686018427387904)(hbl:b.length≤4611686018427387904) :
  ∃ q:Bool,Zag Tryd.prog TT S 63 [.slice ao a.length a.length,.slice bo b.length b.length] m=some (.bool q,m)∧(q=true↔a=b):=by
 suffices h:∃ v m1,Zag Tryd.prog TT S 63 [.slice ao a.length a.length,.slice bo b.length b.length] m=some (v,m1)∧∃ q:Bool,v=.bool q∧(q=true↔a=b)∧m1=m by
  obtain⟨_,_,h,q,rfl,hq,rfl⟩:=h
  exact⟨q,h,hq⟩
 refine Zfi 6 [10,14,25] k63 hS rfl ?_
 by_cases hll:a.length=b.length
 ·simp [-Int.natCast_add,hll]
  rw [hll] at ha
  refine Zai 6 [10,14,25] (fun d E m2=>∃ i:Nat,b.length - i=d∧i≤b.length∧a.take i=b.take i∧m2=m∧E=[(0,.slice ao b.length b.length),(1,.slice bo b.length b.length),(5,.int .i64 i)]) _ ⟨_,⟨0,rfl,by omega,by simp,rfl,rfl⟩,⟨by rfl,by rfl,by rfl,trivial⟩⟩ ?_
  rintro d E m2 ih ⟨i,hd,hi,heq,rfl,rfl⟩
  by_cases hlt:i < b.length
  ·have em:(i:Int)≤9223372036854775807:=by omega
   have hlt':(i:Int) < b.length:=by omega
   have wi:IntKind.i64.wrap ((i:Int)+1)=((i+1:Nat):Int):=by rw [Zab (by omega) (by omega)];omega
   have hla:i < a.length:=by omega
   obtain⟨ab,rfl,oa⟩:=ha.rdo (by omega)
   obtain⟨bb,rfl,ob⟩:=hb.rdo (by omega)
   have la:loadRow m2 ⟨ab,i,none⟩ 1=some [.int .u64 a[i]]:=oa.load1 (by simp [words,hla])
   have lb:loadRow m2 ⟨bb,i,none⟩ 1=some [.int .u64 b[i]]:=ob.load1 (by simp [words,hlt])
   have ta:a.take (i+1)=a.take i++[a[i]]:=List.take_succ_eq_append_getElem hla
   have tb:b.take (i+1)=b.take i++[b[i]]:=List.take_succ_eq_append_getElem hlt
   have hne:=Zxs hla hlt
   generalize a[i]=x at *
   generalize b[i]=y at *
   by_cases c:x=y
   ·subst c
    simp [-Int.natCast_add,hlt,hlt',em,la,lb,wi]
    exact ih _ _ _ _ ⟨i+1,rfl,by omega,by rw [ta,tb,heq],rfl,rfl⟩ (by omega) ⟨by rfl,by rfl,by rfl,trivial⟩
   ·simp [-Int.natCast_add,hlt,hlt',em,la,lb,c]
    exact hne c
  ·have hlt':¬ (i:Int) < b.length:=by omega
   have e1:a=b:=by
    have h1:a.take i=a:=List.take_of_length_le (by omega)
    have h2:b.take i=b:=List.take_of_length_le (by omega)
    rw [← h1,heq,h2]
   simp [-Int.natCast_add,hlt']
   exact e1
 ·have hll':¬ (a.length:Int)=(b.length:Int):=by omega
  simp [-Int.natCast_add,hll']
  exact fun e=>hll (by rw [e])
set_option maxHeartbeats 4000000 in
theorem Zu4 (hS:S 45=[])(hW:S 63=[]){Q R:Nat→Prop}{fs:List Z3.D}{fo go:Option Addr}(h:AtQ Q m (Ty.slice 44 (Ty.pair (Ty.int .i64) (Ty.pair (Ty.int .i64) (Ty.pair (Ty.slice 45 (Ty.int .u64)) (Ty.pair (Ty.slice 45 (Ty.int .u64)) Ty.unit))))) fs [.slice fo fs.length fs.length])(g:AtQ R m (Ty.slice 44 (Ty.pair (Ty.int .i64) (Ty.pair (Ty.int .i64) (Ty.pair (Ty.slice 45 (Ty.int .u64)) (Ty.pair (Ty.slice 45 (Ty.int .u64)) Ty.unit))))) fs [.slice go fs.length fs.length])
  (hl:fs.length≤1000000) (hf:∀ f∈fs,List.length f.2.2.1≤1000000∧List.length f.2.2.2.1≤1000000) :
  Zag Tryd.prog TT S 45 [.slice fo fs.length fs.length,.slice go fs.length fs.length] m=some (.bool true,m):=by
 refine Zb3 6 [10,14,68] k45 hS rfl ?_
 simp [-Int.natCast_add]
 refine Zai 6 [10,14,68] (fun d E m2=>∃ i:Nat,fs.length - i=d∧i≤fs.length∧m2=m∧E=[(0,.slice fo fs.length fs.length),(1,.slice go fs.length fs.length),(5,.int .i64 (i:Nat))]) _ ⟨_,⟨0,rfl,by omega,rfl,rfl⟩,⟨by rfl,by rfl,by rfl,trivial⟩⟩ ?_
 rintro d E m2 ih ⟨i,hd,hi,rfl,rfl⟩
 by_cases hlt:i < fs.length
 ·have hlt':(i:Int) < fs.length:=by omega
  have em:(i:Int)≤9223372036854775807:=by omega
  have wi:IntKind.i64.wrap ((i:Int)+1)=((i+1:Nat):Int):=by rw [Zab (by omega) (by omega)];omega
  obtain⟨b,lo,so,f1,f2,rfl,l1,r1,r2⟩:=Zro h hlt
  obtain⟨c,lo',so',f1',f2',rfl,l1',r1',r2'⟩:=Zro g hlt
  obtain⟨z1,z2⟩:=hf _ (List.getElem_mem hlt)
  obtain⟨p,hp,hp'⟩:=Znw hW r1 r1' (by omega) (by omega)
  obtain⟨q,hq,hq'⟩:=Znw hW r2 r2' (by omega) (by omega)
  have ep:p=true:=hp'.2 rfl
  have eq:q=true:=hq'.2 rfl
  subst ep eq
  have a0:=Zb8 (k:=0) l1 rfl
  have a1:=Zb8 (k:=1) l1 rfl
  have a2:=Zb8 (k:=2) l1 rfl
  have a3:=Zb8 (k:=3) l1 rfl
  have b0:=Zb8 (k:=0) l1' rfl
  have b1:=Zb8 (k:=1) l1' rfl
  have b2:=Zb8 (k:=2) l1' rfl
  have b3:=Zb8 (k:=3) l1' rfl
  simp only [Nat.add_zero] at a0 b0
  simp [-Int.natCast_add,hlt,hlt',em,a0,a1,a2,a3,b0,b1,b2,b3,hp,hq,wi]
  exact ih _ _ _ _ ⟨i+1,rfl,by omega,rfl,rfl⟩ (by omega) ⟨by rfl,by rfl,by rfl,trivial⟩
 ·have hlt':¬ (i:Int) < fs.length:=by omega
  simp [-Int.natCast_add,hlt']
set_option maxHeartbeats 4000000 in
theorem Z11 (hS:S 18=[]){c st val n:Int}{a b:Option Addr}{k:Nat}(hF:∀ m2,Zaa m m2 []→Zag Tryd.prog TT S 45 [.slice a k k,.slice b k k] m2=some (.bool true,m2)) :
  ∃ v m1,Zag Tryd.prog TT S 18 [.agg #[.int .i64 c,.int .i64 st,.int .i64 val,.slice a k k,.int .i64 n],.agg #[.int .i64 c,.int .i64 st,.int .i64 val,.slice b k k,.int .i64 n]] m=some (v,m1)∧v=.bool true∧Zaa m m1 []:=by
 obtain⟨o1,k1,n1⟩:=Zat (m:=m) (cs:=[.int .i64 c,.int .i64 st,.int .i64 val,.slice a k k,.int .i64 n]) (e:=28) rfl
 refine Zfi 5 [] k18 hS rfl ?_
 simp [-Int.natCast_add,-w18_1,Zcu b28]
 obtain⟨m1,hm1⟩:∃ mm,m.new [.int .i64 c,.int .i64 st,.int .i64 val,.slice a k k,.int .i64 n] 28=mm:=⟨_,rfl⟩
 obtain⟨b1,hb1⟩:∃ b,m.next=b:=⟨_,rfl⟩
 rw [hm1,hb1] at o1 n1
 rw [hm1] at k1
 simp only [hm1,hb1]
 obtain⟨o2,k2,n2⟩:=Zat (m:=m1) (cs:=[.int .i64 c,.int .i64 st,.int .i64 val,.slice b k k,.int .i64 n]) (e:=28) rfl
 generalize m1.new _ _=m2 at *
 generalize m1.next=b2 at *
 have o1:=o1.keep k2 (by simp)
 have x0:=o1.load1 (off:=0) rfl
 have x1:=o1.load1 (off:=1) rfl
 have x2:=o1.load1 (off:=2) rfl
 have x3:=o1.load1 (off:=3) rfl
 have x4:=o1.load1 (off:=4) rfl
 have y0:=o2.load1 (off:=0) rfl
 have y1:=o2.load1 (off:=1) rfl
 have y2:=o2.load1 (off:=2) rfl
 have y3:=o2.load1 (off:=3) rfl
 have y4:=o2.load1 (off:=4) rfl
 have hc:=hF m2 (k1.trans k2)
 simp [-Int.natCast_add,x0,x1,x2,x3,x4,y0,y1,y2,y3,y4,hc]
 exact k1.trans k2
end Go.Proofs.YtlogdohlcdhepaaDoor.base
end
section
set_option maxRecDepth 100000
namespace Go.Proofs.YtlogdohlcdhepaaDoor.base
open Go.Sh gen
variable {S:Zb2}{m:Mem}{u:UnT.D}{fuel:Int}
theorem Sz.size {s:Us}(h:Sz s)(hv:s.vals.length≤300):Ztn s.un:=by
 refine⟨fun b hb=>?_,fun t ht=>?_,fun x hx=>?_⟩
 ·have:=h.b b hb
  omega
 ·have:=h.t t ht
  exact⟨by omega,fun f hf=>by have:=this.2 f hf;omega⟩
 ·have:=(h.v x hx).1
  have e:List.length x.2.2.2.2.1=(Ze3 x).length:=rfl
  omega
theorem Sz.rng {s:Us}(h:Sz s):∀ x∈s.un.2.2.1,-9223372036854775808≤(show Int from x.2.2.2.1)∧(show Int from x.2.2.2.1)≤9223372036854775807:=fun x hx=>by
 have:=(h.v x hx).2
 omega
theorem Z9l {s:Us}(h:Sz s)(h1:1≤s.vals.length)(hv:s.vals.length≤300){O I:List Int}(hc:Zjm s.un O I=true):UOk s.un:=by
 unfold Zjm at hc
 cases hp:Znf s.un with
 | none=>rw [hp] at hc;cases hc
 | some t =>
  obtain⟨a1,a2,a3,a4,a5,a6⟩:=Zyv hp
  exact Z89 (h.size hv) a1 a2 a3 a4 a5 a6 (by show 0 < s.vals.length;omega) h.rng
def Ro.hb (b:Nat):Ro→Ro
 | .go V=>.go { V with hwb:=b }
 | .tired V=>.tired { V with hwb:=b }
 | .left V st val=>.left { V with hwb:=b } st val
theorem Zo0 (b:Nat):∀ (l:List Int) (V:Vv),Zcq u fuel l { V with hwb:=b }=(Zcq u fuel l V).hb b
 | [],V=>by rw [Zcq,Zcq];rfl
 | v::r,V=>by
  rw [Zcq,Zcq]
  dsimp only
  split
  ·exact Zo0 b r V
  split
  ·rfl
  split
  ·rfl
  ·exact Zo0 b r { V with steps:=V.steps+1,wish:=Zcl (Za1 u v) V.wish,hw:=Zlb (Za1 u v) V.hw V.ws,ws:=Zm4 (Za1 u v) v.toNat V.hw V.ws }
theorem Zw0 (b:Nat):∀ (k a:Nat) (V:Vv),Zib u fuel k a { V with hwb:=b }=(Zib u fuel k a V).hb b
 | 0,a,V=>by rw [Zib,Zib];rfl
 | k+1,a,V=>by
  rw [Zib,Zib]
  dsimp only
  rw [Zo0]
  cases Zcq u fuel (Zbt u a).1 V with
  | go A =>
   rw [show (Ro.go A).hb b=Ro.go { A with hwb:=b } from rfl]
   dsimp only
   split
   ·rfl
   split
   ·rfl
   ·rw [← Zw0 b k]
  | tired A=>rfl
  | left A st val=>rfl
def HwL (n:Nat):Ro→Prop
 | .go V=>V.hw.length=n
 | .tired V=>V.hw.length=n
 | .left V _ _=>V.hw.length=n
theorem Zz1 (x:Zbj.D)(hw ws:List Int):(Zlb x hw ws).length=hw.length:=by
 unfold Zlb Zk5 Zn2
 repeat' split
 all_goals simp
theorem Zmk:∀ (l:List Int) (V:Vv),HwL V.hw.length (Zcq u fuel l V)
 | [],V=>by rw [Zcq];rfl
 | v::r,V=>by
  rw [Zcq]
  dsimp only
  split
  ·exact Zmk r V
  split
  ·rfl
  split
  ·rfl
  ·have:=Zmk r { V with steps:=V.steps+1,wish:=Zcl (Za1 u v) V.wish,hw:=Zlb (Za1 u v) V.hw V.ws,ws:=Zm4 (Za1 u v) v.toNat V.hw V.ws }
   dsimp only at this
   rw [Zz1] at this
   exact this
theorem Zuo:∀ (k a:Nat) (V:Vv),HwL V.hw.length (Zib u fuel k a V)
 | 0,a,V=>by rw [Zib];rfl
 | k+1,a,V=>by
  have h:=Zmk (u:=u) (fuel:=fuel) (Zbt u a).1 V
  rw [Zib]
  dsimp only
  cases e:Zcq u fuel (Zbt u a).1 V with
  | go A =>
   rw [e] at h
   have h:A.hw.length=V.hw.length:=h
   dsimp only
   split
   ·exact h
   split
   ·exact h
   ·rw [← h]
    exact Zuo k _ { A with ws:=_,steps:=_ }
  | tired A=>rw [e] at h;exact h
  | left A st val=>rw [e] at h;exact h
theorem Z3e (hN:Nz S):Nu S:=by
 refine⟨⟨⟨?_,?_,?_,?_,?_⟩,?_,?_,?_,?_,?_,?_,?_,?_⟩,?_,?_,?_,?_,?_,?_,?_⟩
 all_goals exact hN.e _ (by decide) (by decide)
theorem Zqy {zs vs:List Value}{e:TypeId}(hl:zs.length=vs.length)(h1:vs.all one=true):∃ m1 f,Zaf (m.new zs e) ⟨m.next,0,none⟩ vs=some m1∧Own m1 m.next vs e f∧Zaa m m1 []∧m.next≤f:=by
 obtain⟨o,k,n⟩:=Zat (m:=m) (cs:=zs) (e:=e) rfl
 obtain⟨m1,h2,o1,k2⟩:=Zaj (r:=_) rfl o (off:=0) (by omega) h1
 have ev:Zbr zs 0 vs=vs:=by simp [Zbr,← hl]
 rw [ev] at o1
 exact⟨m1,_,h2,o1,k.fresh k2 (by simp),Nat.le_refl _⟩
end Go.Proofs.YtlogdohlcdhepaaDoor.base
end
section
set_option maxRecDepth 100000
namespace Go.Proofs.YtlogdohlcdhepaaDoor.base
open Go.Sh gen
variable {S:Zb2}
theorem Zvm (hN:Nk S)(ops sh:List Int)(n:Int)(h0:1≤(Zcx ops sh n).vals.length)(hv:(Zcx ops sh n).vals.length≤300)(hb:(Zcx ops sh n).blks.length≤20)(hs:(Zcx ops sh n).sts.length≤330) :
  UOk (Zcx ops sh n).un∧(∀ i < nb (Zcx ops sh n).un,(vlD (Zcx ops sh n).un i).countP (fun v=>Zaq (Za1 (Zcx ops sh n).un v).1)≤4)∧∀ (m:Mem) {Q:Nat→Prop} {vo bo so:Option Addr},UAt Q m (Zcx ops sh n).un vo bo so→(∀ f,Q f→f < m.next)→
   ∃ m1,Zag Tryd.prog TT S 22 [.agg (Zbw (Zcx ops sh n).un vo bo so).toArray] m=some (.bool true,m1)∧Zaa m m1 []:=by
 have hsz:=Zux ops sh n
 obtain⟨B,D,hU,hh⟩:=Znq ops sh n hv hb hs
 generalize Zcx ops sh n=s at *
 obtain⟨O,I,hT,hO,hI⟩:=Z9a (Zl1 hU.ends) hU.pos
 have hc:=hU.right hT hO hI
 refine⟨Z9l hsz h0 hv hc,hh,fun m Q vo bo so hA hQ=>?_⟩
 obtain⟨_,m1,c1,rfl,k1⟩:=Zx8 hN hA hQ (hsz.size hv) (show s.vals.length≤_ by omega) (show s.blks.length≤_ by omega) (show s.sts.length≤_ by omega) (fun _ _=>hT)
 rw [hc] at c1
 exact⟨m1,c1,k1⟩
def stR:Ro→Int
 | .go V=>V.steps
 | .tired V=>V.steps
 | .left V _ _=>V.steps
variable {u:UnT.D}{f f':Int}
theorem Zli:∀ (l:List Int) (V:Vv),V.steps≤stR (Zcq u f l V)
 | [],V=>by rw [Zcq];exact Int.le_refl _
 | v::r,V=>by
  rw [Zcq]
  dsimp only
  split
  ·exact Zli r V
  split
  ·exact Int.le_refl _
  split
  ·show V.steps≤V.steps+1
   omega
  ·have:=Zli r { V with steps:=V.steps+1,wish:=Zcl (Za1 u v) V.wish,hw:=Zlb (Za1 u v) V.hw V.ws,ws:=Zm4 (Za1 u v) v.toNat V.hw V.ws }
   refine Int.le_trans ?_ this
   dsimp only
   omega
theorem Zlq {V:Vv}(hf:f≤V.steps):∀ (l:List Int),Zcq u f l V=.go V∨Zcq u f l V=.tired V
 | []=>Or.inl (by rw [Zcq])
 | v::r=>by
  rw [Zcq]
  dsimp only
  split
  ·exact Zlq hf r
  ·exact Or.inr rfl
end Go.Proofs.YtlogdohlcdhepaaDoor.base
end
section
set_option maxRecDepth 100000
namespace Go.Proofs.YtlogdohlcdhepaaDoor.base
open Go.Sh gen
variable {S:Zb2}{m:Mem}
theorem Zud {cells:List Value}{off:Nat}{v:Value}(h:off < cells.length):Zbr cells off [v]=cells.set off v:=by
 simp [Zbr,List.set_eq_take_append_cons_drop,h]
theorem Zw7 {e:TypeId}{lo:Option Addr}{k lf yb yf off:Nat}{l:List Int}{w:Int}{cells:List Value}(sL:Sl m lo k (words l) 45 1 lf)(hk:k≤1000000)(oY:Own m yb cells e yf)(hoff:off < cells.length)(hny:lo≠none→lf≠yf){r:Option (Value × Mem)}
  (hr:Zan Tryd.prog 42 (m.new [.int .u64 w] 45) (.slice lo k k) [.int .u64 w] 1=r) :
  ∃ m1 b m2 lf',r=some (.slice (some ⟨b,0,none⟩) (k+1) (k+1),m1)∧Own m1 yb cells e yf∧Zaf m1 ⟨yb,off,none⟩ [.slice (some ⟨b,0,none⟩) (k+1) (k+1)]=some m2∧Own m2 yb (cells.set off (.slice (some ⟨b,0,none⟩) (k+1) (k+1))) e yf∧
   Sl m2 (some ⟨b,0,none⟩) (k+1) (words (l++[w])) 45 1 lf'∧((lo≠none∧lf'=lf)∨m.next≤lf')∧lf' < m2.next∧lf'≠yf∧Zaa m m1 (if lo=none then [] else [lf])∧Zaa m1 m2 [yf]:=by
 obtain⟨m1,b,lf',rfl,o1,k1,c1,c2,c3⟩:=Zg6 hr u42 Zww sL (by omega) (by simp) (by simp [Zam]) (by omega) (by omega)
 have hyf:=oY.flt
 have oY1:=oY.keep k1 (by
  split
  ·simp
  ·rename_i hn;have:=hny hn;simp;omega)
 obtain⟨m2,e2,o2,k2⟩:=Zaj (r:=_) rfl oY1 (off:=off) (vs:=[.slice (some ⟨b,0,none⟩) (k+1) (k+1)]) (by simp;omega) (by simp [Zad])
 rw [Zud hoff] at o2
 have hne:lf'≠yf:=by
  rcases c1 with⟨hn,e1⟩ | c1
  ·rw [e1];exact hny hn
  ·omega
 refine⟨m1,b,m2,lf',rfl,oY1,e2,o2,Sl.of (by simpa [words] using o1.keep k2 (by simp;exact hne)) (by have:=sL.1;simp [words] at this ⊢;omega),c1,by have:=k2.1;omega,hne,k1,k2⟩
theorem Ziu {m:Mem}(fs:List Nat):Zaa m m fs:=(Zca m).mono (by simp)
set_option maxHeartbeats 16000000 in
theorem Zyx (hS:S 43=[]){Q:Nat→Prop}{u:UnT.D}{vo bo so:Option Addr}(hU:UAt Q m u vo bo so)(hQ:∀ f,Q f→f < m.next)(hnu:nv u≤1000000)(hns:ns u≤1000000){wb wf:Nat}{ws:List Int}(hW:Own m wb (words ws) 45 wf)(hwl:ws.length=nv u){st:Nat}(hst:st < ns u)(val n:Int)
  {fs:List Zmw.D} (hfs:(u.2.2.2.2.1[st]).1=fs) (hfl:fs.length≤1000000) (hf:∀ f∈fs,f.2.2.1.length≤1000000∧f.2.2.2.1.length≤1000000∧(∀ v∈(show List Int from f.2.2.1),(0:Int)≤v∧v < (nv u:Int))∧(∀ v∈(show List Int from f.2.2.2.1),(0:Int)≤v∧v < (nv u:Int))) :
  ∃ v m1,Zag Tryd.prog TT S 43 [.agg (Zbw u vo bo so).toArray,.slice (some ⟨wb,0,none⟩) (nv u) (nv u),.int .i64 (st:Int),.int .i64 val,.int .i64 n] m=some (v,m1)∧
   (∃ fo,v=.agg #[.int .i64 1,.int .i64 (st:Int),.int .i64 val,.slice fo fs.length fs.length,.int .i64 n]∧AtQ (fun f=>m.next≤f) m1 (Ty.slice 44 (Ty.pair (Ty.int .i64) (Ty.pair (Ty.int .i64) (Ty.pair (Ty.slice 45 (Ty.int .u64)) (Ty.pair (Ty.slice 45 (Ty.int .u64)) Ty.unit))))) (fs.map (frW ws)) [.slice fo fs.length fs.length])∧Zaa m m1 []:=by
 obtain⟨sb,fo,hso,lds,hfo⟩:=Zlk hU hst
 rw [hfs] at lds hfo
 subst hso
 have s1:(st:Int) < ns u:=by omega
 have s2:(st:Int)≤9223372036854775807:=by omega
 obtain⟨oP,kP,nP⟩:=Zat (m:=m) (cs:=Zbw u vo bo (some ⟨sb,0,none⟩)) (e:=34) rfl
 obtain⟨pb,hpb⟩:∃ pb,m.next=pb:=⟨_,rfl⟩
 obtain⟨mA,hmA⟩:∃ mA,m.new (Zbw u vo bo (some ⟨sb,0,none⟩)) 34=mA:=⟨_,rfl⟩
 rw [hmA,hpb] at oP nP
 rw [hmA] at kP
 obtain⟨oR,kR,nR⟩:=Zat (m:=mA) (cs:=[.int .i64 0,.int .i64 0,.int .i64 0,.slice none 0 0,.int .i64 0]) (e:=28) rfl
 obtain⟨rb,hrb⟩:∃ rb,mA.next=rb:=⟨_,rfl⟩
 obtain⟨mB,hmB⟩:∃ mB,mA.new [.int .i64 0,.int .i64 0,.int .i64 0,.slice none 0 0,.int .i64 0] 28=mB:=⟨_,rfl⟩
 rw [hmB,hrb] at oR nR
 rw [hmB] at kR
 obtain⟨m4,fX,e4,oX,kX,nX⟩:=Zqy (m:=mB) (zs:=[.int .i64 0,.int .i64 0,.int .i64 0,.slice none 0 0,.int .i64 0]) (vs:=[.int .i64 1,.int .i64 (st:Int),.int .i64 val,.slice none 0 0,.int .i64 n]) (e:=28) rfl (by simp [Zam,Zad])
 obtain⟨yb,hyb⟩:∃ yb,mB.next=yb:=⟨_,rfl⟩
 rw [hyb] at e4 oX nX
 have kB:Zaa m mB []:=kP.trans kR
 have k4:Zaa m m4 []:=kB.trans kX
 have oP4:=(oP.keep kR (by simp)).keep kX (by simp)
 have oR4:=oR.keep kX (by simp)
 have b1:=oP.flt
 have b2:=oR.flt
 have b3:=oX.flt
 have b4:=kX.1
 refine Zfi 17 [29,50,70] k43 hS rfl ?_
 simp [-Int.natCast_add,Zcu b34,Zau Z7n,hpb,hmA,hrb,hmB,hyb,e4]
 have W4:=hW.keep k4 (by simp)
 have hU4:=hU.keep k4 (by simp)
 have hfo4:=hfo.keep k4 (by simp)
 have hwf:=hW.flt
 have hfX:yb≤fX∧fX < m4.next:=by have:=oX.flt;omega
 refine Zai 17 [29,50,70] (fun d E mF=>∃ (i:Nat) (lo:Option Addr) (lf:Nat) (css:List (List Value)),fs.length - i=d∧i≤fs.length∧Own mF yb [.int .i64 1,.int .i64 (st:Int),.int .i64 val,.slice lo i i,.int .i64 n] 28 fX∧css.length=i∧
  (∀ (k:Nat) d c,((fs.map (frW ws)).take i)[k]?=some d→css[k]?=some c→AtQ (fun f=>yb≤f∧f≠lf∧f≠fX∧f < mF.next) mF Z3 d c)∧Sl mF lo i css.flatten 44 4 lf∧(lo≠none→yb≤lf∧lf < mF.next∧lf≠fX)∧Zaa mB mF []∧m4.next≤mF.next∧
  E=[(1,.slice (some ⟨wb,0,none⟩) (nv u) (nv u)),(2,.int .i64 (st:Int)),(5,.pointer (some ⟨pb,0,none⟩)),(10,.pointer (some ⟨rb,0,none⟩)),(11,.pointer (some ⟨yb,0,none⟩)),(12,.int .i64 (i:Int))]) _ ⟨_,⟨0,none,0,[],rfl,by omega,oX,rfl,fun k d c hk=>by simp at hk,Sl.nil _ _ _ _,fun q=>absurd rfl q,kX,Nat.le_refl _,rfl⟩,(by repeat' constructor)⟩ ?_
 rintro d E mF ih ⟨i,lo,lf,css,hd,hi,oYF,hcl,hcs,sL,hlf,kF,n4F,rfl⟩
 have im:(i:Int)≤9223372036854775807:=by omega
 have ybF:=oYF.flt
 have KF:Zaa m mF []:=kB.trans kF
 have oPF:=(oP.keep kR (by simp)).keep kF (by simp)
 have p4:=oPF.load1 (off:=4) rfl
 have ldF:=lds mF [] KF (by simp)
 by_cases hlt:i < fs.length
 ·have i1:(i:Int) < fs.length:=by omega
  have wi:IntKind.i64.wrap ((i:Int)+1)=((i+1:Nat):Int):=by rw [Zab (by omega) (by omega)];omega
  obtain⟨fb,la,sa,hfb,ldf,hla,hsa⟩:=Zlo (hfo.keep KF (by simp)) hlt
  obtain⟨f1,f2,f3,f4⟩:=hf _ (List.getElem_mem hlt)
  have etk:(fs.map (frW ws)).take (i+1)=(fs.map (frW ws)).take i++[frW ws fs[i]]:=by rw [List.take_succ_eq_append_getElem (by simpa using hlt)];simp
  subst hfb
  generalize fs[i]=F at *
  obtain⟨l1,hl1⟩:∃ l1:List Int,(show List Int from F.2.2.1)=l1:=⟨_,rfl⟩
  obtain⟨l2,hl2⟩:∃ l2:List Int,(show List Int from F.2.2.2.1)=l2:=⟨_,rfl⟩
  have g1':List.length F.2.2.1=l1.length:=congrArg List.length hl1
  have g2':List.length F.2.2.2.1=l2.length:=congrArg List.length hl2
  have hla:Za2 Q mF la l1:=by rw [← hl1];exact hla
  have hsa:Za2 Q mF sa l2:=by rw [← hl2];exact hsa
  rw [hl1] at f3
  rw [hl2] at f4
  unfold frC at ldf
  rw [g1',g2'] at ldf
  rw [g1'] at f1
  rw [g2'] at f2
  obtain⟨mG,fZ,eG,oZ,kG,nZ⟩:=Zqy (m:=mF) (zs:=[.int .i64 0,.int .i64 0,.slice none 0 0,.slice none 0 0]) (vs:=[.int .i64 F.1,.int .i64 F.2.1,.slice la l1.length l1.length,.slice sa l2.length l2.length]) (e:=64) rfl (by simp [Zam,Zad])
  obtain⟨zb,hzb⟩:∃ zb,mF.next=zb:=⟨_,rfl⟩
  rw [hzb] at oZ eG nZ
  have z0:=oZ.load1 (off:=0) rfl
  have z1:=oZ.load1 (off:=1) rfl
  obtain⟨mH,fY,eH,oY,kH,nY⟩:=Zqy (m:=mG) (zs:=[.int .i64 0,.int .i64 0,.slice none 0 0,.slice none 0 0]) (vs:=[.int .i64 F.1,.int .i64 F.2.1,.slice none 0 0,.slice none 0 0]) (e:=44) rfl (by simp [Zam,Zad])
  obtain⟨xb,hxb⟩:∃ xb,mG.next=xb:=⟨_,rfl⟩
  rw [hxb] at oY eH nY
  have kFH:=kG.trans kH
  have zf:=oZ.flt
  have yf:=oY.flt
  have hG1:=kG.1
  have hH1:=kH.1
  simp [-Int.natCast_add,-List.getD_eq_getElem?_getD,Zau Ybm,p4,s2,hst,ldF,i1,im,hlt,ldf,hzb,eG,z0,z1,hxb,eH]
  have KH:Zaa m mH []:=KF.trans kFH
  refine Zai 17 [29,50,70] (fun d2 E mI=>∃ (k:Nat) (r5:Option Addr) (w5:Nat),l1.length - k=d2∧k≤l1.length∧Own mI xb [.int .i64 F.1,.int .i64 F.2.1,.slice r5 k k,.slice none 0 0] 44 fY∧Sl mI r5 k (words (Zlj ws (l1.take k))) 45 1 w5∧(r5≠none→mH.next≤w5∧w5 < mI.next)∧Zaa mH mI [fY]∧
   E=[(1,.slice (some ⟨wb,0,none⟩) (nv u) (nv u)),(2,.int .i64 (st:Int)),(5,.pointer (some ⟨pb,0,none⟩)),(10,.pointer (some ⟨rb,0,none⟩)),(11,.pointer (some ⟨yb,0,none⟩)),(12,.int .i64 (i:Int)),(13,.pointer (some ⟨zb,0,none⟩)),(14,.pointer (some ⟨xb,0,none⟩)),(15,.int .i64 (k:Int))]) _ ⟨_,⟨0,none,0,rfl,by omega,oY,Sl.nil _ _ _ _,fun q=>absurd rfl q,Ziu _,rfl⟩,(by repeat' constructor)⟩ ?_
  rintro d2 E mI ih2 ⟨k,r5,w5,hd2,hk,oYI,sR,hw5,kI,rfl⟩
  have km:(k:Int)≤9223372036854775807:=by omega
  have kmI:Zaa m mI [fY]:=(KH.nil (fs:=[fY])).trans kI
  have oZI:=(oZ.keep kH (by simp)).keep kI (by simp;omega)
  have z2:=oZI.load1 (off:=2) rfl
  have x2:=oYI.load1 (off:=2) rfl
  have hI1:=kI.1
  by_cases hkt:k < l1.length
  ·have k1:(k:Int) < l1.length:=by omega
   have wk:IntKind.i64.wrap ((k:Int)+1)=((k+1:Nat):Int):=by rw [Zab (by omega) (by omega)];omega
   have et:=Zmd (ws:=ws) hkt
   obtain⟨vb,e9,li⟩:=((hla.keep kFH (by simp)).keep kI (fun f hf hq=>by have:=hQ f hq;simp at hf;omega)).get hkt
   obtain⟨v,ev⟩:∃ v:Nat,l1.getD k 0=(v:Int):=⟨(l1.getD k 0).toNat,by have:=f3 _ (Zas hkt);omega⟩
   have hvn:v < nv u:=by have:=f3 _ (Zas hkt);omega
   rw [ev] at li et
   rw [Int.toNat_natCast] at et
   have v1:(v:Int) < nv u:=by omega
   have v2:(v:Int)≤9223372036854775807:=by omega
   have lw:=(hW.keep kmI (by simp;omega)).load1 (off:=v) (Zbs (by rw [hwl];exact hvn))
   obtain⟨w,hw⟩:∃ w,ws.getD v 0=w:=⟨_,rfl⟩
   rw [hw] at lw et
   have x2n:=(oYI.new_other [.int .u64 w] 45).load1 (off:=2) rfl
   rw [e9] at z2
   simp [-Int.natCast_add,-List.getD_eq_getElem?_getD,Za u42 Zrw rfl,Za0 u42 Zrv,z2,k1,km,hkt,x2,li,v2,hvn,lw]
   generalize hra:Zan _ _ _ _ _ _=ra
   obtain⟨m5,b5,m6,w6,rfl,o5,e6,o6,s6,c6,n6,h6,k5,k6⟩:=Zw7 sR (by omega) oYI (off:=2) (by simp) (fun q=>by have:=hw5 q;omega) hra
   have x25:=o5.load1 (off:=2) rfl
   simp [-Int.natCast_add,-List.getD_eq_getElem?_getD,x2,x2n,e6,wk,z2,li,lw]
   have o6:Own m6 xb [.int .i64 F.1,.int .i64 F.2.1,.slice (some ⟨b5,0,none⟩) (k+1) (k+1),.slice none 0 0] 44 fY:=o6
   rw [← et] at s6
   have w6l:mH.next≤w6:=by
    rcases c6 with⟨q,q2⟩ | q
    ·rw [q2];exact (hw5 q).1
    ·omega
   have K6:Zaa mH m6 [fY]:=Zay (Zay kI k5 (fun g hg hm=>by
    split at hm
    ·cases hm
    ·rename_i hn;have:=hw5 hn;simp at hm;omega)) k6 (fun g _ hm=>hm)
   exact ih2 _ _ _ _ ⟨k+1,some ⟨b5,0,none⟩,w6,rfl,by omega,o6,s6,fun _=>⟨w6l,n6⟩,K6,rfl⟩ (by omega) (by repeat' constructor)
  clear ih2
  have k1:¬ (k:Int) < l1.length:=by omega
  have ek:k=l1.length:=by omega
  subst ek
  rw [List.take_of_length_le (Nat.le_refl _)] at sR
  simp [-Int.natCast_add,-List.getD_eq_getElem?_getD,z2]
  refine Zai 17 [29,50,70] (fun d2 E mJ=>∃ (k:Nat) (r6:Option Addr) (w6:Nat),l2.length - k=d2∧k≤l2.length∧Own mJ xb [.int .i64 F.1,.int .i64 F.2.1,.slice r5 l1.length l1.length,.slice r6 k k] 44 fY∧Sl mJ r6 k (words (Zlj ws (l2.take k))) 45 1 w6∧(r6≠none→mI.next≤w6∧w6 < mJ.next)∧Zaa mI mJ [fY]∧
   E=[(1,.slice (some ⟨wb,0,none⟩) (nv u) (nv u)),(2,.int .i64 (st:Int)),(5,.pointer (some ⟨pb,0,none⟩)),(10,.pointer (some ⟨rb,0,none⟩)),(11,.pointer (some ⟨yb,0,none⟩)),(12,.int .i64 (i:Int)),(13,.pointer (some ⟨zb,0,none⟩)),(14,.pointer (some ⟨xb,0,none⟩)),(16,.int .i64 (k:Int))]) _ ⟨_,⟨0,none,0,rfl,by omega,oYI,Sl.nil _ _ _ _,fun q=>absurd rfl q,Ziu _,rfl⟩,(by repeat' constructor)⟩ ?_
  rintro d2 E mJ ih2 ⟨k,r6,w6,hd2,hk,oYJ,sR6,hw6,kJ,rfl⟩
  have km:(k:Int)≤9223372036854775807:=by omega
  have kmJ:Zaa m mJ [fY]:=kmI.trans kJ
  have oZJ:=oZI.keep kJ (by simp;omega)
  have z3:=oZJ.load1 (off:=3) rfl
  have x3:=oYJ.load1 (off:=3) rfl
  have hJ1:=kJ.1
  by_cases hkt:k < l2.length
  ·have k1:(k:Int) < l2.length:=by omega
   have wk:IntKind.i64.wrap ((k:Int)+1)=((k+1:Nat):Int):=by rw [Zab (by omega) (by omega)];omega
   have et:=Zmd (ws:=ws) hkt
   obtain⟨vb,e9,li⟩:=(((hsa.keep kFH (by simp)).keep kI (fun f hf hq=>by have:=hQ f hq;simp at hf;omega)).keep kJ (fun f hf hq=>by have:=hQ f hq;simp at hf;omega)).get hkt
   obtain⟨v,ev⟩:∃ v:Nat,l2.getD k 0=(v:Int):=⟨(l2.getD k 0).toNat,by have:=f4 _ (Zas hkt);omega⟩
   have hvn:v < nv u:=by have:=f4 _ (Zas hkt);omega
   rw [ev] at li et
   rw [Int.toNat_natCast] at et
   have v1:(v:Int) < nv u:=by omega
   have v2:(v:Int)≤9223372036854775807:=by omega
   have lw:=(hW.keep kmJ (by simp;omega)).load1 (off:=v) (Zbs (by rw [hwl];exact hvn))
   obtain⟨w,hw⟩:∃ w,ws.getD v 0=w:=⟨_,rfl⟩
   rw [hw] at lw et
   have x3n:=(oYJ.new_other [.int .u64 w] 45).load1 (off:=3) rfl
   rw [e9] at z3
   simp [-Int.natCast_add,-List.getD_eq_getElem?_getD,Za u42 Zrw rfl,Za0 u42 Zrv,z3,k1,km,hkt,x3,li,v2,hvn,lw]
   generalize hra:Zan _ _ _ _ _ _=ra
   obtain⟨m5,b5,m6,w6',rfl,o5,e6,o6,s6,c6,n6,h6,k5,k6⟩:=Zw7 sR6 (by omega) oYJ (off:=3) (by simp) (fun q=>by have:=hw6 q;omega) hra
   have x35:=o5.load1 (off:=3) rfl
   simp [-Int.natCast_add,-List.getD_eq_getElem?_getD,x3,x3n,e6,wk,z3,li,lw]
   have o6:Own m6 xb [.int .i64 F.1,.int .i64 F.2.1,.slice r5 l1.length l1.length,.slice (some ⟨b5,0,none⟩) (k+1) (k+1)] 44 fY:=o6
   rw [← et] at s6
   have w6l:mI.next≤w6':=by
    rcases c6 with⟨q,q2⟩ | q
    ·rw [q2];exact (hw6 q).1
    ·omega
   have K6:Zaa mI m6 [fY]:=Zay (Zay kJ k5 (fun g hg hm=>by
    split at hm
    ·cases hm
    ·rename_i hn;have:=hw6 hn;simp at hm;omega)) k6 (fun g _ hm=>hm)
   exact ih2 _ _ _ _ ⟨k+1,some ⟨b5,0,none⟩,w6',rfl,by omega,o6,s6,fun _=>⟨w6l,n6⟩,K6,rfl⟩ (by omega) (by repeat' constructor)
  clear ih2
  have k1:¬ (k:Int) < l2.length:=by omega
  have ek:k=l2.length:=by omega
  subst ek
  rw [List.take_of_length_le (Nat.le_refl _)] at sR6
  have kFJ:Zaa mF mJ [fY]:=((kFH.nil (fs:=[fY])).trans kI).trans kJ
  have oXJ:=oYF.keep kFJ (by simp;omega)
  have q3:=oXJ.load1 (off:=3) rfl
  have xl:=oYJ.load (off:=0) 4 (by simp)
  simp [Zao] at xl
  have xln:=(oYJ.new_other [.int .i64 F.1,.int .i64 F.2.1,.slice r5 l1.length l1.length,.slice r6 l2.length l2.length] 44).load (off:=0) 4 (by simp)
  simp [Zao] at xln
  have q3n:=(oXJ.new_other [.int .i64 F.1,.int .i64 F.2.1,.slice r5 l1.length l1.length,.slice r6 l2.length l2.length] 44).load1 (off:=3) rfl
  simp [-Int.natCast_add,-List.getD_eq_getElem?_getD,Za u26 Yb rfl,Za0 u26 Z9t,z3,q3,xl]
  generalize hra:Zan _ _ _ _ _ _=ra
  obtain⟨m7,lb7,lf7,rfl,oL7,k7,hlf7,hl7,hz7⟩:=Zg6 hra u26 Ybc (sL.keepz kFJ (fun q=>by have:=hlf q;simp;omega)) (by omega) (by simp) (by simp [Zam,Zad]) (by omega) (by omega)
  have knew:∀ f:Nat,(lo≠none→f≠lf)→f∉(if lo=none then [] else [lf]):=by
   intro f hf'
   split
   ·simp
   ·rename_i hn
    simp;exact hf' hn
  have oX7:=oXJ.keep k7 (knew _ (fun hn=>by have:=hlf hn;omega))
  obtain⟨m8,e8,oX8,k8⟩:=Zaj (r:=_) rfl oX7 (off:=3) (vs:=[.slice (some ⟨lb7,0,none⟩) (i+1) (i+1)]) (by simp) (by simp [Zad])
  simp [Zbr] at oX8
  have q37:=oX7.load1 (off:=3) rfl
  simp [-Int.natCast_add,-List.getD_eq_getElem?_getD,e8,wi]
  have h71:=k7.1
  have h81:=k8.1
  have hw5':r5≠none→mH.next≤w5∧w5 < mI.next:=hw5
  have R57:Rs m8 r5 l1.length (words (Zlj ws l1)) 45 1 w5:=by
   refine (((sR.keepz kJ (fun q=>?_)).keepz k7 (fun q=>?_)).keepz k8 (fun q=>?_)).rs
   ·have:=hw5' q;simp;omega
   ·have:=hw5' q;exact knew _ (fun hn=>by have:=hlf hn;omega)
   ·have:=hw5' q;simp;omega
  have R67:Rs m8 r6 l2.length (words (Zlj ws l2)) 45 1 w6:=by
   refine ((sR6.keepz k7 (fun q=>?_)).keepz k8 (fun q=>?_)).rs
   ·have:=hw6 q;exact knew _ (fun hn=>by have:=hlf hn;omega)
   ·have:=hw6 q;simp;omega
  have rn5:l1.length≠0→r5≠none:=fun h e=>by
   rcases sR.2 with⟨_,q⟩ | ⟨b,q,_⟩
   ·omega
   ·rw [e] at q;cases q
  have rn6:l2.length≠0→r6≠none:=fun h e=>by
   rcases sR6.2 with⟨_,q⟩ | ⟨b,q,_⟩
   ·omega
   ·rw [e] at q;cases q
  have lfz:(lo≠none∧lf7=lf)∨(lo=none∧mJ.next≤lf7):=by
   rcases hlf7 with q | q
   ·exact Or.inl q
   ·by_cases hn:lo=none
    ·exact Or.inr ⟨hn,by have:(mJ.new [.int .i64 F.1,.int .i64 F.2.1,.slice r5 l1.length l1.length,.slice r6 l2.length l2.length] 44).next=mJ.next+1:=rfl;omega⟩
    ·exact Or.inl ⟨hn,hz7 hn⟩
  have hl7':yb≤lf7∧lf7≠fX∧(lf7 < mF.next∨mJ.next≤lf7):=by
   rcases lfz with⟨q,q2⟩ | ⟨_,q⟩
   ·have:=hlf q;omega
   ·omega
  have K8:Zaa mB m8 []:=by
   refine (((kF.trans kFH).fresh (kI.trans kJ) (by simp;omega)).fresh k7 ?_).fresh k8 (by simp;omega)
   intro f hf'
   split at hf'
   ·simp at hf'
   ·rename_i hn
    simp at hf'
    have:=hlf hn
    rw [hf'];omega
  have kF8:lo≠none→Zaa mF m8 [fY,lf,fX]:=fun hn=>((kFJ.mono (by simp)).trans (k7.mono (fun f hf=>by rw [if_neg hn] at hf;simp at hf;simp [hf]))).trans (k8.mono (by simp))
  subst hl1 hl2
  have at8:=Zq7 (Q:=fun f=>yb≤f∧f≠lf7∧f≠fX∧f < m8.next) (F:=F) R57 (fun q=>by have:=hw5' (rn5 q);omega) R67 (fun q=>by have:=hw6 (rn6 q);omega)
  exact ih _ _ _ _ ⟨i+1,some ⟨lb7,0,none⟩,lf7,css++[[.int .i64 F.1,.int .i64 F.2.1,.slice r5 (List.length F.2.2.1) (List.length F.2.2.1),.slice r6 (List.length F.2.2.2.1) (List.length F.2.2.2.1)]],rfl,by omega,oX8,by simp [hcl],(by
    intro k d c hd' hc'
    rw [etk] at hd'
    have hml:((fs.map (frW ws)).take i).length=i:=by rw [List.length_take,List.length_map];omega
    by_cases hk:k < i
    ·rw [List.getElem?_append_left (by omega)] at hd' hc'
     have a1:=hcs k d c hd' hc'
     have hln:lo≠none:=by
      intro e
      rcases sL.2 with⟨_,q⟩ | ⟨b,q,_⟩
      ·omega
      ·rw [e] at q;cases q
     have e7:=hz7 hln
     have a2:=a1.keep (kF8 hln) (by
      intro f hf'
      simp at hf'
      rintro⟨q1,q2,q3,q4⟩
      rcases hf' with e | e | e
      ·omega
      ·exact q2 e
      ·exact q3 e)
     rw [e7];exact a2.mono (fun f q=>⟨q.1,q.2.1,q.2.2.1,by have:=q.2.2.2;omega⟩)
    ·have hk2:k=i:=by
      have:=(List.getElem?_eq_some_iff.1 hc').1
      simp [hcl] at this
      omega
     subst hk2
     rw [List.getElem?_append_right (by omega),hml,Nat.sub_self] at hd'
     rw [List.getElem?_append_right (by omega),hcl,Nat.sub_self] at hc'
     simp only [List.getElem?_cons_zero,Option.some.injEq] at hd' hc'
     subst hd' hc'
     exact at8),by
    have:=(oL7.keep k8 (by simp;omega))
    exact Sl.of (by simpa using this) (by have:=sL.1;simp [List.length_flatten] at this ⊢;omega),fun _=>⟨hl7'.1,by omega,hl7'.2.1⟩,K8,by omega,rfl⟩ (by omega) (by repeat' constructor)
 have i1:¬ (i:Int) < fs.length:=by omega
 have ei:i=fs.length:=by omega
 clear ih
 have lY:=oYF.load (off:=0) 5 (by simp)
 simp [Zao] at lY
 obtain⟨m8,e8,oR8,k8⟩:=Zaj (r:=_) rfl (oR.keep kF (by simp)) (off:=0) (vs:=[.int .i64 1,.int .i64 (st:Int),.int .i64 val,.slice lo i i,.int .i64 n]) (by simp) (by simp [Zam,Zad])
 simp [Zbr] at oR8
 have lR:=oR8.load (off:=0) 5 (by simp)
 simp [Zao] at lR
 simp [-Int.natCast_add,Zdf Zwp,p4,s2,hst,ldF,i1,lY,e8,lR]
 subst ei
 rw [List.take_of_length_le (by simp)] at hcs
 have KR:Zaa m m8 []:=KF.fresh k8 (by simp;omega)
 have hrf:∀ f,yb≤f→f≠rb:=fun f hf=>by omega
 refine⟨⟨lo,⟨rfl,rfl⟩,lo,css,lf,by simp,by simpa using hcl,fun k d c h1 h2=>((hcs k d c h1 h2).keep k8 (by simp;omega)).mono (fun f q=>by omega),?_,fun q=>?_⟩,KR⟩
 ·have:=(sL.keepz k8 (fun q=>by have:=hlf q;simp;omega)).rs
  rw [List.length_map]
  exact this
 ·have hln:lo≠none:=by
   intro e
   rcases sL.2 with⟨_,q'⟩ | ⟨b,q',_⟩
   ·rw [List.length_map] at q;omega
   ·rw [e] at q';cases q'
  have:=hlf hln
  omega
end Go.Proofs.YtlogdohlcdhepaaDoor.base
end
section
set_option maxRecDepth 100000
namespace Go.Proofs.YtlogdohlcdhepaaDoor.base
open Go.Sh gen
variable {S:Zb2}{m:Mem}
structure Kr where
 (ub uf rb rf wb wf hb hf hwf:Nat)
 room:Int
 (vo bo so:Option Addr)
structure Rf (Q:Nat→Prop)(m:Mem)(u:UnT.D)(K:Kr)(V:Vv):Prop where
 un:Own m K.ub (Zbw u K.vo K.bo K.so) 34 K.uf
 re:Own m K.rb [.int .i64 0,.int .i64 0,.int .i64 0,.slice none 0 0,.int .i64 0] 28 K.rf
 wds:Own m K.wb (words V.ws) 45 K.wf
 len:V.ws.length=nv u
 wd:Wd V.ws
 hwd:Wd V.hw
 hl:V.hw.length≤65536
 heap:Zd8 m K.hb K.hf V.hwb K.hwf V.hw K.room
 unit:UAt Q m u K.vo K.bo K.so
 nq:¬ Q K.uf∧¬ Q K.rf∧¬ Q K.wf∧¬ Q K.hf∧¬ Q K.hwf
 nd:K.uf≠K.wf∧K.uf≠K.hwf∧K.rf≠K.wf∧K.rf≠K.hwf∧K.wf≠K.hf∧K.wf≠K.hwf
theorem Rf.keep {Q:Nat→Prop}{m1:Mem}{u:UnT.D}{K:Kr}{V:Vv}{fs:List Nat}(h:Rf Q m u K V)(k:Zaa m m1 fs)(h1:K.uf∉fs)(h2:K.rf∉fs)(h3:K.wf∉fs)(h4:K.hf∉fs)(h5:K.hwf∉fs)(h6:∀ f∈fs,¬ Q f):Rf Q m1 u K V:=
 ⟨h.un.keep k h1,h.re.keep k h2,h.wds.keep k h3,h.len,h.wd,h.hwd,h.hl,h.heap.keep k h4 h5,h.unit.keep k h6,h.nq,h.nd⟩
theorem Rf.keep0 {Q:Nat→Prop}{m1:Mem}{u:UnT.D}{K:Kr}{V:Vv}(h:Rf Q m u K V)(k:Zaa m m1 []):Rf Q m1 u K V:=h.keep k (by simp) (by simp) (by simp) (by simp) (by simp) (by simp)
theorem Rf.setw {Q:Nat→Prop}{u:UnT.D}{K:Kr}{V:Vv}(h:Rf Q m u K V){i:Nat}(hi:i < nv u){v:Int}(hv:0≤v∧v≤18446744073709551615) :
  ∃ m1,Zaf m ⟨K.wb,i,none⟩ [.int .u64 v]=some m1∧Rf Q m1 u K { V with ws:=V.ws.set i v }∧Zaa m m1 [K.wf]:=by
 have hl:i < V.ws.length:=by rw [h.len];exact hi
 obtain⟨m1,e1,o1,k1⟩:=Zaj (r:=_) rfl h.wds (off:=i) (vs:=[.int .u64 v]) (by simp [words];omega) (by simp [Zam])
 have eo:Zbr (words V.ws) i [.int .u64 v]=words (V.ws.set i v):=by
  unfold words
  rw [Zud (by simpa using hl),List.map_set]
 rw [eo] at o1
 obtain⟨n1,n2,n3,n4,n5,n6⟩:=h.nd
 refine⟨m1,e1,⟨h.un.keep k1 (by simpa using n1),h.re.keep k1 (by simpa using n3),o1,by simpa using h.len,?_,h.hwd,h.hl,h.heap.keep k1 (by simpa using Ne.symm n5) (by simpa using Ne.symm n6),h.unit.keep k1 (by simpa using h.nq.2.2.1),h.nq,h.nd⟩,k1⟩
 intro w hw
 rcases List.mem_or_eq_of_mem_set hw with h1 | h1
 ·exact h.wd w h1
 ·rw [h1];exact hv
theorem Rf.puth (hS:S 42=[]){Q:Nat→Prop}{u:UnT.D}{K:Kr}{V:Vv}(h:Rf Q m u K V){a v:Int}(ha:0≤a)(hv:0≤v∧v≤18446744073709551615) :
  ∃ m1,Zag Tryd.prog TT S 42 [.pointer (some ⟨K.hb,0,none⟩),.int .u64 a,.int .u64 v] m=some (.bool (Z0b V.hw a),m1)∧Rf Q m1 u K { V with hw:=Zn2 V.hw a v }∧Zaa m m1 [K.hwf]:=by
 obtain⟨_,m1,e,rfl,hh,k⟩:=Zue (v:=v) hS h.heap ha (by have:=h.hl;omega)
 obtain⟨n1,n2,n3,n4,n5,n6⟩:=h.nd
 exact⟨m1,e,⟨h.un.keep k (by simpa using n2),h.re.keep k (by simpa using n4),h.wds.keep k (by simpa using n6),h.len,h.wd,Zxf h.hwd hv,by rw [Zuq];exact h.hl,hh,h.unit.keep k (by simpa using h.nq.2.2.2.2),h.nq,h.nd⟩,k⟩
def Zu6 (ws args:List Int)(from_:Int):List Int→Nat→Int
 | [],_=>0
 | p::r,j=>if p=from_ then ws.getD (args.getD j 0).toNat 0 else Zu6 ws args from_ r (j+1)
def Za6 (u:UnT.D)(loc pr:List Int)(from_:Int)(ws:List Int):List Int→List Int
 | []=>[]
 | v::r =>
  if (Za1 u v).1=1 then (if (show Int from (Za1 u v).2.2.2.1) < loc.length then loc.getD (show Int from (Za1 u v).2.2.2.1).toNat 0 else 0)::Za6 u loc pr from_ ws r
  else if (Za1 u v).1=21 then Zu6 ws (Za1 u v).2.2.2.2.1 from_ pr 0::Za6 u loc pr from_ ws r
  else []
theorem Zp1 (u:UnT.D)(loc pr:List Int)(from_:Int)(ws:List Int):∀ l:List Int,(Za6 u loc pr from_ ws l).length≤l.length
 | []=>by simp [Za6]
 | v::r=>by
  have:=Zp1 u loc pr from_ ws r
  rw [Za6]
  split
  ·simp only [List.length_cons];omega
  split
  ·simp only [List.length_cons];omega
  ·simp
theorem Zxb {ws args:List Int}{from_:Int}(h:Wd ws):∀ (pr:List Int) (j:Nat),wd (Zu6 ws args from_ pr j)
 | [],j=>by rw [Zu6];unfold wd;omega
 | p::r,j=>by
  rw [Zu6]
  split
  ·exact h.at_ _
  ·exact Zxb h r (j+1)
def Znc (u:UnT.D)(loc:List Int)(from_:Int)(b:Nat)(V:Vv):Vv:=
 { V with ws:=Zna (vlD u b) (Za6 u loc (prD u b) from_ V.ws (vlD u b)) (Za6 u loc (prD u b) from_ V.ws (vlD u b)).length V.ws,steps:=V.steps+(Za6 u loc (prD u b) from_ V.ws (vlD u b)).length }
def Ybg (wish polls w:Int):Prop:=0≤polls∧((wish < 0∧w=wish)∨(0≤wish∧w=wish - polls∧0≤w))
end Go.Proofs.YtlogdohlcdhepaaDoor.base
end
