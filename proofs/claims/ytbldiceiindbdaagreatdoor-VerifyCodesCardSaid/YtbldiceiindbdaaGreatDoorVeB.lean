/- This text proves what the small functions of package verify answer: below, takes, all, fit, kind, equal, method, operands, static. Condition: nothing is known of the calls ahead ('S f = []') but code.Name's names. -/
import Derived.Test.YtbldiceiindbdaaGreatDoorVeA
import Derived.Test.YtbldiceiindbdaaGreatDoorCodTv
set_option linter.unusedVariables false
set_option linter.unusedSimpArgs false
set_option maxRecDepth 100000
namespace Go.Proofs.YtbldiceiindbdaaGreatDoor.base
open Go.Sh gen
variable {S:Zed}{m:Mem}
def Val (L:List Zb0.D)(l:List Int):Prop:=∀ t∈l,Zgc L.length t
theorem Val.take {L:List Zb0.D}{l:List Int}(h:Val L l)(n:Nat):Val L (l.take n):=fun t ht=>h t (List.mem_of_mem_take ht)
theorem Val.drop {L:List Zb0.D}{l:List Int}(h:Val L l)(n:Nat):Val L (l.drop n):=fun t ht=>h t (List.mem_of_mem_drop ht)
theorem Zt5:∀ (i:Nat) x,Zcs[i]?=some x→x.1=i:=by
 intro i x h
 match i,h with
 | 0,h=>cases h;rfl
 | 1,h=>cases h;rfl
 | 2,h=>cases h;rfl
 | 3,h=>cases h;rfl
 | 4,h=>cases h;rfl
 | i+5,h=>simp [Zcs] at h
theorem Zdp.k5 {L:List Zb0.D}(hR:Zdp L){i:Nat}(hi:i < L.length)(h:i < 5):L[i].1=i:=by
 obtain⟨x,hx⟩:∃ d,Zcs[i]?=some d:=⟨_,List.getElem?_eq_getElem (by simpa [Zcs] using h)⟩
 rw [hR.base i hi x hx]
 exact Zt5 i x hx
theorem Zdp.k7 {L:List Zb0.D}(hR:Zdp L){i:Nat}(hi:i < L.length)(h:5≤i):L[i].1=5∨L[i].1=6∨L[i].1=7:=by
 rcases hR.one i hi h with h | h | h
 ·exact Or.inl h.1
 ·exact Or.inr (Or.inr h.1)
 ·exact Or.inr (Or.inl h.1)
theorem Zdp.kv {L:List Zb0.D}(hR:Zdp L){t:Int}(h:Zgc L.length t):∃ (i:Nat) (hi:i < L.length) (k:Int),t=i∧L[i].1=k∧k≠0∧k≠4∧0≤k∧(t=3↔k=3)∧((t=1∨t=2∨t=3)∨k=5∨k=6∨k=7):=by
 obtain⟨h1,h2,h3⟩:=h
 obtain⟨i,rfl⟩:∃ i:Nat,t=i:=⟨t.toNat,by omega⟩
 have hi:i < L.length:=by omega
 by_cases h5:i < 5
 ·exact⟨i,hi,i,rfl,hR.k5 hi h5,by omega,by omega,by omega,Iff.rfl,Or.inl (by omega)⟩
 ·rcases hR.k7 hi (by omega) with e | e | e
  ·exact⟨i,hi,5,rfl,e,by omega,by omega,by omega,by omega,by omega⟩
  ·exact⟨i,hi,6,rfl,e,by omega,by omega,by omega,by omega,by omega⟩
  ·exact⟨i,hi,7,rfl,e,by omega,by omega,by omega,by omega,by omega⟩
def Zpa (L:List Zb0.D)(a b:Int):Bool:=Zy8 L a.toNat b.toNat
def Zmj (L:List Zb0.D)(a b:Int):Bool:=decide (a=b) || Zpa L a b
def eqI (L:List Zb0.D)(a b:Int):Bool:=if a=b then decide (a≠3) else Zpa L a b || Zpa L b a
def Zhd (L:List Zb0.D)(l to:List Int):Bool:=decide (l.length=to.length) && (l.zip to).all fun q=>Zmj L q.1 q.2
theorem Zmm (hN:Nh S){to:Option Addr}{L:List Zb0.D}(h:Tb m to L){a b:Int}(ha:0≤a∧a < L.length)(hb:0≤b∧b < L.length):∃ m1,Zbi Tryz.prog TT S 144 [.slice to L.length L.length,.int .i64 a,.int .i64 b] m=some (.bool (Zpa L a b),m1)∧Zao m m1 []:=by
 obtain⟨i,rfl⟩:∃ i:Nat,a=i:=⟨a.toNat,by omega⟩
 obtain⟨j,rfl⟩:∃ i:Nat,b=i:=⟨b.toNat,by omega⟩
 have hi:i < L.length:=by omega
 have hj:j < L.length:=by omega
 obtain⟨_,m1,h1,rfl,k1⟩:=Zxt hN h hi hj
 refine⟨m1,?_,k1⟩
 rw [h1]
 simp only [Zpa,Zy8,Int.toNat_natCast,List.getElem?_eq_getElem hi,List.getElem?_eq_getElem hj]
theorem Zts (hN:Nh S)(hF:S 143=[]){to:Option Addr}{L:List Zb0.D}(hR:Zdp L)(h:Tb m to L){a b:Int}(ha:Zgc L.length a)(hb:Zgc L.length b):∃ m1,Zbi Tryz.prog TT S 143 [.slice to L.length L.length,.int .i64 a,.int .i64 b] m=some (.bool (Zmj L a b),m1)∧Zao m m1 []:=by
 obtain⟨i,hi,ka,rfl,ea,a0,a4,ap,_⟩:=hR.kv ha
 obtain⟨j,hj,kb,rfl,eb,b0,b4,bp,_⟩:=hR.kv hb
 obtain⟨_,m1,h1,rfl,k1⟩:=Zzx hN hF h hi hj (by rw [ea];exact ap) (by rw [eb];exact bp)
 refine⟨m1,?_,k1⟩
 rw [h1,Zq9 hi hj,ea,eb]
 by_cases e:i=j
 ·subst e
  simp [Zmj,a0,a4]
 ·have e':¬ (i:Int)=j:=by omega
  simp [Zmj,Zpa,e,e',a4]
theorem Zl9 (hS:S 45=[])(k n:Int):Zbi Tryz.prog TT S 45 [.int .i64 k,.int .i64 n] m=some (.bool (decide (0≤k∧k < n)),m):=by
 refine Zgh 5 [] k45 hS rfl ?_
 by_cases h1:0≤k
 ·simp [-Int.natCast_add,-BitVec.toNat_or,-BitVec.toNat_ofInt,-BitVec.toNat_and,id,h1]
 ·simp [-Int.natCast_add,-BitVec.toNat_or,-BitVec.toNat_ofInt,-BitVec.toNat_and,id,h1]
theorem Z15 (hS:S 117=[]){ao:Option Addr}{l:List Int}(h:Iv m ao l)(hl:l.length≤1000)(t:Int):Zbi Tryz.prog TT S 117 [.slice ao l.length l.length,.int .i64 t] m=some (.bool (l.all fun x=>decide (x=t)),m):=by
 refine Zgh 10 [10,15] Z77 hS rfl ?_
 simp [-Int.natCast_add,-BitVec.toNat_or,-BitVec.toNat_ofInt,-BitVec.toNat_and,Zac u23,Zaa u23 sz3,Zab ld3]
 refine Zbg 10 [10,15] (fun d E mC=>∃ i:Nat,l.length - i=d∧i≤l.length∧(l.take i).all (fun x=>decide (x=t))=true∧mC=m∧E=[(1,.int .i64 t),(7,.slice ao l.length l.length),(8,.int .i64 l.length),(9,.int .i64 i)]) _ ⟨_,⟨0,rfl,by omega,rfl,rfl,rfl⟩,⟨by rfl,by rfl,by rfl,by rfl,trivial⟩⟩ ?_
 rintro d E mC ih ⟨i,hd,hi,hall,rfl,rfl⟩
 by_cases hlt:i < l.length
 ·have i1:(i:Int) < l.length:=by omega
  have em:(i:Int)≤9223372036854775807:=by omega
  have wi:IntKind.i64.wrap ((i:Int)+1)=((i+1:Nat):Int):=by rw [Zbh (by omega) (by omega)];omega
  obtain⟨b,of,rfl,_,hld⟩:=h.load (by intro e;rw [e] at hlt;simp at hlt)
  have la:=hld i hlt _ (Zaj _)
  by_cases he:l[i]=t
  ·have hy:=Zln hlt hall (by simp [he])
   rw [he] at la
   simp [-Int.natCast_add,-BitVec.toNat_or,-BitVec.toNat_ofInt,-BitVec.toNat_and,Zac u23,Zaa u23 sz3,Zab ld3,i1,em,hlt,la,wi]
   exact ih _ _ _ _ ⟨i+1,rfl,by omega,hy,rfl,rfl⟩ (by omega) ⟨by rfl,by rfl,by rfl,by simp [Zcm],trivial⟩
  ·have hn:(l.all fun x=>decide (x=t))=false:=Zla hlt (by simp [he])
   obtain⟨x,hx⟩:∃ x,l[i]=x:=⟨_,rfl⟩
   rw [hx] at la he
   simp [-Int.natCast_add,-BitVec.toNat_or,-BitVec.toNat_ofInt,-BitVec.toNat_and,Zac u23,Zaa u23 sz3,Zab ld3,i1,em,hlt,la,he]
   simpa using hn
 ·have i1:¬ (i:Int) < l.length:=by omega
  rw [List.take_of_length_le (by omega)] at hall
  simp [-Int.natCast_add,-BitVec.toNat_or,-BitVec.toNat_ofInt,-BitVec.toNat_and,Zac u23,Zaa u23 sz3,Zab ld3,i1]
  simpa using hall
structure Wa (m:Mem)(wb:Nat)(p:Pr)(q:Pp)(f:Fn)(fp:Fp):Prop where
 pr:Zmg m p q
 fn:Zwt m f fp
 ow:∃ u v,Own m wb (p.row q++(f.row fp++[u,v])) 104 wb
theorem Wa.keep {wb:Nat}{p:Pr}{q:Pp}{f:Fn}{fp:Fp}{m1:Mem}(h:Wa m wb p q f fp)(k:Zao m m1 []):Wa m1 wb p q f fp:=⟨h.pr.keep k,h.fn.keep k,by obtain⟨u,v,o⟩:=h.ow;exact⟨u,v,o.keep k (by simp)⟩⟩
section
variable {wb:Nat}{p:Pr}{q:Pp}{f:Fn}{fp:Fp}
theorem Wa.l0 (h:Wa m wb p q f fp):loadRow m ⟨wb,0,none⟩ 1=some [.slice q.ta p.L.length p.L.length]:=by obtain⟨u,v,o⟩:=h.ow;exact o.load1 (off:=0) rfl
theorem Wa.l1 (h:Wa m wb p q f fp):loadRow m ⟨wb,1,none⟩ 1=some [.slice q.fa p.F.length p.F.length]:=by obtain⟨u,v,o⟩:=h.ow;exact o.load1 (off:=1) rfl
theorem Wa.l3 (h:Wa m wb p q f fp):loadRow m ⟨wb,3,none⟩ 1=some [.slice q.xa p.X.length p.X.length]:=by obtain⟨u,v,o⟩:=h.ow;exact o.load1 (off:=3) rfl
theorem Wa.l4 (h:Wa m wb p q f fp):loadRow m ⟨wb,4,none⟩ 1=some [.slice q.na p.nN p.nN]:=by obtain⟨u,v,o⟩:=h.ow;exact o.load1 (off:=4) rfl
theorem Wa.l7 (h:Wa m wb p q f fp):loadRow m ⟨wb,7,none⟩ 1=some [.int .i64 f.res]:=by obtain⟨u,v,o⟩:=h.ow;exact o.load1 (off:=7) rfl
theorem Wa.l8 (h:Wa m wb p q f fp):loadRow m ⟨wb,8,none⟩ 1=some [.slice fp.la f.ls.length f.ls.length]:=by obtain⟨u,v,o⟩:=h.ow;exact o.load1 (off:=8) rfl
theorem Wa.l9 (h:Wa m wb p q f fp):loadRow m ⟨wb,9,none⟩ 1=some [.slice fp.ca f.code.length f.code.length]:=by obtain⟨u,v,o⟩:=h.ow;exact o.load1 (off:=9) rfl
theorem Zju (hS:S 114=[])(hB:S 45=[])(h:Wa m wb p q f fp)(t:Int):∃ v,Zbi Tryz.prog TT S 114 [.pointer (some ⟨wb,0,none⟩),.int .i64 t] m=some (.int .i64 v,m)∧(∀ (i:Nat) (hi:i < p.L.length),t=i→v=p.L[i].1)∧(¬ (0≤t∧t < p.L.length)→v=0):=by
  have b1:=fun m'=>Zl9 (m:=m') hB t (p.L.length:Int)
  have l0:=h.l0
  by_cases hin:0≤t∧t < p.L.length
  · obtain⟨i,rfl⟩:∃ i:Nat,t=i:=⟨t.toNat,by omega⟩
    have hi:i < p.L.length:=by omega
    refine ⟨p.L[i].1, ?_, fun j hj e => by obtain rfl:i=j:=by omega
                                           rfl,fun hn=>absurd hin hn⟩
    rw [decide_eq_true hin] at b1
    obtain⟨b,ao,fa,bo,he,ty⟩:=h.pr.tb.ty hi
    rw [he] at l0
    have ld:=ty.l0 _ (Zaj _)
    have hLl:=h.pr.tb.le
    have em:(i:Int)≤9223372036854775807:=by omega
    refine Zgh 5 [13] Z60 hS rfl ?_
    simp [-Int.natCast_add,-BitVec.toNat_or,-BitVec.toNat_ofInt,-BitVec.toNat_and,Za Zbt,Za Zas,Zab Zb2,Zac u24,Zaa u24 Zbn,Za Za3,Zab ld3,l0,b1,em,hi,ld]
  · refine⟨0,?_,fun i hi e=>absurd ⟨by omega,by omega⟩ hin,fun _=>rfl⟩
    rw [decide_eq_false hin] at b1
    refine Zgh 5 [13] Z60 hS rfl ?_
    simp [-Int.natCast_add,-BitVec.toNat_or,-BitVec.toNat_ofInt,-BitVec.toNat_and,Za Zbt,Za Zas,Zab Zb2,Zac u24,Zaa u24 Zbn,Za Za3,Zab ld3,l0,b1]
structure Nw (S:Zed):Prop where
 h:Nh S
 fits:S 143=[]
 isref:S 113=[]
 below:S 45=[]
 all:S 117=[]
 wkind:S 114=[]
 fit:S 116=[]
 equal:S 118=[]
 meth:S 120=[]
 opnd:S 73=[]
 stat:S 41=[]
 takes:S 75=[]
 lays:S 77=[]
 gives:S 76=[]
 parts:S 119=[]
 does:S 43=[]
 moves:S 115=[]
theorem Zry (hN:Nw S)(hR:Zdp p.L)(h:Wa m wb p q f fp){ao bo:Option Addr}{l to:List Int}(hl:Iv m ao l)(ht:Iv m bo to)(hlv:Val p.L l)(htv:Val p.L to)(hll:l.length≤1000) :
  ∃ m1,Zbi Tryz.prog TT S 116 [.pointer (some ⟨wb,0,none⟩),.slice ao l.length l.length,.slice bo to.length to.length] m=some (.bool (Zhd p.L l to),m1)∧Zao m m1 []:=by
 suffices hg:∃ v m1,Zbi Tryz.prog TT S 116 [.pointer (some ⟨wb,0,none⟩),.slice ao l.length l.length,.slice bo to.length to.length] m=some (v,m1)∧v=.bool (Zhd p.L l to)∧Zao m m1 [] by
  obtain⟨_,m1,h1,rfl,h2⟩:=hg
  exact⟨m1,h1,h2⟩
 refine Zey 17 [17,32] Z71 hN.fit rfl ?_
 by_cases hlen:l.length=to.length
 case neg =>
  have hlen':¬ (l.length:Int)=to.length:=by omega
  simp [-Int.natCast_add,-BitVec.toNat_or,-BitVec.toNat_ofInt,-BitVec.toNat_and,Zac u23,Zaa u23 sz3,Zab ld3,Za Zbt,Za Zas,Zab Zb2,hlen,hlen',Zhd]
  exact Zaj _
 have hlen':(l.length:Int)=to.length:=by omega
 simp [-Int.natCast_add,-BitVec.toNat_or,-BitVec.toNat_ofInt,-BitVec.toNat_and,Zac u23,Zaa u23 sz3,Zab ld3,Za Zbt,Za Zas,Zab Zb2,hlen,hlen']
 refine Zbg 17 [17,32] (fun d E mC=>∃ i:Nat,to.length - i=d∧i≤to.length∧((l.zip to).take i).all (fun q=>Zmj p.L q.1 q.2)=true∧Zao m mC []∧E=[(0,.pointer (some ⟨wb,0,none⟩)),(2,.slice bo to.length to.length),(14,.slice ao to.length to.length),(15,.int .i64 to.length),(16,.int .i64 i)]) _ ⟨_,⟨0,rfl,by omega,rfl,Zaj _,rfl⟩,⟨by rfl,by rfl,by rfl,by rfl,by rfl,trivial⟩⟩ ?_
 rintro d E mC ih ⟨i,hd,hi,hallz,kC,rfl⟩
 have hzl:(l.zip to).length=to.length:=by simp [hlen]
 by_cases hlt:i < to.length
 ·have i1:(i:Int) < to.length:=by omega
  have hil:i < l.length:=by omega
  have hiz:i < (l.zip to).length:=by omega
  have em:(i:Int)≤9223372036854775807:=by omega
  have wi:IntKind.i64.wrap ((i:Int)+1)=((i+1:Nat):Int):=by rw [Zbh (by omega) (by omega)];omega
  obtain⟨b,of,rfl,_,hld⟩:=hl.load (by intro e;rw [e] at hil;simp at hil)
  obtain⟨b2,of2,rfl,_,hld2⟩:=ht.load (by intro e;rw [e] at hlt;simp at hlt)
  have la:=hld i hil _ kC
  have lb:=hld2 i hlt _ kC
  have l0:=(h.keep kC).l0
  obtain⟨m1,h1,k1⟩:=Zts (m:=mC) hN.h hN.fits hR (h.keep kC).pr.tb (hlv _ (List.getElem_mem hil)) (htv _ (List.getElem_mem hlt))
  have hzi:(l.zip to)[i]=(l[i],to[i]):=by simp
  rcases hb:Zmj p.L l[i] to[i] with _ | _
  ·have hn:=Zla (p:=fun q:Int × Int=>Zmj p.L q.1 q.2) hiz (by rw [hzi];exact hb)
   rw [hb] at h1
   obtain⟨x,hx⟩:∃ x,l[i]=x:=⟨_,rfl⟩
   obtain⟨y,hy⟩:∃ x,to[i]=x:=⟨_,rfl⟩
   rw [hx,hy] at h1
   rw [hx] at la
   rw [hy] at lb
   simp [-Int.natCast_add,-BitVec.toNat_or,-BitVec.toNat_ofInt,-BitVec.toNat_and,Zac u23,Zaa u23 sz3,Zab ld3,Za Zbt,Za Zas,Zab Zb2,i1,em,hlt,la,lb,l0,h1]
   exact⟨by unfold Zhd;rw [hn,Bool.and_false],kC.trans k1⟩
  ·have hy2:=Zln (p:=fun q:Int × Int=>Zmj p.L q.1 q.2) hiz hallz (by rw [hzi];exact hb)
   rw [hb] at h1
   obtain⟨x,hx⟩:∃ x,l[i]=x:=⟨_,rfl⟩
   obtain⟨y,hy⟩:∃ x,to[i]=x:=⟨_,rfl⟩
   rw [hx,hy] at h1
   rw [hx] at la
   rw [hy] at lb
   simp [-Int.natCast_add,-BitVec.toNat_or,-BitVec.toNat_ofInt,-BitVec.toNat_and,Zac u23,Zaa u23 sz3,Zab ld3,Za Zbt,Za Zas,Zab Zb2,i1,em,hlt,la,lb,l0,h1,wi]
   exact ih _ _ _ _ ⟨i+1,rfl,by omega,hy2,kC.trans k1,rfl⟩ (by omega) ⟨by rfl,by rfl,by rfl,by rfl,by simp [Zcm],trivial⟩
 ·have i1:¬ (i:Int) < to.length:=by omega
  rw [List.take_of_length_le (by omega)] at hallz
  simp [-Int.natCast_add,-BitVec.toNat_or,-BitVec.toNat_ofInt,-BitVec.toNat_and,Zac u23,Zaa u23 sz3,Zab ld3,Za Zbt,Za Zas,Zab Zb2,i1]
  exact⟨by unfold Zhd;rw [hallz];simp [hlen],kC⟩
theorem Zvi (L:List Zb0.D)(a:Int):Zpa L a a=false:=by
 unfold Zpa Zy8
 cases L[a.toNat]? with
 | none=>rfl
 | some x =>
  simp only
  by_cases h5:x.1=5
  ·have:¬ x.1=7:=fun e=>absurd (h5.symm.trans e) (by decide)
   simp [this]
  ·simp [h5]
theorem Zw3 (hN:Nw S)(hR:Zdp p.L)(h:Wa m wb p q f fp){a b:Int}(ha:Zgc p.L.length a)(hb:Zgc p.L.length b) :
  ∃ m1,Zbi Tryz.prog TT S 118 [.pointer (some ⟨wb,0,none⟩),.int .i64 a,.int .i64 b] m=some (.bool (eqI p.L a b),m1)∧Zao m m1 []:=by
 suffices hg:∃ v m1,Zbi Tryz.prog TT S 118 [.pointer (some ⟨wb,0,none⟩),.int .i64 a,.int .i64 b] m=some (v,m1)∧v=.bool (eqI p.L a b)∧Zao m m1 [] by
  obtain⟨_,m1,h1,rfl,h2⟩:=hg
  exact⟨m1,h1,h2⟩
 refine Zey 7 [9] Z8g hN.equal rfl ?_
 by_cases e:a=b
 ·subst e
  obtain⟨v,hk,hv,_⟩:=Zju hN.wkind hN.below h a
  obtain⟨i,hi,kk,ei,ek,k0,k4,kp,k3,_⟩:=hR.kv ha
  have hv:v=kk:=(hv i hi ei).trans ek
  rw [← hv] at k0 k3
  simp only [eqI,if_true]
  by_cases e3:a=3
  ·have v3:=k3.1 e3
   rw [v3] at hk
   subst e3
   simp [-Int.natCast_add,-BitVec.toNat_or,-BitVec.toNat_ofInt,-BitVec.toNat_and,Za Zbt,Za Zas,Zab Zb2,hk]
   exact Zaj _
  ·have v3:¬ v=3:=fun e=>e3 (k3.2 e)
   simp [-Int.natCast_add,-BitVec.toNat_or,-BitVec.toNat_ofInt,-BitVec.toNat_and,Za Zbt,Za Zas,Zab Zb2,hk,e3,v3,k0]
   exact Zaj _
 ·have l0:=h.l0
  obtain⟨m1,h1,k1⟩:=Zmm hN.h h.pr.tb (a:=a) (b:=b) ⟨by have:=ha.1;omega,ha.2.1⟩ ⟨by have:=hb.1;omega,hb.2.1⟩
  obtain⟨m2,h2,k2⟩:=Zmm hN.h (h.keep k1).pr.tb (a:=b) (b:=a) ⟨by have:=hb.1;omega,hb.2.1⟩ ⟨by have:=ha.1;omega,ha.2.1⟩
  have l01:=(h.keep k1).l0
  simp only [eqI,if_neg e]
  rcases hh:Zpa p.L a b with _ | _
  ·rw [hh] at h1
   simp [-Int.natCast_add,-BitVec.toNat_or,-BitVec.toNat_ofInt,-BitVec.toNat_and,Za Zbt,Za Zas,Zab Zb2,e,l0,h1,l01,h2]
   exact k1.trans k2
  ·rw [hh] at h1
   simp [-Int.natCast_add,-BitVec.toNat_or,-BitVec.toNat_ofInt,-BitVec.toNat_and,Za Zbt,Za Zas,Zab Zb2,e,l0,h1]
   exact k1
end
end Go.Proofs.YtbldiceiindbdaaGreatDoor.base
