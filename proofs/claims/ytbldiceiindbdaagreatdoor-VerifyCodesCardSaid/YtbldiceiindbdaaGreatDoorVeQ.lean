/- This text proves what package verify's goes does: what may come next is known from then on, and is to be done. Condition: nothing is known of the calls ahead ('S f = []') but code.Name's names. -/
import Derived.Test.YtbldiceiindbdaaGreatDoorVeP
set_option linter.unusedVariables false
set_option linter.unusedSimpArgs false
set_option maxRecDepth 100000
namespace Go.Proofs.YtbldiceiindbdaaGreatDoor.base
open Go.Sh gen
variable {S:Zed}{m0 m:Mem}{wb mp fa:Nat}{p:Pr}{q:Pp}{f:Fn}{fp:Fp}{ta:Option Addr}{T:List Nat}
abbrev Kn:=Nat→Option (List Int)
def Zm6 (K:Kn)(t:Nat)(s:List Int):Kn:=fun x=>if x=t then some s else K x
def Zko (K:Kn)(out:List Int):List Int→Option Kn
 | []=>some K
 | t::r=>match K t.toNat with
  | some s=>if s=out then Zko K out r else none
  | none=>Zko (Zm6 K t.toNat out) out r
theorem Zu9 (K:Kn)(out:List Int)(t:Int)(r:List Int):Zko K out (t::r)=match K t.toNat with
  | some s=>if s=out then Zko K out r else none
  | none=>Zko (Zm6 K t.toNat out) out r:=rfl
theorem Zih {ao:Option Addr}{c:List Ix}{cf:Nat}(h:Rs m ao c.length (ixv c) 40 3 cf){i:Nat}(hi:i < c.length):∃ b,ao=some ⟨b,0,none⟩∧∀ m',Zao m m' []→loadRow m' ⟨b,i * 3,none⟩ 3=some [.int .i64 c[i].1,.int .i64 c[i].2.1,.int .i64 c[i].2.2]:=by
 obtain⟨b,rfl,hr⟩:=h.rdo (by omega)
 refine⟨b,rfl,fun m' k=>?_⟩
 rw [(hr.keep k (by simp)).load (off:=i * 3) 3 (by rw [Zq2];omega),Zxh hi]
structure Pl where
 a:Option Addr
 f:Nat
def gOf (K:Kn)(A:Nat→Pl)(x:Int):Option Value:=if 0≤x then (K x.toNat).map fun s=>.slice (A x.toNat).a s.length s.length else none
def Z0l (p:Pr)(q:Pp)(f:Fn)(fp:Fp)(mp:Nat):List Value:=p.row q++(f.row fp++[.map (some mp)])
structure WkS (m0 m:Mem)(wb mp:Nat)(p:Pr)(q:Pp)(f:Fn)(fp:Fp)(ta:Option Addr)(fa:Nat)(K:Kn)(D:Nat→Bool)(T:List Nat)(A:Nat→Pl):Prop where
 pr:Zmg m0 p q
 fn:Zwt m0 f fp
 k0:Zao m0 m []
 b0:m0.next≤wb∧m0.next≤mp∧(ta≠none→m0.next≤fa)
 h:HAt m wb (Z0l p q f fp mp) ta T fa
 mpo:Mp m mp (gOf K A)
 d0:wb≠mp∧(ta≠none→fa≠mp)
 row:∀ x s,K x=some s→Rs m (A x).a s.length (ic s) 3 1 (A x).f∧(s≠[]→(A x).f≠wb∧(A x).f≠mp∧(ta≠none→(A x).f≠fa))
 hp:Hp T.length (ku T)
 nd:T.Nodup
 tq:∀ x,x∈T↔(K x).isSome=true∧D x=false
 dk:∀ x,D x=true→(K x).isSome=true
 kin:∀ x,(K x).isSome=true→x < f.code.length
 kv:∀ x s,K x=some s→Val p.L s∧s.length≤60
section
variable {K:Kn}{D:Nat→Bool}{A:Nat→Pl}
theorem WkS.wa (h:WkS m0 m wb mp p q f fp ta fa K D T A):Wa m wb p q f fp:=
 ⟨h.pr.keep h.k0,h.fn.keep h.k0,⟨_,_,by have:=h.h.own;simpa [Z0l] using this⟩⟩
theorem WkS.keep (h:WkS m0 m wb mp p q f fp ta fa K D T A){m1:Mem}(k:Zao m m1 []):WkS m0 m1 wb mp p q f fp ta fa K D T A:=
 ⟨h.pr,h.fn,h.k0.trans k,h.b0,⟨h.h.own.keep k (by simp),h.h.len,h.h.sl.keep k (by simp),h.h.ne⟩,h.mpo.keep k (by simp),h.d0,fun x s e=>⟨(h.row x s e).1.keep k (by simp),(h.row x s e).2⟩,h.hp,h.nd,h.tq,h.dk,h.kin,h.kv⟩
theorem WkS.lm (h:WkS m0 m wb mp p q f fp ta fa K D T A):loadRow m ⟨wb,10,none⟩ 1=some [.map (some mp)]:=by
 refine h.h.own.load1 ?_
 rw [List.getElem?_append_left (by simp [Z0l,Pr.row,Fn.row])]
 simp [Z0l,Pr.row,Fn.row]
theorem WkS.tlen (h:WkS m0 m wb mp p q f fp ta fa K D T A):T.length≤f.code.length:=by
 have h1:T.Nodup:=h.nd
 have h2:T ⊆ List.range f.code.length:=fun x hx=>List.mem_range.2 (h.kin x ((h.tq x).1 hx).1)
 have:=h1.length_le_of_subset h2
 simpa using this
theorem WkS.add (hN:Nc S)(h:WkS m0 m wb mp p q f fp ta fa K D T A)(hc:f.code.length≤4000){t:Nat}(ht:t < f.code.length)(hk:K t=none){bo:Option Addr}{fo:Nat}{out:List Int}(ho:Rs m bo out.length (ic out) 3 1 fo)(hod:out≠[]→fo≠wb∧fo≠mp∧(ta≠none→fo≠fa))(hov:Val p.L out∧out.length≤60) :
  ∃ m1 v m2 ta' fa' T',Z4r Tryz.prog 3 m mp (t:Int) (.slice bo out.length out.length)=some m1∧loadRow m1 ⟨wb,11,none⟩ 1=loadRow m ⟨wb,11,none⟩ 1∧Zbi Tryz.prog TT S 79 [hif wb,.iface 3 (.int .i64 (t:Int))] m1=some (v,m2)∧WkS m0 m2 wb mp p q f fp ta' fa' (Zm6 K t out) D T' (fun x=>if x=t then ⟨bo,fo⟩ else A x)∧Rs m2 bo out.length (ic out) 3 1 fo∧(out≠[]→fo≠wb∧fo≠mp∧(ta'≠none→fo≠fa'))∧m.next≤m2.next∧(∀ fam,fam < m.next→fam≠wb→fam≠mp→(ta≠none→fam≠fa)→(ta'≠none→fam≠fa')∧∀ ao n cells e z,Rs m ao n cells e z fam→Rs m2 ao n cells e z fam):=by
 obtain⟨m1,r1,p1,k1,n1⟩:=Zvy (r:=_) rfl u3 h.mpo (k:=(t:Int)) (v:=.slice bo out.length out.length)
 have hT:=h.tlen
 have h1:HAt m1 wb (Z0l p q f fp mp) ta T fa:=⟨h.h.own.keep k1 (by simpa using h.d0.1),h.h.len,h.h.sl.keep k1 (fun hn=>by simpa using h.d0.2 hn),h.h.ne⟩
 obtain⟨v,m2,c2,⟨ta',fa',T',hpm,h2,hh2,hf⟩,k2⟩:=Zwe hN h1 (by omega) h.hp t
 have htn:t∉T:=fun hm=>by have:=((h.tq t).1 hm).1;rw [hk] at this;cases this
 have hmn:m0.next≤m.next:=h.k0.1
 have hn12:m.next≤m1.next:=k1.1
 have hwl:=h.h.own.flt
 have hml:=h.mpo.lt
 have hfa':ta'≠none→m0.next≤fa'∧fa'≠mp∧(out≠[]→fo≠fa')∧∀ x s,K x=some s→s≠[]→(A x).f≠fa':=by
  intro hn
  rcases hf with⟨h3,h4⟩ | h3
  ·rw [h4];exact⟨h.b0.2.2 h3,h.d0.2 h3,fun e=>(hod e).2.2 h3,fun x s e es=>((h.row x s e).2 es).2.2 h3⟩
  ·refine⟨by omega,by omega,fun e=>?_,fun x s e es=>?_⟩
   ·obtain⟨_,_,r⟩:=ho.rdo (by intro e0;exact e (List.length_eq_zero_iff.1 e0))
    have:=r.flt;omega
   ·obtain⟨_,_,r⟩:=(h.row x s e).1.rdo (by intro e0;exact es (List.length_eq_zero_iff.1 e0))
    have:=r.flt;omega
 have kmp:mp∉(if ta=none then [wb] else [wb,fa]):=by
  split
  ·simpa using h.d0.1.symm
  ·rename_i ha;simp;exact⟨h.d0.1.symm,fun e=>h.d0.2 ha e.symm⟩
 have krow:∀ {fam:Nat},fam≠wb→fam≠mp→(ta≠none→fam≠fa)→fam∉[mp]∧fam∉(if ta=none then [wb] else [wb,fa]):=by
  intro fam e1 e2 e3
  refine⟨by simpa using e2,?_⟩
  split
  ·simpa using e1
  ·rename_i ha;simp;exact⟨e1,e3 ha⟩
 have hput:Z34 (gOf K A) (t:Int) (some (.slice bo out.length out.length))=gOf (Zm6 K t out) (fun x=>if x=t then ⟨bo,fo⟩ else A x):=by
  funext x
  simp only [Z34,gOf,Zm6]
  by_cases e:x=(t:Int)
  ·subst e;simp
  ·rw [if_neg e]
   split
   ·rename_i h0
    have e':¬ x.toNat=t:=by omega
    simp [e']
   ·rfl
 have ho2:Rs m2 bo out.length (ic out) 3 1 fo:=by
  refine (ho.keep0 k1 (fun hn=>?_)).keep0 k2 (fun hn=>?_)
  ·have hne:out≠[]:=fun e=>hn (by rw [e];rfl)
   exact (krow (hod hne).1 (hod hne).2.1 (hod hne).2.2).1
  ·have hne:out≠[]:=fun e=>hn (by rw [e];rfl)
   exact (krow (hod hne).1 (hod hne).2.1 (hod hne).2.2).2
 have hod2:out≠[]→fo≠wb∧fo≠mp∧(ta'≠none→fo≠fa'):=fun e=>⟨(hod e).1,(hod e).2.1,fun hn=>(hfa' hn).2.2.1 e⟩
 have K0:Zao m0 m2 []:=by
  have b0:=h.b0
  refine (h.k0.fresh k1 (by simpa using b0.2.1)).fresh k2 (fun x hx=>?_)
  split at hx
  ·rw [List.mem_singleton.1 hx];exact b0.1
  ·rename_i ha
   rcases List.mem_cons.1 hx with e | e
   ·rw [e];exact b0.1
   ·rw [List.mem_singleton.1 e];exact b0.2.2 ha
 have hoth:∀ fam,fam < m.next→fam≠wb→fam≠mp→(ta≠none→fam≠fa)→(ta'≠none→fam≠fa')∧∀ ao n cells e z,Rs m ao n cells e z fam→Rs m2 ao n cells e z fam:=by
  intro fam hlt e1 e2 e3
  refine⟨fun hn=>?_,fun ao n cells e z hr=>(hr.keep k1 (krow e1 e2 e3).1).keep k2 (krow e1 e2 e3).2⟩
  rcases hf with⟨h3,h4⟩ | h3
  ·rw [h4];exact e3 h3
  ·omega
 refine⟨m1,v,m2,ta',fa',T',r1,?_,c2,⟨h.pr,h.fn,K0,⟨h.b0.1,h.b0.2.1,fun hn=>(hfa' hn).1⟩,h2,?_,⟨h.d0.1,fun hn=>(hfa' hn).2.1⟩,?_,hh2,?_,?_,?_,?_,?_⟩,ho2,hod2,Nat.le_trans k1.1 k2.1,hoth⟩
 ·rw [h1.ld,h.h.ld]
 ·rw [← hput];exact p1.keep k2 kmp
 ·intro x s e
  simp only [Zm6] at e
  by_cases ex:x=t
  ·subst ex
   rw [if_pos rfl] at e
   cases e
   rw [if_pos rfl]
   exact⟨ho2,hod2⟩
  ·rw [if_neg ex] at e
   rw [if_neg ex]
   obtain⟨r,rd⟩:=h.row x s e
   refine⟨(r.keep0 k1 (fun hn=>?_)).keep0 k2 (fun hn=>?_),fun es=>⟨(rd es).1,(rd es).2.1,fun hn=>(hfa' hn).2.2.2 x s e es⟩⟩
   ·have hne:s≠[]:=fun e=>hn (by rw [e];rfl)
    exact (krow (rd hne).1 (rd hne).2.1 (rd hne).2.2).1
   ·have hne:s≠[]:=fun e=>hn (by rw [e];rfl)
    exact (krow (rd hne).1 (rd hne).2.1 (rd hne).2.2).2
 ·refine hpm.nodup_iff.2 (List.nodup_append.2 ⟨h.nd,by simp,fun a ha b hb=>?_⟩)
  rw [List.mem_singleton.1 hb]
  exact fun e=>htn (e ▸ ha)
 ·intro x
  rw [hpm.mem_iff,List.mem_append,List.mem_singleton,h.tq]
  simp only [Zm6]
  by_cases ex:x=t
  ·subst ex
   have hD:D x=false:=by
    rcases e:D x with _ | _
    ·rfl
    ·have:=h.dk x e;rw [hk] at this;cases this
   simp [hD]
  ·simp [ex]
 ·intro x e
  simp only [Zm6]
  split
  ·rfl
  ·exact h.dk x e
 ·intro x e
  simp only [Zm6] at e
  by_cases ex:x=t
  ·rw [ex];exact ht
  ·rw [if_neg ex] at e;exact h.kin x e
 ·intro x s e
  simp only [Zm6] at e
  by_cases ex:x=t
  ·rw [if_pos ex] at e;cases e;exact hov
  ·rw [if_neg ex] at e;exact h.kv x s e
end
end Go.Proofs.YtbldiceiindbdaaGreatDoor.base
