/- This text proves what the document's fits, kind and both answer of what an instruction takes. Condition: nothing is known of the calls ahead ('S f = []'). -/
import Derived.Test.YtbldiceiindbdaaGreatDoorVrA
set_option linter.unusedVariables false
set_option linter.unusedSimpArgs false
set_option maxRecDepth 100000
namespace Go.Proofs.YtbldiceiindbdaaGreatDoor.base
open Go.Sh gen
variable {S:Zed}{m:Mem}{p:Pr}{q:Pp}{f:Fn}{fp:Fp}
theorem Z2m (hN:Nf S){to:Option Addr}{L:List Zb0.D}(h:Tb m to L){a b:Int}(ha:0≤a∧a < L.length)(hb:0≤b∧b < L.length):∃ m1,Zbi Tryz.prog TT S 84 [.slice to L.length L.length,.int .i64 a,.int .i64 b] m=some (.bool (Zpa L a b),m1)∧Zao m m1 []:=by
 obtain⟨i,rfl⟩:∃ i:Nat,a=i:=⟨a.toNat,by omega⟩
 obtain⟨j,rfl⟩:∃ i:Nat,b=i:=⟨b.toNat,by omega⟩
 obtain⟨_,m1,h1,rfl,k1⟩:=Zsn hN.r h (a:=i) (b:=j) (by omega) (by omega)
 exact⟨m1,h1,k1⟩
theorem Z4i (hN:Nf S){to:Option Addr}{L:List Zb0.D}(hR:Zdp L)(h:Tb m to L){a b:Int}(ha:Zgc L.length a)(hb:Zgc L.length b):∃ m1,Zbi Tryz.prog TT S 122 [.slice to L.length L.length,.int .i64 a,.int .i64 b] m=some (.bool (Zmj L a b),m1)∧Zao m m1 []:=by
 obtain⟨i,hi,ka,rfl,ea,a0,a4,ap,_⟩:=hR.kv ha
 obtain⟨j,hj,kb,rfl,eb,b0,b4,bp,_⟩:=hR.kv hb
 obtain⟨_,m1,h1,rfl,k1⟩:=Zwa hN.r h hi hj (by rw [ea];exact a4)
 refine⟨m1,?_,k1⟩
 rw [h1,Zq9 hi hj,ea,eb]
 by_cases e:i=j
 ·subst e
  simp [Zmj,a0,a4]
 ·have e':¬ (i:Int)=j:=by omega
  simp [Zmj,Zpa,e,e',a4]
def Zkh (p:Pr)(q:Pp)(lo:Option Addr)(n:Nat):List Value:=[.slice q.ta p.L.length p.L.length,.slice q.fa p.F.length p.F.length,.int .i64 p.main,.slice q.xa p.X.length p.X.length,.slice q.na p.nN p.nN,.slice lo n n]
theorem Zxd (hN:Nf S)(hR:Zdp p.L)(h:Zmg m p q){lo:Option Addr}{l:List Int}(hl:Iv m lo l)(hlv:Val p.L l)(hll:l.length≤1000){k:Nat}(hk:k < l.length){t:Int}(ht:Zgc p.L.length t):∃ m1,Zbi Tryz.prog TT S 80 [.agg (Zkh p q lo l.length).toArray,.int .i64 k,.int .i64 t] m=some (.bool (Zmj p.L (l.getD k 0) t),m1)∧Zao m m1 []:=by
 suffices hg:∃ v m1,Zbi Tryz.prog TT S 80 [.agg (Zkh p q lo l.length).toArray,.int .i64 k,.int .i64 t] m=some (v,m1)∧v=.bool (Zmj p.L (l.getD k 0) t)∧Zao m m1 [] by
  obtain⟨_,m1,h1,rfl,h2⟩:=hg
  exact⟨m1,h1,h2⟩
 obtain⟨o1,k1,n1⟩:=Za7 (m:=m) (cs:=Zkh p q lo l.length) (e:=156) rfl
 obtain⟨tb,htb⟩:∃ z,m.next=z:=⟨_,rfl⟩
 rw [htb] at o1 n1
 obtain⟨m1,hm1⟩:∃ z,m.new (Zkh p q lo l.length) 156=z:=⟨_,rfl⟩
 rw [hm1] at o1 k1 n1
 have l0:=o1.load1 (off:=0) rfl
 have l5:=o1.load1 (off:=5) rfl
 obtain⟨b,of,rfl,_,hld⟩:=(hl.keep k1).load (by intro e;rw [e] at hk;simp at hk)
 have lk:=hld k hk _ (Zaj _)
 have hv:=hlv _ (List.getElem_mem hk)
 have em:(k:Int)≤9223372036854775807:=by omega
 obtain⟨m2,h2,k2⟩:=Z4i (m:=m1) hN hR (h.keep k1).tb hv ht
 rw [gd hk]
 generalize l[k]=u at lk h2 ⊢
 simp only [Zkh] at hm1
 refine Zey 7 [] k80 hN.fits rfl ?_
 simp [-Int.natCast_add,-BitVec.toNat_or,-BitVec.toNat_ofInt,-BitVec.toNat_and,Zah Z61,Za Zu3,Za Zas,Zab Zb2,Za Zwm,Zab Zbe,Zaa u23 sz3,Zab ld3,Zkh,htb,hm1,l0,l5,em,hk,lk,h2]
 exact k1.trans k2
theorem Zw8 (hN:Nf S)(hR:Zdp p.L)(h:Zmg m p q){lo:Option Addr}{l:List Int}(hl:Iv m lo l)(hlv:Val p.L l)(hll:l.length≤1000){k:Nat}(hk:k < l.length):∃ m1,Zbi Tryz.prog TT S 82 [.agg (Zkh p q lo l.length).toArray,.int .i64 k] m=some (.int .i64 (Zdy p.L (l.getD k 0)),m1)∧Zao m m1 []:=by
 suffices hg:∃ v m1,Zbi Tryz.prog TT S 82 [.agg (Zkh p q lo l.length).toArray,.int .i64 k] m=some (v,m1)∧v=.int .i64 (Zdy p.L (l.getD k 0))∧Zao m m1 [] by
  obtain⟨_,m1,h1,rfl,h2⟩:=hg
  exact⟨m1,h1,h2⟩
 obtain⟨o1,k1,n1⟩:=Za7 (m:=m) (cs:=Zkh p q lo l.length) (e:=156) rfl
 obtain⟨tb,htb⟩:∃ z,m.next=z:=⟨_,rfl⟩
 rw [htb] at o1 n1
 obtain⟨m1,hm1⟩:∃ z,m.new (Zkh p q lo l.length) 156=z:=⟨_,rfl⟩
 rw [hm1] at o1 k1 n1
 have l0:=o1.load1 (off:=0) rfl
 have l5:=o1.load1 (off:=5) rfl
 obtain⟨b,of,rfl,_,hld⟩:=(hl.keep k1).load (by intro e;rw [e] at hk;simp at hk)
 have lk:=hld k hk _ (Zaj _)
 have hv:=hlv _ (List.getElem_mem hk)
 have em:(k:Int)≤9223372036854775807:=by omega
 rw [gd hk]
 obtain⟨i,hi,kk,ei,ek,_⟩:=hR.kv hv
 rw [ei] at lk ⊢
 rw [Zf1 hi,ek]
 obtain⟨tb2,ao,fa,bo,he,ty⟩:=(h.keep k1).tb.ty hi
 have ld:=ty.l0 _ (Zaj _)
 rw [ek] at ld
 have hLl:=h.tb.le
 have emi:(i:Int)≤9223372036854775807:=by omega
 simp only [Zkh] at hm1
 rw [he] at l0
 refine Zey 5 [] k82 hN.kind rfl ?_
 simp [-Int.natCast_add,-BitVec.toNat_or,-BitVec.toNat_ofInt,-BitVec.toNat_and,Zah Z61,Za Zu3,Za Zas,Zab Zb2,Za Zwm,Zab Zbe,Zaa u23 sz3,Zab ld3,Zaa u24 Zbn,Za Za3,Zkh,htb,hm1,l0,l5,em,hk,lk,emi,hi,ld]
 exact k1
theorem Zy0 (hN:Nf S)(hR:Zdp p.L)(h:Zmg m p q){a b:Int}(ha:Zgc p.L.length a)(hb:Zgc p.L.length b):∃ m1,Zbi Tryz.prog TT S 81 [.agg (p.row q).toArray,.int .i64 a,.int .i64 b] m=some (.bool (eqI p.L a b),m1)∧Zao m m1 []:=by
 suffices hg:∃ v m1,Zbi Tryz.prog TT S 81 [.agg (p.row q).toArray,.int .i64 a,.int .i64 b] m=some (v,m1)∧v=.bool (eqI p.L a b)∧Zao m m1 [] by
  obtain⟨_,m1,h1,rfl,h2⟩:=hg
  exact⟨m1,h1,h2⟩
 obtain⟨pb,m1,hpb,hm1,o1,k1,n1⟩:=Zke m p q
 have l0:=o1.load1 (off:=0) rfl
 obtain⟨m2,h2,k2⟩:=Z2m (m:=m1) hN (h.keep k1).tb (a:=a) (b:=b) ⟨by have:=ha.1;omega,ha.2.1⟩ ⟨by have:=hb.1;omega,hb.2.1⟩
 have l02:=(o1.keep k2 (by simp)).load1 (off:=0) rfl
 obtain⟨m3,h3,k3⟩:=Z2m (m:=m2) hN ((h.keep k1).keep k2).tb (a:=b) (b:=a) ⟨by have:=hb.1;omega,hb.2.1⟩ ⟨by have:=ha.1;omega,ha.2.1⟩
 simp only [Pr.row] at hm1
 refine Zey 7 [] k81 hN.both rfl ?_
 by_cases e:a=b
 ·subst e
  rw [Zvi] at h2 h3
  by_cases e3:a=3
  ·subst e3
   simp [-Int.natCast_add,-BitVec.toNat_or,-BitVec.toNat_ofInt,-BitVec.toNat_and,Zah b45,Za Zas,Zab Zb2,Pr.row,hpb,hm1,l0,h2,l02,h3,eqI]
   exact (k1.trans k2).trans k3
  ·simp [-Int.natCast_add,-BitVec.toNat_or,-BitVec.toNat_ofInt,-BitVec.toNat_and,Zah b45,Za Zas,Zab Zb2,Pr.row,hpb,hm1,l0,h2,l02,h3,eqI,e3]
   exact k1
 ·have e9:eqI p.L a b=(Zpa p.L a b || Zpa p.L b a):=by simp [eqI,e]
  rw [e9]
  rcases hh:Zpa p.L a b with _ | _
  ·rw [hh] at h2
   simp [-Int.natCast_add,-BitVec.toNat_or,-BitVec.toNat_ofInt,-BitVec.toNat_and,Zah b45,Za Zas,Zab Zb2,Pr.row,hpb,hm1,l0,h2,l02,h3,e]
   exact (k1.trans k2).trans k3
  ·rw [hh] at h2
   simp [-Int.natCast_add,-BitVec.toNat_or,-BitVec.toNat_ofInt,-BitVec.toNat_and,Zah b45,Za Zas,Zab Zb2,Pr.row,hpb,hm1,l0,h2,l02,h3,e]
   exact k1.trans k2
end Go.Proofs.YtbldiceiindbdaaGreatDoor.base
