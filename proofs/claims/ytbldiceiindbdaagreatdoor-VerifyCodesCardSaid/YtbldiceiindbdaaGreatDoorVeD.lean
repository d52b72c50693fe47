/- This text proves what package verify's static, takes, method and lays answer. Condition: nothing is known of the calls ahead ('S f = []') but code.Name's names. -/
import Derived.Test.YtbldiceiindbdaaGreatDoorVeC
set_option linter.unusedVariables false
set_option linter.unusedSimpArgs false
set_option maxRecDepth 100000
namespace Go.Proofs.YtbldiceiindbdaaGreatDoor.base
open Go.Sh gen
variable {S:Zed}{m:Mem}{wb:Nat}{p:Pr}{q:Pp}{f:Fn}{fp:Fp}
theorem Zsu (op:Int):Zdj op=[]↔¬ (1≤op∧op≤41):=by
 unfold Zdj
 constructor
 ·intro h hin
  rw [if_pos hin] at h
  have:∀ k:Fin 42,1≤k.val→Z6v.getD k.val []≠[]:=by decide
  exact this ⟨op.toNat,by omega⟩ (by simp only;omega) h
 ·intro h
  rw [if_neg h]
set_option maxHeartbeats 2000000 in
theorem Zyl (hN:Nw S)(hNm:S 72=nmL)(h:Wa m wb p q f fp)(x:Ix){pc:Nat}(hpc:pc < 1000000)(hfl:f.ls.length≤1000)(hfc:f.code.length≤1000000):∃ m1,Zbi Tryz.prog TT S 41 [.pointer (some ⟨wb,0,none⟩),.agg #[.int .i64 x.1,.int .i64 x.2.1,.int .i64 x.2.2],.int .i64 pc] m=some (.int .i64 (Zfe p f.ls.length f.code.length x pc),m1)∧Zao m m1 []:=by
 suffices hg:∃ v m1,Zbi Tryz.prog TT S 41 [.pointer (some ⟨wb,0,none⟩),.agg #[.int .i64 x.1,.int .i64 x.2.1,.int .i64 x.2.2],.int .i64 pc] m=some (v,m1)∧v=.int .i64 (Zfe p f.ls.length f.code.length x pc)∧Zao m m1 [] by
  obtain⟨_,m1,h1,rfl,h2⟩:=hg
  exact⟨m1,h1,h2⟩
 obtain⟨op,a,b⟩:=x
 obtain⟨o1,k1,n1⟩:=Za7 (m:=m) (cs:=[.int .i64 op,.int .i64 a,.int .i64 b]) (e:=40) rfl
 obtain⟨xb,hxb⟩:∃ xb,m.next=xb:=⟨_,rfl⟩
 rw [hxb] at o1 n1
 obtain⟨m1,hm1⟩:∃ mF,m.new [.int .i64 op,.int .i64 a,.int .i64 b] 40=mF:=⟨_,rfl⟩
 rw [hm1] at o1 k1 n1
 have w:=h.keep k1
 obtain⟨m2,h2,k2⟩:=Zzw hN w (op,a,b)
 have w2:=w.keep k2
 have o2:=o1.keep k2 (by simp)
 have x0:=o1.load1 (off:=0) rfl
 have xa:=o1.load (off:=0) 3 (by simp)
 simp [Zb] at xa
 have y0:=o2.load1 (off:=0) rfl
 have y1:=o2.load1 (off:=1) rfl
 have l8:=w2.l8
 have l9:=w2.l9
 have bl:=fun m' k n=>Zl9 (m:=m') hN.below k n
 have nm:=fun m'=>Zzk (m:=m') hNm op
 have wpc:IntKind.i64.wrap ((pc:Int)+1)=((pc+1:Nat):Int):=by rw [Zbh (by omega) (by omega)];omega
 have hlast:(((pc+1:Nat):Int)=(f.code.length:Int))↔pc+1=f.code.length:=by omega
 simp only at h2
 refine Zey 7 [16,36,56,75] k41 hN.stat rfl ?_
 simp only []
 by_cases hop:1≤op∧op≤41
 case neg =>
  rw [(Zsu op).2 hop] at nm
  have e:Zfe p f.ls.length f.code.length (op,a,b) pc=30:=by unfold Zfe;rw [if_pos (Or.inl hop)]
  simp [-Int.natCast_add,-BitVec.toNat_or,-BitVec.toNat_ofInt,-BitVec.toNat_and,Zah b40,Za Zak,Zab ld3,Zae Zcb,Za Zal,Za Zbm,Za Zat,Zab Zbe,Zac u23,Za Zbl,Zab Zde,Zac u22,hxb,hm1,x0,nm,e]
  exact k1
 have hne:¬ Zdj op=[]:=fun e=>(Zsu op).1 e hop
 have hie:List.isEmpty (Zdj op)=false:=by
  obtain⟨z,hz⟩:∃ z,Zdj op=z:=⟨_,rfl⟩
  rw [hz] at hne ⊢
  cases z <;> simp_all
 have hie2:(Zdj op == [])=false:=by
  obtain⟨z,hz⟩:∃ z,Zdj op=z:=⟨_,rfl⟩
  rw [hz] at hne ⊢
  cases z <;> simp_all
 obtain⟨nn,hnn⟩:∃ z,Zdj op=z:=⟨_,rfl⟩
 rw [hnn] at nm hne hie hie2
 rcases ho:Zda p (op,a,b) with _ | _
 ·rw [ho] at h2
  have e:Zfe p f.ls.length f.code.length (op,a,b) pc=30:=by unfold Zfe;rw [if_pos (Or.inr ho)]
  simp [-Int.natCast_add,-BitVec.toNat_or,-BitVec.toNat_ofInt,-BitVec.toNat_and,Zah b40,Za Zak,Zab ld3,Zae Zcb,Za Zal,Za Zbm,Za Zat,Zab Zbe,Zac u23,Za Zbl,Zab Zde,Zac u22,hxb,hm1,x0,nm,hne,hie,hie2,xa,h2,e]
  exact k1.trans k2
 rw [ho] at h2
 have e0:¬ (¬ (1≤op∧op≤41)∨Zda p (op,a,b)=false):=by rintro (h | h);exact h hop;rw [ho] at h;cases h
 have K:=k1.trans k2
 unfold Zfe
 rw [if_neg e0]
 simp only []
 by_cases c1:(op=5∨op=6)∧inB a f.ls.length=false
 ·have bl1:=fun m'=>(bl m' a (f.ls.length:Int)).trans (by rw [show decide _=false from c1.2])
  rw [if_pos c1]
  rcases c1.1 with e | e
  ·subst e
   simp [-Int.natCast_add,-BitVec.toNat_or,-BitVec.toNat_ofInt,-BitVec.toNat_and,Zah b40,Za Zak,Zab ld3,Zae Zcb,Za Zal,Za Zbm,Za Zat,Zab Zbe,Zac u23,Za Zbl,Zab Zde,Zac u22,hxb,hm1,x0,nm,hne,hie,hie2,xa,h2,y0,y1,l8,bl1]
   exact K
  ·subst e
   simp [-Int.natCast_add,-BitVec.toNat_or,-BitVec.toNat_ofInt,-BitVec.toNat_and,Zah b40,Za Zak,Zab ld3,Zae Zcb,Za Zal,Za Zbm,Za Zat,Zab Zbe,Zac u23,Za Zbl,Zab Zde,Zac u22,hxb,hm1,x0,nm,hne,hie,hie2,xa,h2,y0,y1,l8,bl1]
   exact K
 rw [if_neg c1]
 by_cases c2:(op=26∨op=27)∧inB a f.code.length=false
 ·have bl1:=fun m'=>(bl m' a (f.code.length:Int)).trans (by rw [show decide _=false from c2.2])
  rw [if_pos c2]
  rcases c2.1 with e | e
  ·subst e
   simp [-Int.natCast_add,-BitVec.toNat_or,-BitVec.toNat_ofInt,-BitVec.toNat_and,Zah b40,Za Zak,Zab ld3,Zae Zcb,Za Zal,Za Zbm,Za Zat,Zab Zbe,Zac u23,Za Zbl,Zab Zde,Zac u22,hxb,hm1,x0,nm,hne,hie,hie2,xa,h2,y0,y1,l8,l9,bl1]
   exact K
  ·subst e
   simp [-Int.natCast_add,-BitVec.toNat_or,-BitVec.toNat_ofInt,-BitVec.toNat_and,Zah b40,Za Zak,Zab ld3,Zae Zcb,Za Zal,Za Zbm,Za Zat,Zab Zbe,Zac u23,Za Zbl,Zab Zde,Zac u22,hxb,hm1,x0,nm,hne,hie,hie2,xa,h2,y0,y1,l8,l9,bl1]
   exact K
 rw [if_neg c2]
 have b5:(op=5∨op=6)→∀ m',Zbi Tryz.prog TT S 45 [.int .i64 a,.int .i64 f.ls.length] m'=some (.bool true,m'):=fun e m'=>(bl m' a _).trans (by
  have:inB a f.ls.length=true:=by rcases hh:inB a f.ls.length with _ | _;exact absurd ⟨e,hh⟩ c1;rfl
  rw [show decide _=true from this])
 have b6:(op=26∨op=27)→∀ m',Zbi Tryz.prog TT S 45 [.int .i64 a,.int .i64 f.code.length] m'=some (.bool true,m'):=fun e m'=>(bl m' a _).trans (by
  have:inB a f.code.length=true:=by rcases hh:inB a f.code.length with _ | _;exact absurd ⟨e,hh⟩ c2;rfl
  rw [show decide _=true from this])
 by_cases d5:op=5
 ·subst d5
  have g:=b5 (Or.inl rfl)
  by_cases c3:pc+1=f.code.length
  ·have c3':=hlast.2 c3
   simp [-Int.natCast_add,-BitVec.toNat_or,-BitVec.toNat_ofInt,-BitVec.toNat_and,Zah b40,Za Zak,Zab ld3,Zae Zcb,Za Zal,Za Zbm,Za Zat,Zab Zbe,Zac u23,Za Zbl,Zab Zde,Zac u22,hxb,hm1,x0,nm,hne,hie,hie2,xa,h2,y0,y1,l8,l9,g,wpc,c3,c3'];exact K
  ·have c3':¬ (((pc+1:Nat):Int)=(f.code.length:Int)):=fun e=>c3 (hlast.1 e)
   simp [-Int.natCast_add,-BitVec.toNat_or,-BitVec.toNat_ofInt,-BitVec.toNat_and,Zah b40,Za Zak,Zab ld3,Zae Zcb,Za Zal,Za Zbm,Za Zat,Zab Zbe,Zac u23,Za Zbl,Zab Zde,Zac u22,hxb,hm1,x0,nm,hne,hie,hie2,xa,h2,y0,y1,l8,l9,g,wpc,c3,c3'];exact K
 by_cases d6:op=6
 ·subst d6
  have g:=b5 (Or.inr rfl)
  by_cases c3:pc+1=f.code.length
  ·have c3':=hlast.2 c3
   simp [-Int.natCast_add,-BitVec.toNat_or,-BitVec.toNat_ofInt,-BitVec.toNat_and,Zah b40,Za Zak,Zab ld3,Zae Zcb,Za Zal,Za Zbm,Za Zat,Zab Zbe,Zac u23,Za Zbl,Zab Zde,Zac u22,hxb,hm1,x0,nm,hne,hie,hie2,xa,h2,y0,y1,l8,l9,g,wpc,c3,c3'];exact K
  ·have c3':¬ (((pc+1:Nat):Int)=(f.code.length:Int)):=fun e=>c3 (hlast.1 e)
   simp [-Int.natCast_add,-BitVec.toNat_or,-BitVec.toNat_ofInt,-BitVec.toNat_and,Zah b40,Za Zak,Zab ld3,Zae Zcb,Za Zal,Za Zbm,Za Zat,Zab Zbe,Zac u23,Za Zbl,Zab Zde,Zac u22,hxb,hm1,x0,nm,hne,hie,hie2,xa,h2,y0,y1,l8,l9,g,wpc,c3,c3'];exact K
 by_cases d26:op=26
 ·subst d26
  have g:=b6 (Or.inl rfl)
  by_cases c3:pc+1=f.code.length
  ·have c3':=hlast.2 c3
   simp [-Int.natCast_add,-BitVec.toNat_or,-BitVec.toNat_ofInt,-BitVec.toNat_and,Zah b40,Za Zak,Zab ld3,Zae Zcb,Za Zal,Za Zbm,Za Zat,Zab Zbe,Zac u23,Za Zbl,Zab Zde,Zac u22,hxb,hm1,x0,nm,hne,hie,hie2,xa,h2,y0,y1,l8,l9,g,wpc,c3,c3'];exact K
  ·have c3':¬ (((pc+1:Nat):Int)=(f.code.length:Int)):=fun e=>c3 (hlast.1 e)
   simp [-Int.natCast_add,-BitVec.toNat_or,-BitVec.toNat_ofInt,-BitVec.toNat_and,Zah b40,Za Zak,Zab ld3,Zae Zcb,Za Zal,Za Zbm,Za Zat,Zab Zbe,Zac u23,Za Zbl,Zab Zde,Zac u22,hxb,hm1,x0,nm,hne,hie,hie2,xa,h2,y0,y1,l8,l9,g,wpc,c3,c3'];exact K
 by_cases d27:op=27
 ·subst d27
  have g:=b6 (Or.inr rfl)
  by_cases c3:pc+1=f.code.length
  ·have c3':=hlast.2 c3
   simp [-Int.natCast_add,-BitVec.toNat_or,-BitVec.toNat_ofInt,-BitVec.toNat_and,Zah b40,Za Zak,Zab ld3,Zae Zcb,Za Zal,Za Zbm,Za Zat,Zab Zbe,Zac u23,Za Zbl,Zab Zde,Zac u22,hxb,hm1,x0,nm,hne,hie,hie2,xa,h2,y0,y1,l8,l9,g,wpc,c3,c3'];exact K
  ·have c3':¬ (((pc+1:Nat):Int)=(f.code.length:Int)):=fun e=>c3 (hlast.1 e)
   simp [-Int.natCast_add,-BitVec.toNat_or,-BitVec.toNat_ofInt,-BitVec.toNat_and,Zah b40,Za Zak,Zab ld3,Zae Zcb,Za Zal,Za Zbm,Za Zat,Zab Zbe,Zac u23,Za Zbl,Zab Zde,Zac u22,hxb,hm1,x0,nm,hne,hie,hie2,xa,h2,y0,y1,l8,l9,g,wpc,c3,c3'];exact K
 by_cases c3:pc+1=f.code.length
 ·have c3':=hlast.2 c3
  by_cases d41:op=41
  ·subst d41
   simp [-Int.natCast_add,-BitVec.toNat_or,-BitVec.toNat_ofInt,-BitVec.toNat_and,Zah b40,Za Zak,Zab ld3,Zae Zcb,Za Zal,Za Zbm,Za Zat,Zab Zbe,Zac u23,Za Zbl,Zab Zde,Zac u22,hxb,hm1,x0,nm,hne,hie,hie2,xa,h2,y0,y1,l8,l9,wpc,c3,c3'];exact K
  ·simp [-Int.natCast_add,-BitVec.toNat_or,-BitVec.toNat_ofInt,-BitVec.toNat_and,Zah b40,Za Zak,Zab ld3,Zae Zcb,Za Zal,Za Zbm,Za Zat,Zab Zbe,Zac u23,Za Zbl,Zab Zde,Zac u22,hxb,hm1,x0,nm,hne,hie,hie2,xa,h2,y0,y1,l8,l9,wpc,c3,c3',d5,d6,d26,d27,d41];exact K
 ·have c3':¬ (((pc+1:Nat):Int)=(f.code.length:Int)):=fun e=>c3 (hlast.1 e)
  simp [-Int.natCast_add,-BitVec.toNat_or,-BitVec.toNat_ofInt,-BitVec.toNat_and,Zah b40,Za Zak,Zab ld3,Zae Zcb,Za Zal,Za Zbm,Za Zat,Zab Zbe,Zac u23,Za Zbl,Zab Zde,Zac u22,hxb,hm1,x0,nm,hne,hie,hie2,xa,h2,y0,y1,l8,l9,wpc,c3,c3',d5,d6,d26,d27];exact K
def Zcp (x:Ix):Int:=if x.1=36∨x.1=37 then x.2.2 else if x.1=41 then x.2.1 else (Zba x.1).1
theorem Zv8 (hN:Nw S)(x:Ix):∃ m1,Zbi Tryz.prog TT S 75 [.agg #[.int .i64 x.1,.int .i64 x.2.1,.int .i64 x.2.2]] m=some (.int .i64 (Zcp x),m1)∧Zao m m1 []:=by
 suffices hg:∃ v m1,Zbi Tryz.prog TT S 75 [.agg #[.int .i64 x.1,.int .i64 x.2.1,.int .i64 x.2.2]] m=some (v,m1)∧v=.int .i64 (Zcp x)∧Zao m m1 [] by
  obtain⟨_,m1,h1,rfl,h2⟩:=hg
  exact⟨m1,h1,h2⟩
 obtain⟨op,a,b⟩:=x
 obtain⟨o1,k1,n1⟩:=Za7 (m:=m) (cs:=[.int .i64 op,.int .i64 a,.int .i64 b]) (e:=40) rfl
 obtain⟨xb,hxb⟩:∃ xb,m.next=xb:=⟨_,rfl⟩
 rw [hxb] at o1 n1
 obtain⟨m1,hm1⟩:∃ mF,m.new [.int .i64 op,.int .i64 a,.int .i64 b] 40=mF:=⟨_,rfl⟩
 rw [hm1] at o1 k1 n1
 have x0:=o1.load1 (off:=0) rfl
 have x1:=o1.load1 (off:=1) rfl
 have x2:=o1.load1 (off:=2) rfl
 have mv:=fun m'=>Zqr (m:=m') hN.moves op
 refine Zey 8 [8,8,13] k75 hN.takes rfl ?_
 simp only []
 by_cases e1:op=36
 ·subst e1
  simp [-Int.natCast_add,-BitVec.toNat_or,-BitVec.toNat_ofInt,-BitVec.toNat_and,Zah b40,Za Zak,Zab ld3,Za Za0,Za Zal,hxb,hm1,x0,x2,Zcp];exact k1
 by_cases e2:op=37
 ·subst e2
  simp [-Int.natCast_add,-BitVec.toNat_or,-BitVec.toNat_ofInt,-BitVec.toNat_and,Zah b40,Za Zak,Zab ld3,Za Za0,Za Zal,hxb,hm1,x0,x2,Zcp];exact k1
 by_cases e3:op=41
 ·subst e3
  simp [-Int.natCast_add,-BitVec.toNat_or,-BitVec.toNat_ofInt,-BitVec.toNat_and,Zah b40,Za Zak,Zab ld3,Za Za0,Za Zal,hxb,hm1,x0,x1,Zcp];exact k1
 obtain⟨z,hz⟩:∃ z,Zba op=z:=⟨_,rfl⟩
 simp only [hz] at mv
 simp [-Int.natCast_add,-BitVec.toNat_or,-BitVec.toNat_ofInt,-BitVec.toNat_and,Zah b40,Za Zak,Zab ld3,Za Za0,Za Zal,hxb,hm1,x0,x1,Zcp,mv,hz,e1,e2,e3];exact k1
def Zh7 (L:List Zb0.D)(nm:List UInt8)(t:Int):Option Zdz.D:=match L[t.toNat]? with
 | some x=>if x.1=7∧0≤Zd4 nm (tM x) 0 then (tM x)[(Zd4 nm (tM x) 0).toNat]? else none
 | none=>none
def Z4g (m:Mem)(r:Option Zdz.D)(c:List Value)(b:Bool):Prop:=match r with
 | none=>c=[.string ⟨#[]⟩,.slice none 0 0,.int .i64 0,.int .i64 0]∧b=false
 | some y=>∃ po f,c=[.string ⟨y.1.toArray⟩,.slice po y.2.1.length y.2.1.length,.int .i64 y.2.2.1,.int .i64 y.2.2.2.1]∧Rs m po y.2.1.length ((show List Int from y.2.1).map (Value.int .i64)) 3 1 f∧b=true
theorem Zls {xa:Option Addr}{X:List (List UInt8)}{f:Nat}(h:Rs m xa X.length (X.map fun x=>Value.string ⟨x.toArray⟩) 9 1 f){i:Nat}(hi:i < X.length):∃ b,xa=some ⟨b,0,none⟩∧∀ m',Zao m m' []→loadRow m' ⟨b,i,none⟩ 1=some [.string ⟨X[i].toArray⟩]:=by
 obtain⟨b,rfl,hr⟩:=h.rdo (by omega)
 exact⟨b,rfl,fun m' k=>(hr.keep k (by simp)).load1 (by simp [hi])⟩
set_option maxHeartbeats 1000000 in
theorem Zqw (hN:Nw S)(hR:Zdp p.L)(h:Wa m wb p q f fp)(x:Ix){t:Int}(ht:Zgc p.L.length t)(hx:0≤x.2.1∧x.2.1 < p.X.length)(hxl:p.X.length≤100000):∃ c b m1,Zbi Tryz.prog TT S 120 [.pointer (some ⟨wb,0,none⟩),.agg #[.int .i64 x.1,.int .i64 x.2.1,.int .i64 x.2.2],.int .i64 t] m=some (.tuple #[.agg (List.toArray c),.bool b],m1)∧Z4g m1 (Zh7 p.L (p.X.getD x.2.1.toNat []) t) c b∧Zao m m1 []:=by
 suffices hg:∃ v m1,Zbi Tryz.prog TT S 120 [.pointer (some ⟨wb,0,none⟩),.agg #[.int .i64 x.1,.int .i64 x.2.1,.int .i64 x.2.2],.int .i64 t] m=some (v,m1)∧(∃ c b,v=.tuple #[.agg (List.toArray c),.bool b]∧Z4g m1 (Zh7 p.L (p.X.getD x.2.1.toNat []) t) c b)∧Zao m m1 [] by
  obtain⟨_,m1,h1,⟨c,b,rfl,h2⟩,h3⟩:=hg
  exact⟨c,b,m1,h1,h2,h3⟩
 obtain⟨op,a,b⟩:=x
 simp only at hx
 obtain⟨ai,rfl⟩:∃ i:Nat,a=i:=⟨a.toNat,by omega⟩
 have hai:ai < p.X.length:=by omega
 obtain⟨i,hi,kk,rfl,ek,k0,k4,kp,k3,_⟩:=hR.kv ht
 obtain⟨o1,k1,n1⟩:=Za7 (m:=m) (cs:=[.int .i64 op,.int .i64 ai,.int .i64 b]) (e:=40) rfl
 obtain⟨xb,hxb⟩:∃ xb,m.next=xb:=⟨_,rfl⟩
 rw [hxb] at o1 n1
 obtain⟨m1,hm1⟩:∃ mF,m.new [.int .i64 op,.int .i64 ai,.int .i64 b] 40=mF:=⟨_,rfl⟩
 rw [hm1] at o1 k1 n1
 obtain⟨o2,k2,n2⟩:=Za7 (m:=m1) (cs:=[.string ⟨#[]⟩,.slice none 0 0,.int .i64 0,.int .i64 0]) (e:=30) rfl
 obtain⟨rb,hrb⟩:∃ xb,m1.next=xb:=⟨_,rfl⟩
 rw [hrb] at o2 n2
 obtain⟨m2,hm2⟩:∃ mF,m1.new [.string ⟨#[]⟩,.slice none 0 0,.int .i64 0,.int .i64 0] 30=mF:=⟨_,rfl⟩
 rw [hm2] at o2 k2 n2
 have w2:=h.keep (k1.trans k2)
 have x1:=(o1.keep k2 (by simp)).load1 (off:=1) rfl
 have l0:=w2.l0
 have l3:=w2.l3
 obtain⟨tb,hxa,hxt⟩:=Zls w2.pr.xs hai
 rw [hxa] at l3
 have lt:=hxt _ (Zaj _)
 have emx:(ai:Int)≤9223372036854775807:=by omega
 have hget:p.X.getD (ai:Int).toNat []=p.X[ai]:=by simp [List.getD_eq_getElem?_getD,hai]
 obtain⟨nm,hnm⟩:∃ z,p.X[ai]=z:=⟨_,rfl⟩
 rw [hnm] at lt hget
 obtain⟨_,m3,h3,hcase,k3'⟩:=Zsp hN.h.meth hN.h.of hN.h.idx hN.h.is w2.pr.tb hi nm
 have w3:=w2.keep k3'
 obtain⟨v,hv,hv1,_⟩:=Zju hN.wkind hN.below w3 (i:Int)
 have hv:Zbi Tryz.prog TT S 114 [.pointer (some ⟨wb,0,none⟩),.int .i64 i] m3=some (.int .i64 kk,m3):=by rw [hv,hv1 i hi rfl,ek]
 have o3:=o2.keep k3' (by simp)
 have K13:=k2.trans k3'
 refine Zey 10 [36] Z8n hN.meth rfl ?_
 simp only []
 have hmI:Zh7 p.L (p.X.getD (ai:Int).toNat []) (i:Int)=if kk=7∧0≤Zd4 nm (tM p.L[i]) 0 then (tM p.L[i])[(Zd4 nm (tM p.L[i]) 0).toNat]? else none:=by
  unfold Zh7
  rw [Int.toNat_natCast,List.getElem?_eq_getElem hi]
  simp only [hget,ek]
 rw [hmI]
 rcases hcase with⟨j,h57,hj,hfj,rfl⟩ | ⟨hfn,rfl⟩
 ·by_cases h7:kk=7
  ·subst h7
   have e:(if (7:Int)=7∧0≤Zd4 nm (tM p.L[i]) 0 then (tM p.L[i])[(Zd4 nm (tM p.L[i]) 0).toNat]? else none)=some (tM p.L[i])[j]:=by
    rw [show Zd4 nm (tM p.L[i]) 0=(j:Int) from hfj,if_pos ⟨rfl,by omega⟩,Int.toNat_natCast,List.getElem?_eq_getElem hj]
   rw [e]
   obtain⟨tb2,ao,ff,bo,het,ty⟩:=h.pr.tb.ty hi
   have l03:=w3.l0
   rw [het] at l03 l0 h3
   have l4:=ty.l4 _ (k1.trans K13)
   obtain⟨mb,po,pf,rfl,hp,hld⟩:=ty.ms.one hj
   have lm:=(hld _ (k1.trans K13)).1
   have hLl:=w3.pr.tb.le
   have emi:(i:Int)≤9223372036854775807:=by omega
   have emj:(j:Int)≤9223372036854775807:=by have h9:(tM p.L[i]).length≤9223372036854775807:=ty.ms.le;have h8:j < (tM p.L[i]).length:=hj;omega
   have hj':j < (tM p.L[i]).length:=hj
   obtain⟨A,hA⟩:∃ z,tM p.L[i]=z:=⟨_,rfl⟩
   simp only [hA] at l4 lm hj' hp ⊢
   obtain⟨y,hy⟩:∃ z,A[j]=z:=⟨_,rfl⟩
   simp only [hy] at lm hp ⊢
   simp [-Int.natCast_add,-BitVec.toNat_or,-BitVec.toNat_ofInt,-BitVec.toNat_and,Zbj Zc6,Zah b40,Zag Zcw,Za Zbt,Za Zas,Zab Zb2,Za Za2,Zab Zcr,Za Zal,Zab ld3,Zaa u42 sz9,Zab ld9,Zai Zhz,Zaf Zbd,Zaa u24 Zbn,Za Zaq,Zab Zb1,Zaa u31 Zbd,Zae Zc6,hxb,hm1,hrb,hm2,x1,l0,l3,emx,hai,lt,h3,hv,l03,emi,hi,l4,emj,hj',lm]
   generalize hra:Za8 _ _ _=ra
   obtain⟨m4,rfl,o4,k4'⟩:=Za4 hra o3 (by simp) (by simp [Zbk,Zco,Zbp])
   simp [Zdh] at o4
   have lz:=o4.load (off:=0) 4 (by simp)
   simp [Zb] at lz
   have K:Zao m1 m4 []:=K13.fresh k4' (by have:=k1.1;simp;omega)
   simp [-Int.natCast_add,-BitVec.toNat_or,-BitVec.toNat_ofInt,-BitVec.toNat_and,Zbj Zc6,Zah b40,Zag Zcw,Za Zbt,Za Zas,Zab Zb2,Za Za2,Zab Zcr,Za Zal,Zab ld3,Zaa u42 sz9,Zab ld9,Zai Zhz,Zaf Zbd,Zaa u24 Zbn,Za Zaq,Zab Zb1,Zaa u31 Zbd,Zae Zc6,lz,Zbj]
   exact⟨⟨po,pf,rfl,hp.keep (k1.trans K) (by simp),rfl⟩,k1.trans K⟩
  ·have e:(if kk=7∧0≤Zd4 nm (tM p.L[i]) 0 then (tM p.L[i])[(Zd4 nm (tM p.L[i]) 0).toNat]? else none)=none:=if_neg (fun h=>h7 h.1)
   rw [e]
   simp [-Int.natCast_add,-BitVec.toNat_or,-BitVec.toNat_ofInt,-BitVec.toNat_and,Zbj Zc6,Zah b40,Zag Zcw,Za Zbt,Za Zas,Zab Zb2,Za Za2,Zab Zcr,Za Zal,Zab ld3,Zaa u42 sz9,Zab ld9,Zai Zhz,Zaf Zbd,Zaa u24 Zbn,Za Zaq,Zab Zb1,Zaa u31 Zbd,Zae Zc6,hxb,hm1,hrb,hm2,x1,l0,l3,emx,hai,lt,h3,hv,h7]
   generalize hra:Za8 _ _ _=ra
   obtain⟨m4,rfl,o4,k4'⟩:=Za4 hra o3 (by simp) (by simp [Zbk,Zco,Zbp])
   simp [Zdh] at o4
   have lz:=o4.load (off:=0) 4 (by simp)
   simp [Zb] at lz
   have K:Zao m1 m4 []:=K13.fresh k4' (by have:=k1.1;simp;omega)
   simp [-Int.natCast_add,-BitVec.toNat_or,-BitVec.toNat_ofInt,-BitVec.toNat_and,Zbj Zc6,Zah b40,Zag Zcw,Za Zbt,Za Zas,Zab Zb2,Za Za2,Zab Zcr,Za Zal,Zab ld3,Zaa u42 sz9,Zab ld9,Zai Zhz,Zaf Zbd,Zaa u24 Zbn,Za Zaq,Zab Zb1,Zaa u31 Zbd,Zae Zc6,lz,Zbj]
   exact⟨⟨rfl,rfl⟩,k1.trans K⟩
 ·have e:(if kk=7∧0≤Zd4 nm (tM p.L[i]) 0 then (tM p.L[i])[(Zd4 nm (tM p.L[i]) 0).toNat]? else none)=none:=by
   rw [if_neg]
   rintro⟨h7,h0⟩
   rcases hfn with h | h
   ·exact h (Or.inr (by rw [ek,h7]))
   ·rw [show Zd4 nm (tM p.L[i]) 0=-1 from h] at h0;exact absurd h0 (by decide)
  rw [e]
  simp [-Int.natCast_add,-BitVec.toNat_or,-BitVec.toNat_ofInt,-BitVec.toNat_and,Zbj Zc6,Zah b40,Zag Zcw,Za Zbt,Za Zas,Zab Zb2,Za Za2,Zab Zcr,Za Zal,Zab ld3,Zaa u42 sz9,Zab ld9,Zai Zhz,Zaf Zbd,Zaa u24 Zbn,Za Zaq,Zab Zb1,Zaa u31 Zbd,Zae Zc6,hxb,hm1,hrb,hm2,x1,l0,l3,emx,hai,lt,h3]
  generalize hra:Za8 _ _ _=ra
  obtain⟨m4,rfl,o4,k4'⟩:=Za4 hra o3 (by simp) (by simp [Zbk,Zco,Zbp])
  simp [Zdh] at o4
  have lz:=o4.load (off:=0) 4 (by simp)
  simp [Zb] at lz
  have K:Zao m1 m4 []:=K13.fresh k4' (by have:=k1.1;simp;omega)
  simp [-Int.natCast_add,-BitVec.toNat_or,-BitVec.toNat_ofInt,-BitVec.toNat_and,Zbj Zc6,Zah b40,Zag Zcw,Za Zbt,Za Zas,Zab Zb2,Za Za2,Zab Zcr,Za Zal,Zab ld3,Zaa u42 sz9,Zab ld9,Zai Zhz,Zaf Zbd,Zaa u24 Zbn,Za Zaq,Zab Zb1,Zaa u31 Zbd,Zae Zc6,lz,Zbj]
  exact⟨⟨rfl,rfl⟩,k1.trans K⟩
end Go.Proofs.YtbldiceiindbdaaGreatDoor.base
