/- This text proves what the document's small functions of chapter 9 answer: inList, ofKind, right, fits, kind, both, where. Condition: nothing is known of the calls ahead ('S f = []'). -/
import Derived.Test.YtbldiceiindbdaaGreatDoorVeV
set_option linter.unusedVariables false
set_option linter.unusedSimpArgs false
set_option maxRecDepth 100000
namespace Go.Proofs.YtbldiceiindbdaaGreatDoor.base
open Go.Sh gen
variable {S:Zed}{m:Mem}{p:Pr}{q:Pp}{f:Fn}{fp:Fp}
structure Nf (S:Zed):Prop where
 r:Nr S
 isref:S 51=[]
 inl:S 50=[]
 ofk:S 52=[]
 right:S 30=[]
 fits:S 80=[]
 kind:S 82=[]
 both:S 81=[]
 step:S 46=[]
 moves:S 16=[]
 same9:S 47=[]
 tgt:S 17=[]
 walk:S 27=[]
 where_:S 29=[]
 head:S 28=[]
 ver:S 19=[]
 value:S 49=[]
 val1:S 87=[]
 right1:S 48=[]
 rone:S 86=[]
 base1:S 7=[]
theorem Zxg (hS:S 50=[])(k n:Int):Zbi Tryz.prog TT S 50 [.int .i64 k,.int .i64 n] m=some (.bool (decide (0≤k∧k < n)),m):=by
 refine Zgh 5 [] k50 hS rfl ?_
 by_cases h1:0≤k
 ·simp [-Int.natCast_add,-BitVec.toNat_or,-BitVec.toNat_ofInt,-BitVec.toNat_and,id,h1]
 ·simp [-Int.natCast_add,-BitVec.toNat_or,-BitVec.toNat_ofInt,-BitVec.toNat_and,id,h1]
theorem Zrl (hN:Nf S)(h:Zmg m p q)(t k:Int)(hk:0≤k):∃ m1,Zbi Tryz.prog TT S 52 [.agg (p.row q).toArray,.int .i64 t,.int .i64 k] m=some (.bool (decide (Zdy p.L t=k)),m1)∧Zao m m1 []:=by
 suffices hg:∃ v m1,Zbi Tryz.prog TT S 52 [.agg (p.row q).toArray,.int .i64 t,.int .i64 k] m=some (v,m1)∧v=.bool (decide (Zdy p.L t=k))∧Zao m m1 [] by
  obtain⟨_,m1,h1,rfl,h2⟩:=hg
  exact⟨m1,h1,h2⟩
 obtain⟨pb,m1,hpb,hm1,o1,k1,n1⟩:=Zke m p q
 have l0:=o1.load1 (off:=0) rfl
 simp only [Pr.row] at hm1
 have bl:=fun m'=>Zxg (m:=m') hN.inl t (p.L.length:Int)
 refine Zey 7 [] k52 hN.ofk rfl ?_
 by_cases hin:0≤t∧t < p.L.length
 ·rw [decide_eq_true hin] at bl
  obtain⟨i,rfl⟩:∃ i:Nat,t=i:=⟨t.toNat,by omega⟩
  have hi:i < p.L.length:=by omega
  obtain⟨b,ao,fa,bo,he,ty⟩:=(h.keep k1).tb.ty hi
  have ld:=ty.l0 _ (Zaj _)
  have hLl:=h.tb.le
  have em:(i:Int)≤9223372036854775807:=by omega
  rw [Zf1 hi]
  obtain⟨x,hx⟩:∃ x:Int,p.L[i].1=x:=⟨_,rfl⟩
  rw [hx] at ld ⊢
  rw [he] at l0
  simp [-Int.natCast_add,-BitVec.toNat_or,-BitVec.toNat_ofInt,-BitVec.toNat_and,Zah b45,Za Zas,Zab Zb2,Zac u24,Zaa u24 Zbn,Za Za3,Zab ld3,Pr.row,hpb,hm1,l0,bl,em,hi,ld]
  exact k1
 ·rw [decide_eq_false hin] at bl
  have e:decide (Zdy p.L t=k)=false:=by rw [Zil hin];exact decide_eq_false (by omega)
  rw [e]
  simp [-Int.natCast_add,-BitVec.toNat_or,-BitVec.toNat_ofInt,-BitVec.toNat_and,Zah b45,Za Zas,Zab Zb2,Zac u24,Zaa u24 Zbn,Za Za3,Zab ld3,Pr.row,hpb,hm1,l0,bl]
  exact k1
def Zgr (p:Pr)(nl:Nat)(x:Ix):Int:=
 if ¬ (1≤x.1∧x.1≤41)∨Zda p x=false then 30 else if (x.1=5∨x.1=6)∧inB x.2.1 nl=false then 33 else 0
set_option maxHeartbeats 4000000 in
theorem Ztx (hN:Nf S)(h:Zmg m p q)(x:Ix):∃ v m1,Zbi Tryz.prog TT S 30 [.agg (p.row q).toArray,.agg (f.row fp).toArray,.agg #[.int .i64 x.1,.int .i64 x.2.1,.int .i64 x.2.2]] m=some (v,m1)∧v=.int .i64 (Zgr p f.ls.length x)∧Zao m m1 []:=by
 obtain⟨op,a,b⟩:=x
 obtain⟨pb,m1,hpb,hm1,o1,k1,n1⟩:=Zke m p q
 obtain⟨o2,k2,n2⟩:=Za7 (m:=m1) (cs:=f.row fp) (e:=37) rfl
 obtain⟨gb,hgb⟩:∃ z,m1.next=z:=⟨_,rfl⟩
 rw [hgb] at o2 n2
 obtain⟨m2,hm2⟩:∃ z,m1.new (f.row fp) 37=z:=⟨_,rfl⟩
 rw [hm2] at o2 k2 n2
 obtain⟨o3,k3,n3⟩:=Za7 (m:=m2) (cs:=[.int .i64 op,.int .i64 a,.int .i64 b]) (e:=40) rfl
 obtain⟨xb,hxb⟩:∃ z,m2.next=z:=⟨_,rfl⟩
 rw [hxb] at o3 n3
 obtain⟨m3,hm3⟩:∃ z,m2.new [.int .i64 op,.int .i64 a,.int .i64 b] 40=z:=⟨_,rfl⟩
 rw [hm3] at o3 k3 n3
 have K3:=(k1.trans k2).trans k3
 have hp3:=h.keep K3
 have o13:=(o1.keep k2 (by simp)).keep k3 (by simp)
 have o23:=o2.keep k3 (by simp)
 have x0:=o3.load1 (off:=0) rfl
 have x1:=o3.load1 (off:=1) rfl
 have x2:=o3.load1 (off:=2) rfl
 have p0:=o13.load1 (off:=0) rfl
 have p1:=o13.load1 (off:=1) rfl
 have p3:=o13.load1 (off:=3) rfl
 have p4:=o13.load1 (off:=4) rfl
 have f3:=o23.load1 (off:=3) rfl
 have pl:=o13.load (off:=0) 5 (by simp [Pr.row])
 simp only [Pr.row,Fn.row] at hm1 hm2 pl
 simp [Zb] at pl
 have bl:=fun m' k n=>Zxg (m:=m') hN.inl k n
 have ob:∀ v:Bool,v=true∨v=false:=by intro v;cases v <;> simp
 refine Zey 10 [18,26,26,37,45,52,52,59,65,86,104,114,114,121,138] k30 hN.right rfl ?_
 simp only []
 have rv:∀ op,(1≤op∧op≤41)→op≠5→op≠6→Zgr p f.ls.length (op,a,b)=if Zda p (op,a,b)=true then 0 else 30:=by
  intro op h1 h2 h3
  unfold Zgr
  rcases ho:Zda p (op,a,b) with _ | _
  ·rw [if_pos (Or.inr rfl)];rfl
  ·rw [if_neg (by rintro (h | h);exact h h1;cases h),if_neg (by rintro⟨h | h,_⟩;exact h2 h;exact h3 h)];rfl
 by_cases e1:op=1
 ·subst e1
  rw [rv 1 (by omega) (by decide) (by decide)]
  have ho:Zda p (1,a,b)=decide (0≤a∧a < (p.nN:Int)):=by simp [Zda,inB]
  rw [ho]
  rcases hv:decide (0≤a∧a < (p.nN:Int)) with _ | _
  all_goals
   have b1:=fun m'=>(bl m' a (p.nN:Int)).trans (by rw [hv])
   simp [-Int.natCast_add,-BitVec.toNat_or,-BitVec.toNat_ofInt,-BitVec.toNat_and,Zah b45,Zah b37,Zah b40,Za Zak,Zab ld3,Za Zal,Za Zb7,Zab Zez,Zac u43,Za Za2,Zab Zcr,Zac u42,Za Zas,Zab Zb2,Zae Zbx,Za Zan,Zab Zbw,Zac u41,Za Za0,Zaa u41 Za5,Za Zav,Zab Zbe,Zac u23,Za Zat,Pr.row,Fn.row,hpb,hm1,hgb,hm2,hxb,hm3,x0,x1,x2,p4,b1]
   exact K3
 by_cases e3:op=3
 ·subst e3
  rw [rv 3 (by omega) (by decide) (by decide)]
  have ho:Zda p (3,a,b)=decide (0≤a∧a < (p.X.length:Int)):=by simp [Zda,inB]
  rw [ho]
  rcases hv:decide (0≤a∧a < (p.X.length:Int)) with _ | _
  all_goals
   have b1:=fun m'=>(bl m' a (p.X.length:Int)).trans (by rw [hv])
   simp [-Int.natCast_add,-BitVec.toNat_or,-BitVec.toNat_ofInt,-BitVec.toNat_and,Zah b45,Zah b37,Zah b40,Za Zak,Zab ld3,Za Zal,Za Zb7,Zab Zez,Zac u43,Za Za2,Zab Zcr,Zac u42,Za Zas,Zab Zb2,Zae Zbx,Za Zan,Zab Zbw,Zac u41,Za Za0,Zaa u41 Za5,Za Zav,Zab Zbe,Zac u23,Za Zat,Pr.row,Fn.row,hpb,hm1,hgb,hm2,hxb,hm3,x0,x1,x2,p3,b1]
   exact K3
 by_cases e28:op=28
 ·subst e28
  rw [rv 28 (by omega) (by decide) (by decide)]
  have ho:Zda p (28,a,b)=decide (0≤a∧a < (12:Int)):=by simp [Zda,inB]
  rw [ho]
  rcases hv:decide (0≤a∧a < (12:Int)) with _ | _
  all_goals
   have b1:=fun m'=>(bl m' a 12).trans (by rw [hv])
   simp [-Int.natCast_add,-BitVec.toNat_or,-BitVec.toNat_ofInt,-BitVec.toNat_and,Zah b45,Zah b37,Zah b40,Za Zak,Zab ld3,Za Zal,Za Zb7,Zab Zez,Zac u43,Za Za2,Zab Zcr,Zac u42,Za Zas,Zab Zb2,Zae Zbx,Za Zan,Zab Zbw,Zac u41,Za Za0,Zaa u41 Za5,Za Zav,Zab Zbe,Zac u23,Za Zat,Pr.row,Fn.row,hpb,hm1,hgb,hm2,hxb,hm3,x0,x1,x2,b1]
   exact K3
 by_cases e29:op=29
 ·subst e29
  rw [rv 29 (by omega) (by decide) (by decide)]
  have ho:Zda p (29,a,b)=decide (0≤a∧a < (12:Int)):=by simp [Zda,inB]
  rw [ho]
  rcases hv:decide (0≤a∧a < (12:Int)) with _ | _
  all_goals
   have b1:=fun m'=>(bl m' a 12).trans (by rw [hv])
   simp [-Int.natCast_add,-BitVec.toNat_or,-BitVec.toNat_ofInt,-BitVec.toNat_and,Zah b45,Zah b37,Zah b40,Za Zak,Zab ld3,Za Zal,Za Zb7,Zab Zez,Zac u43,Za Za2,Zab Zcr,Zac u42,Za Zas,Zab Zb2,Zae Zbx,Za Zan,Zab Zbw,Zac u41,Za Za0,Zaa u41 Za5,Za Zav,Zab Zbe,Zac u23,Za Zat,Pr.row,Fn.row,hpb,hm1,hgb,hm2,hxb,hm3,x0,x1,x2,b1]
   exact K3
 by_cases e2:op=2
 ·subst e2
  rw [rv 2 (by omega) (by decide) (by decide)]
  have ho:Zda p (2,a,b)=decide (a=0∨a=1):=by simp [Zda]
  rw [ho]
  by_cases a0:a=0
  ·subst a0
   simp [-Int.natCast_add,-BitVec.toNat_or,-BitVec.toNat_ofInt,-BitVec.toNat_and,Zah b45,Zah b37,Zah b40,Za Zak,Zab ld3,Za Zal,Za Zb7,Zab Zez,Zac u43,Za Za2,Zab Zcr,Zac u42,Za Zas,Zab Zb2,Zae Zbx,Za Zan,Zab Zbw,Zac u41,Za Za0,Zaa u41 Za5,Za Zav,Zab Zbe,Zac u23,Za Zat,Pr.row,Fn.row,hpb,hm1,hgb,hm2,hxb,hm3,x0,x1,x2]
   exact K3
  ·by_cases a1:a=1
   ·subst a1
    simp [-Int.natCast_add,-BitVec.toNat_or,-BitVec.toNat_ofInt,-BitVec.toNat_and,Zah b45,Zah b37,Zah b40,Za Zak,Zab ld3,Za Zal,Za Zb7,Zab Zez,Zac u43,Za Za2,Zab Zcr,Zac u42,Za Zas,Zab Zb2,Zae Zbx,Za Zan,Zab Zbw,Zac u41,Za Za0,Zaa u41 Za5,Za Zav,Zab Zbe,Zac u23,Za Zat,Pr.row,Fn.row,hpb,hm1,hgb,hm2,hxb,hm3,x0,x1,x2]
    exact K3
   ·simp [-Int.natCast_add,-BitVec.toNat_or,-BitVec.toNat_ofInt,-BitVec.toNat_and,Zah b45,Zah b37,Zah b40,Za Zak,Zab ld3,Za Zal,Za Zb7,Zab Zez,Zac u43,Za Za2,Zab Zcr,Zac u42,Za Zas,Zab Zb2,Zae Zbx,Za Zan,Zab Zbw,Zac u41,Za Za0,Zaa u41 Za5,Za Zav,Zab Zbe,Zac u23,Za Zat,Pr.row,Fn.row,hpb,hm1,hgb,hm2,hxb,hm3,x0,x1,x2,a0,a1]
    exact K3
 by_cases e41:op=41
 ·subst e41
  rw [rv 41 (by omega) (by decide) (by decide)]
  have ho:Zda p (41,a,b)=decide (a=0∨a=1):=by simp [Zda]
  rw [ho]
  by_cases a0:a=0
  ·subst a0
   simp [-Int.natCast_add,-BitVec.toNat_or,-BitVec.toNat_ofInt,-BitVec.toNat_and,Zah b45,Zah b37,Zah b40,Za Zak,Zab ld3,Za Zal,Za Zb7,Zab Zez,Zac u43,Za Za2,Zab Zcr,Zac u42,Za Zas,Zab Zb2,Zae Zbx,Za Zan,Zab Zbw,Zac u41,Za Za0,Zaa u41 Za5,Za Zav,Zab Zbe,Zac u23,Za Zat,Pr.row,Fn.row,hpb,hm1,hgb,hm2,hxb,hm3,x0,x1,x2]
   exact K3
  ·by_cases a1:a=1
   ·subst a1
    simp [-Int.natCast_add,-BitVec.toNat_or,-BitVec.toNat_ofInt,-BitVec.toNat_and,Zah b45,Zah b37,Zah b40,Za Zak,Zab ld3,Za Zal,Za Zb7,Zab Zez,Zac u43,Za Za2,Zab Zcr,Zac u42,Za Zas,Zab Zb2,Zae Zbx,Za Zan,Zab Zbw,Zac u41,Za Za0,Zaa u41 Za5,Za Zav,Zab Zbe,Zac u23,Za Zat,Pr.row,Fn.row,hpb,hm1,hgb,hm2,hxb,hm3,x0,x1,x2]
    exact K3
   ·simp [-Int.natCast_add,-BitVec.toNat_or,-BitVec.toNat_ofInt,-BitVec.toNat_and,Zah b45,Zah b37,Zah b40,Za Zak,Zab ld3,Za Zal,Za Zb7,Zab Zez,Zac u43,Za Za2,Zab Zcr,Zac u42,Za Zas,Zab Zb2,Zae Zbx,Za Zan,Zab Zbw,Zac u41,Za Za0,Zaa u41 Za5,Za Zav,Zab Zbe,Zac u23,Za Zat,Pr.row,Fn.row,hpb,hm1,hgb,hm2,hxb,hm3,x0,x1,x2,a0,a1]
    exact K3
 by_cases e4:op=4
 ·subst e4
  rw [rv 4 (by omega) (by decide) (by decide)]
  have ho:Zda p (4,a,b)=Zun p.L a:=by simp [Zda]
  rw [ho]
  have h4:=Zue (m:=m3) hN.isref hN.r.inn hp3.tb a
  rcases hv:Zun p.L a with _ | _
  all_goals
   rw [hv] at h4
   simp [-Int.natCast_add,-BitVec.toNat_or,-BitVec.toNat_ofInt,-BitVec.toNat_and,Zah b45,Zah b37,Zah b40,Za Zak,Zab ld3,Za Zal,Za Zb7,Zab Zez,Zac u43,Za Za2,Zab Zcr,Zac u42,Za Zas,Zab Zb2,Zae Zbx,Za Zan,Zab Zbw,Zac u41,Za Za0,Zaa u41 Za5,Za Zav,Zab Zbe,Zac u23,Za Zat,Pr.row,Fn.row,hpb,hm1,hgb,hm2,hxb,hm3,x0,x1,x2,p0,h4]
   exact K3
 by_cases e34:op=34
 ·subst e34
  rw [rv 34 (by omega) (by decide) (by decide)]
  have ho:Zda p (34,a,b)=decide (Zdy p.L a=5):=by simp [Zda]
  rw [ho]
  obtain⟨m4,h4,k4⟩:=Zrl (m:=m3) hN hp3 a 5 (by omega)
  simp only [Pr.row] at h4
  have y0:=(o3.keep k4 (by simp)).load1 (off:=0) rfl
  rcases hv:decide (Zdy p.L a=5) with _ | _
  all_goals
   rw [hv] at h4
   simp [-Int.natCast_add,-BitVec.toNat_or,-BitVec.toNat_ofInt,-BitVec.toNat_and,Zah b45,Zah b37,Zah b40,Za Zak,Zab ld3,Za Zal,Za Zb7,Zab Zez,Zac u43,Za Za2,Zab Zcr,Zac u42,Za Zas,Zab Zb2,Zae Zbx,Za Zan,Zab Zbw,Zac u41,Za Za0,Zaa u41 Za5,Za Zav,Zab Zbe,Zac u23,Za Zat,Pr.row,Fn.row,hpb,hm1,hgb,hm2,hxb,hm3,x0,x1,x2,pl,h4,y0]
   exact K3.trans k4
 by_cases e38:op=38
 ·subst e38
  rw [rv 38 (by omega) (by decide) (by decide)]
  have ho:Zda p (38,a,b)=decide (Zdy p.L a=5):=by simp [Zda]
  rw [ho]
  obtain⟨m4,h4,k4⟩:=Zrl (m:=m3) hN hp3 a 5 (by omega)
  simp only [Pr.row] at h4
  have y0:=(o3.keep k4 (by simp)).load1 (off:=0) rfl
  rcases hv:decide (Zdy p.L a=5) with _ | _
  all_goals
   rw [hv] at h4
   simp [-Int.natCast_add,-BitVec.toNat_or,-BitVec.toNat_ofInt,-BitVec.toNat_and,Zah b45,Zah b37,Zah b40,Za Zak,Zab ld3,Za Zal,Za Zb7,Zab Zez,Zac u43,Za Za2,Zab Zcr,Zac u42,Za Zas,Zab Zb2,Zae Zbx,Za Zan,Zab Zbw,Zac u41,Za Za0,Zaa u41 Za5,Za Zav,Zab Zbe,Zac u23,Za Zat,Pr.row,Fn.row,hpb,hm1,hgb,hm2,hxb,hm3,x0,x1,x2,pl,h4,y0]
   exact K3.trans k4
 by_cases e35:op=35
 ·subst e35
  rw [rv 35 (by omega) (by decide) (by decide)]
  have ho:Zda p (35,a,b)=decide (Zdy p.L a=6):=by simp [Zda]
  rw [ho]
  obtain⟨m4,h4,k4⟩:=Zrl (m:=m3) hN hp3 a 6 (by omega)
  simp only [Pr.row] at h4
  have y0:=(o3.keep k4 (by simp)).load1 (off:=0) rfl
  rcases hv:decide (Zdy p.L a=6) with _ | _
  all_goals
   rw [hv] at h4
   simp [-Int.natCast_add,-BitVec.toNat_or,-BitVec.toNat_ofInt,-BitVec.toNat_and,Zah b45,Zah b37,Zah b40,Za Zak,Zab ld3,Za Zal,Za Zb7,Zab Zez,Zac u43,Za Za2,Zab Zcr,Zac u42,Za Zas,Zab Zb2,Zae Zbx,Za Zan,Zab Zbw,Zac u41,Za Za0,Zaa u41 Za5,Za Zav,Zab Zbe,Zac u23,Za Zat,Pr.row,Fn.row,hpb,hm1,hgb,hm2,hxb,hm3,x0,x1,x2,pl,h4,y0]
   exact K3.trans k4
 by_cases e36:op=36
 ·subst e36
  rw [rv 36 (by omega) (by decide) (by decide)]
  have ho:Zda p (36,a,b)=(decide (0≤a∧a < (p.F.length:Int)) && decide (b=Zl0 p.F a)):=by simp [Zda,inB]
  rw [ho]
  by_cases hin:0≤a∧a < (p.F.length:Int)
  ·have b1:=fun m'=>(bl m' a (p.F.length:Int)).trans (by rw [decide_eq_true hin])
   obtain⟨i,rfl⟩:∃ i:Nat,a=i:=⟨a.toNat,by omega⟩
   have hi:i < p.F.length:=by omega
   obtain⟨fb,fq,he,hfn,hld⟩:=hp3.fs.one hi
   rw [he] at p1
   have l9:=(hld _ (Zaj _)).2.1
   have hle:=hp3.fs.le
   have em:(i:Int)≤9223372036854775807:=by omega
   have e9:Zl0 p.F (i:Int)=p.F[i].ps.length:=by simp [Zl0,List.getD_eq_getElem?_getD,hi]
   rw [e9,decide_eq_true hin]
   by_cases hb:b=(p.F[i].ps.length:Int)
   ·subst hb
    simp [-Int.natCast_add,-BitVec.toNat_or,-BitVec.toNat_ofInt,-BitVec.toNat_and,Zah b45,Zah b37,Zah b40,Za Zak,Zab ld3,Za Zal,Za Zb7,Zab Zez,Zac u43,Za Za2,Zab Zcr,Zac u42,Za Zas,Zab Zb2,Zae Zbx,Za Zan,Zab Zbw,Zac u41,Za Za0,Zaa u41 Za5,Za Zav,Zab Zbe,Zac u23,Za Zat,Pr.row,Fn.row,hpb,hm1,hgb,hm2,hxb,hm3,x0,x1,x2,p1,b1,em,hi,l9]
    exact K3
   ·simp [-Int.natCast_add,-BitVec.toNat_or,-BitVec.toNat_ofInt,-BitVec.toNat_and,Zah b45,Zah b37,Zah b40,Za Zak,Zab ld3,Za Zal,Za Zb7,Zab Zez,Zac u43,Za Za2,Zab Zcr,Zac u42,Za Zas,Zab Zb2,Zae Zbx,Za Zan,Zab Zbw,Zac u41,Za Za0,Zaa u41 Za5,Za Zav,Zab Zbe,Zac u23,Za Zat,Pr.row,Fn.row,hpb,hm1,hgb,hm2,hxb,hm3,x0,x1,x2,p1,b1,em,hi,l9,hb]
    exact K3
  ·have b1:=fun m'=>(bl m' a (p.F.length:Int)).trans (by rw [decide_eq_false hin])
   rw [decide_eq_false hin]
   simp [-Int.natCast_add,-BitVec.toNat_or,-BitVec.toNat_ofInt,-BitVec.toNat_and,Zah b45,Zah b37,Zah b40,Za Zak,Zab ld3,Za Zal,Za Zb7,Zab Zez,Zac u43,Za Za2,Zab Zcr,Zac u42,Za Zas,Zab Zb2,Zae Zbx,Za Zan,Zab Zbw,Zac u41,Za Za0,Zaa u41 Za5,Za Zav,Zab Zbe,Zac u23,Za Zat,Pr.row,Fn.row,hpb,hm1,hgb,hm2,hxb,hm3,x0,x1,x2,p1,b1]
   exact K3
 by_cases e37:op=37
 ·subst e37
  rw [rv 37 (by omega) (by decide) (by decide)]
  have ho:Zda p (37,a,b)=(decide (0≤a∧a < (p.X.length:Int)) && decide (1≤b∧b≤8)):=by simp [Zda,inB]
  rw [ho]
  rcases hv:decide (0≤a∧a < (p.X.length:Int)) with _ | _
  ·have b1:=fun m'=>(bl m' a (p.X.length:Int)).trans (by rw [hv])
   simp [-Int.natCast_add,-BitVec.toNat_or,-BitVec.toNat_ofInt,-BitVec.toNat_and,Zah b45,Zah b37,Zah b40,Za Zak,Zab ld3,Za Zal,Za Zb7,Zab Zez,Zac u43,Za Za2,Zab Zcr,Zac u42,Za Zas,Zab Zb2,Zae Zbx,Za Zan,Zab Zbw,Zac u41,Za Za0,Zaa u41 Za5,Za Zav,Zab Zbe,Zac u23,Za Zat,Pr.row,Fn.row,hpb,hm1,hgb,hm2,hxb,hm3,x0,x1,x2,p3,b1]
   exact K3
  ·have b1:=fun m'=>(bl m' a (p.X.length:Int)).trans (by rw [hv])
   by_cases h1:1≤b
   ·by_cases h8:b≤8
    ·simp [-Int.natCast_add,-BitVec.toNat_or,-BitVec.toNat_ofInt,-BitVec.toNat_and,Zah b45,Zah b37,Zah b40,Za Zak,Zab ld3,Za Zal,Za Zb7,Zab Zez,Zac u43,Za Za2,Zab Zcr,Zac u42,Za Zas,Zab Zb2,Zae Zbx,Za Zan,Zab Zbw,Zac u41,Za Za0,Zaa u41 Za5,Za Zav,Zab Zbe,Zac u23,Za Zat,Pr.row,Fn.row,hpb,hm1,hgb,hm2,hxb,hm3,x0,x1,x2,p3,b1,h1,h8]
     exact K3
    ·simp [-Int.natCast_add,-BitVec.toNat_or,-BitVec.toNat_ofInt,-BitVec.toNat_and,Zah b45,Zah b37,Zah b40,Za Zak,Zab ld3,Za Zal,Za Zb7,Zab Zez,Zac u43,Za Za2,Zab Zcr,Zac u42,Za Zas,Zab Zb2,Zae Zbx,Za Zan,Zab Zbw,Zac u41,Za Za0,Zaa u41 Za5,Za Zav,Zab Zbe,Zac u23,Za Zat,Pr.row,Fn.row,hpb,hm1,hgb,hm2,hxb,hm3,x0,x1,x2,p3,b1,h1,h8]
     exact K3
   ·simp [-Int.natCast_add,-BitVec.toNat_or,-BitVec.toNat_ofInt,-BitVec.toNat_and,Zah b45,Zah b37,Zah b40,Za Zak,Zab ld3,Za Zal,Za Zb7,Zab Zez,Zac u43,Za Za2,Zab Zcr,Zac u42,Za Zas,Zab Zb2,Zae Zbx,Za Zan,Zab Zbw,Zac u41,Za Za0,Zaa u41 Za5,Za Zav,Zab Zbe,Zac u23,Za Zat,Pr.row,Fn.row,hpb,hm1,hgb,hm2,hxb,hm3,x0,x1,x2,p3,b1,h1]
    exact K3
 by_cases e39:op=39
 ·subst e39
  rw [rv 39 (by omega) (by decide) (by decide)]
  have ho:Zda p (39,a,b)=decide (1≤a∧a≤3):=by simp [Zda]
  rw [ho]
  by_cases h1:1≤a
  ·by_cases h8:a≤3
   ·simp [-Int.natCast_add,-BitVec.toNat_or,-BitVec.toNat_ofInt,-BitVec.toNat_and,Zah b45,Zah b37,Zah b40,Za Zak,Zab ld3,Za Zal,Za Zb7,Zab Zez,Zac u43,Za Za2,Zab Zcr,Zac u42,Za Zas,Zab Zb2,Zae Zbx,Za Zan,Zab Zbw,Zac u41,Za Za0,Zaa u41 Za5,Za Zav,Zab Zbe,Zac u23,Za Zat,Pr.row,Fn.row,hpb,hm1,hgb,hm2,hxb,hm3,x0,x1,x2,h1,h8]
    exact K3
   ·simp [-Int.natCast_add,-BitVec.toNat_or,-BitVec.toNat_ofInt,-BitVec.toNat_and,Zah b45,Zah b37,Zah b40,Za Zak,Zab ld3,Za Zal,Za Zb7,Zab Zez,Zac u43,Za Za2,Zab Zcr,Zac u42,Za Zas,Zab Zb2,Zae Zbx,Za Zan,Zab Zbw,Zac u41,Za Za0,Zaa u41 Za5,Za Zav,Zab Zbe,Zac u23,Za Zat,Pr.row,Fn.row,hpb,hm1,hgb,hm2,hxb,hm3,x0,x1,x2,h1,h8]
    exact K3
  ·simp [-Int.natCast_add,-BitVec.toNat_or,-BitVec.toNat_ofInt,-BitVec.toNat_and,Zah b45,Zah b37,Zah b40,Za Zak,Zab ld3,Za Zal,Za Zb7,Zab Zez,Zac u43,Za Za2,Zab Zcr,Zac u42,Za Zas,Zab Zb2,Zae Zbx,Za Zan,Zab Zbw,Zac u41,Za Za0,Zaa u41 Za5,Za Zav,Zab Zbe,Zac u23,Za Zat,Pr.row,Fn.row,hpb,hm1,hgb,hm2,hxb,hm3,x0,x1,x2,h1]
   exact K3
 have ho:Zda p (op,a,b)=true:=by simp [Zda, *]
 by_cases hop:1≤op∧op≤41
 case neg =>
  have e:Zgr p f.ls.length (op,a,b)=30:=by unfold Zgr;rw [if_pos (Or.inl hop)]
  rw [e]
  by_cases h1:1≤op
  ·have h2:¬ op < 42:=by omega
   simp [-Int.natCast_add,-BitVec.toNat_or,-BitVec.toNat_ofInt,-BitVec.toNat_and,Zah b45,Zah b37,Zah b40,Za Zak,Zab ld3,Za Zal,Za Zb7,Zab Zez,Zac u43,Za Za2,Zab Zcr,Zac u42,Za Zas,Zab Zb2,Zae Zbx,Za Zan,Zab Zbw,Zac u41,Za Za0,Zaa u41 Za5,Za Zav,Zab Zbe,Zac u23,Za Zat,Pr.row,Fn.row,hpb,hm1,hgb,hm2,hxb,hm3,x0,x1,x2,e1,e2,e3,e4,e28,e29,e34,e35,e36,e37,e38,e39,e41,h1,h2]
   exact K3
  ·simp [-Int.natCast_add,-BitVec.toNat_or,-BitVec.toNat_ofInt,-BitVec.toNat_and,Zah b45,Zah b37,Zah b40,Za Zak,Zab ld3,Za Zal,Za Zb7,Zab Zez,Zac u43,Za Za2,Zab Zcr,Zac u42,Za Zas,Zab Zb2,Zae Zbx,Za Zan,Zab Zbw,Zac u41,Za Za0,Zaa u41 Za5,Za Zav,Zab Zbe,Zac u23,Za Zat,Pr.row,Fn.row,hpb,hm1,hgb,hm2,hxb,hm3,x0,x1,x2,e1,e2,e3,e4,e28,e29,e34,e35,e36,e37,e38,e39,e41,h1]
   exact K3
 obtain⟨h1,h41⟩:=hop
 have h2:op < 42:=by omega
 by_cases d5:op=5∨op=6
 ·rcases hv:decide (0≤a∧a < (f.ls.length:Int)) with _ | _
  ·have b1:=fun m'=>(bl m' a (f.ls.length:Int)).trans (by rw [hv])
   have e:Zgr p f.ls.length (op,a,b)=33:=by
    unfold Zgr
    rw [if_neg (by rintro (h | h);exact h ⟨h1,h41⟩;rw [ho] at h;cases h),if_pos ⟨d5,hv⟩]
   rw [e]
   rcases d5 with d | d <;> (subst d;simp [-Int.natCast_add,-BitVec.toNat_or,-BitVec.toNat_ofInt,-BitVec.toNat_and,Zah b45,Zah b37,Zah b40,Za Zak,Zab ld3,Za Zal,Za Zb7,Zab Zez,Zac u43,Za Za2,Zab Zcr,Zac u42,Za Zas,Zab Zb2,Zae Zbx,Za Zan,Zab Zbw,Zac u41,Za Za0,Zaa u41 Za5,Za Zav,Zab Zbe,Zac u23,Za Zat,Pr.row,Fn.row,hpb,hm1,hgb,hm2,hxb,hm3,x0,x1,x2,f3,b1];exact K3)
  ·have b1:=fun m'=>(bl m' a (f.ls.length:Int)).trans (by rw [hv])
   have e:Zgr p f.ls.length (op,a,b)=0:=by
    unfold Zgr
    rw [if_neg (by rintro (h | h);exact h ⟨h1,h41⟩;rw [ho] at h;cases h),if_neg (by rintro⟨_,h⟩;rw [show inB a f.ls.length=true from hv] at h;cases h)]
   rw [e]
   rcases d5 with d | d <;> (subst d;simp [-Int.natCast_add,-BitVec.toNat_or,-BitVec.toNat_ofInt,-BitVec.toNat_and,Zah b45,Zah b37,Zah b40,Za Zak,Zab ld3,Za Zal,Za Zb7,Zab Zez,Zac u43,Za Za2,Zab Zcr,Zac u42,Za Zas,Zab Zb2,Zae Zbx,Za Zan,Zab Zbw,Zac u41,Za Za0,Zaa u41 Za5,Za Zav,Zab Zbe,Zac u23,Za Zat,Pr.row,Fn.row,hpb,hm1,hgb,hm2,hxb,hm3,x0,x1,x2,f3,b1];exact K3)
 ·simp only [not_or] at d5
  rw [rv op ⟨h1,h41⟩ d5.1 d5.2,ho]
  simp [-Int.natCast_add,-BitVec.toNat_or,-BitVec.toNat_ofInt,-BitVec.toNat_and,Zah b45,Zah b37,Zah b40,Za Zak,Zab ld3,Za Zal,Za Zb7,Zab Zez,Zac u43,Za Za2,Zab Zcr,Zac u42,Za Zas,Zab Zb2,Zae Zbx,Za Zan,Zab Zbw,Zac u41,Za Za0,Zaa u41 Za5,Za Zav,Zab Zbe,Zac u23,Za Zat,Pr.row,Fn.row,hpb,hm1,hgb,hm2,hxb,hm3,x0,x1,x2,e1,e2,e3,e4,e28,e29,e34,e35,e36,e37,e38,e39,e41,h1,h2,d5.1,d5.2]
  exact K3
end Go.Proofs.YtbldiceiindbdaaGreatDoor.base
