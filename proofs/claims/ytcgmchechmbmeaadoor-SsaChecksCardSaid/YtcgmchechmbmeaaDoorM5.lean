/- This text proves what Dominators' 'meet' answers, Zb1 the abstract run. Condition: nothing is known of the calls ahead ('S f = []'). -/
import Derived.Test.YtcgmchechmbmeaaDoorM4
set_option linter.unusedVariables false
set_option linter.unusedSimpArgs false
section
set_option maxRecDepth 100000
namespace Go.Proofs.YtcgmchechmbmeaaDoor.base
open Go.Sh gen
variable {S:Zb7}{m:Mem}
def Zdt (P I:List Int):Nat→Nat→Nat→Option Nat
 | 0,a,b=>if a=b then some a else none
 | d+1,a,b=>if a=b then none else if P.getD b 0 < P.getD a 0 then Zdt P I d (I.getD a 0).toNat b else Zdt P I d a (I.getD b 0).toNat
structure DAt (m:Mem)(n ib pb ix px:Nat)(I P:List Int):Prop where
 vi:Own m ib [.slice (some ⟨ix,0,none⟩) n n] 22 ib
 vp:Own m pb [.slice (some ⟨px,0,none⟩) n n] 22 pb
 oi:Own m ix (ints I) 3 ix
 op:Own m px (ints P) 3 px
 li:I.length=n
 lp:P.length=n
 ne:ib≠pb∧ib≠ix∧ib≠px∧pb≠ix∧pb≠px∧ix≠px
theorem DAt.keep {m1:Mem}{n ib pb ix px:Nat}{I P:List Int}{fs:List Nat}(h:DAt m n ib pb ix px I P)(k:Zaa m m1 fs)(h1:ib∉fs)(h2:pb∉fs)(h3:ix∉fs)(h4:px∉fs):DAt m1 n ib pb ix px I P:=
 ⟨h.vi.keep k h1,h.vp.keep k h2,h.oi.keep k h3,h.op.keep k h4,h.li,h.lp,h.ne⟩
theorem DAt.seti {n ib pb ix px:Nat}{I P:List Int}(h:DAt m n ib pb ix px I P){i:Nat}(hi:i < n)(v:Int) :
  ∃ m1,Zad m ⟨ix,i,none⟩ [.int .i64 v]=some m1∧DAt m1 n ib pb ix px (I.set i v) P∧Zaa m m1 [ix]:=by
 obtain⟨m1,e1,o1,k1⟩:=Zgb h.oi (i:=i) (by rw [h.li];exact hi) v
 obtain⟨n1,n2,n3,n4,n5,n6⟩:=h.ne
 exact⟨m1,e1,⟨h.vi.keep k1 (by simpa using n2),h.vp.keep k1 (by simpa using n4),o1,h.op.keep k1 (by simpa using Ne.symm n6),by simpa using h.li,h.lp,h.ne⟩,k1⟩
theorem DAt.setp {n ib pb ix px:Nat}{I P:List Int}(h:DAt m n ib pb ix px I P){i:Nat}(hi:i < n)(v:Int) :
  ∃ m1,Zad m ⟨px,i,none⟩ [.int .i64 v]=some m1∧DAt m1 n ib pb ix px I (P.set i v)∧Zaa m m1 [px]:=by
 obtain⟨m1,e1,o1,k1⟩:=Zgb h.op (i:=i) (by rw [h.lp];exact hi) v
 obtain⟨n1,n2,n3,n4,n5,n6⟩:=h.ne
 exact⟨m1,e1,⟨h.vi.keep k1 (by simpa using n3),h.vp.keep k1 (by simpa using n5),h.oi.keep k1 (by simpa using n6),o1,h.li,by simpa using h.lp,h.ne⟩,k1⟩
def Z82 (n:Nat)(I:List Int):Prop:=∀ x < n,0≤I.getD x 0→I.getD x 0 < n∧0≤I.getD (I.getD x 0).toNat 0
set_option maxHeartbeats 4000000 in
theorem Z2 (hS:S 61=[]){n ib pb ix px:Nat}{I P:List Int}(h:DAt m n ib pb ix px I P)(hn:n≤1000000)(hI:Z82 n I){a b c D:Nat}(ha:a < n)(hb:b < n)(ha0:0≤I.getD a 0)(hb0:0≤I.getD b 0)(hm:Zdt P I D a b=some c) :
  Zaq Tryd.prog TT S 61 [.int .i64 (a:Int),.int .i64 (b:Int),.pointer (some ⟨pb,0,none⟩),.pointer (some ⟨ib,0,none⟩)] m=some (.int .i64 (c:Int),m):=by
 have vi:=h.vi.load1 (off:=0) rfl
 have vp:=h.vp.load1 (off:=0) rfl
 refine Zlx 7 [9,18] k61 hS rfl ?_
 simp [-Int.natCast_add]
 refine Zah 7 [9,18] (fun d E mF=>∃ (a b:Nat),mF=m∧a < n∧b < n∧0≤I.getD a 0∧0≤I.getD b 0∧Zdt P I d a b=some c∧
  E=[(0,.int .i64 (a:Int)),(1,.int .i64 (b:Int)),(2,.pointer (some ⟨pb,0,none⟩)),(3,.pointer (some ⟨ib,0,none⟩))]) D ⟨_,⟨a,b,rfl,ha,hb,ha0,hb0,hm,rfl⟩,(by repeat' constructor)⟩ ?_
 clear ha hb ha0 hb0 hm
 rintro d E mF ih ⟨a,b,rfl,ha,hb,ha0,hb0,hm,rfl⟩
 have a1:(a:Int) < n:=by omega
 have b1:(b:Int) < n:=by omega
 have a2:(a:Int)≤9223372036854775807:=by omega
 have b2:(b:Int)≤9223372036854775807:=by omega
 have pa:=h.op.load1 (off:=a) (Zcq (by rw [h.lp];exact ha))
 have pb':=h.op.load1 (off:=b) (Zcq (by rw [h.lp];exact hb))
 have ia:=h.oi.load1 (off:=a) (Zcq (by rw [h.li];exact ha))
 have ib':=h.oi.load1 (off:=b) (Zcq (by rw [h.li];exact hb))
 by_cases e:a=b
 ·subst e
  have:c=a:=by
   cases d with
   | zero=>simp only [Zdt,if_true,Option.some.injEq] at hm;exact hm.symm
   | succ d=>simp only [Zdt,if_true] at hm;cases hm
  subst this
  simp [-Int.natCast_add,-List.getD_eq_getElem?_getD]
 have e1:¬ (a:Int)=b:=by omega
 cases d with
 | zero=>simp only [Zdt,if_neg e] at hm;cases hm
 | succ d =>
  rw [Zdt,if_neg e] at hm
  have ua:=hI a ha ha0
  have ub:=hI b hb hb0
  obtain⟨a',ea⟩:∃ a':Nat,I.getD a 0=(a':Int):=⟨(I.getD a 0).toNat,by omega⟩
  obtain⟨b',eb⟩:∃ b':Nat,I.getD b 0=(b':Int):=⟨(I.getD b 0).toNat,by omega⟩
  rw [ea] at ua hm ia ha0
  rw [eb] at ub hm ib' hb0
  rw [Int.toNat_natCast] at ua ub
  rw [Int.toNat_natCast,Int.toNat_natCast] at hm
  obtain⟨x,hx⟩:∃ x,P.getD a 0=x:=⟨_,rfl⟩
  obtain⟨y,hy⟩:∃ x,P.getD b 0=x:=⟨_,rfl⟩
  rw [hx] at pa hm
  rw [hy] at pb' hm
  by_cases hxy:y < x
  ·rw [if_pos hxy] at hm
   simp [-Int.natCast_add,-List.getD_eq_getElem?_getD,e1,vp,vi,a2,b2,ha,hb,pa,pb',ia,hxy]
   exact ih _ _ _ _ ⟨a',b,rfl,by omega,hb,ua.2,by rw [eb];omega,hm,rfl⟩ (by omega) (by repeat' constructor)
  ·rw [if_neg hxy] at hm
   simp [-Int.natCast_add,-List.getD_eq_getElem?_getD,e1,vp,vi,a2,b2,ha,hb,pa,pb',ib',hxy]
   exact ih _ _ _ _ ⟨a,b',rfl,ha,by omega,by rw [ea];omega,ub.2,hm,rfl⟩ (by omega) (by repeat' constructor)
end Go.Proofs.YtcgmchechmbmeaaDoor.base
end
section
set_option maxRecDepth 100000
namespace Go.Proofs.YtcgmchechmbmeaaDoor.base
open Go.Sh gen
variable {S:Zb7}{m:Mem}
theorem Zwv {i n:Nat}{k:Int}{L:List (List Int)}(hi:i < n)(h:∀ j,∀ a∈L.getD j [],(0:Int)≤a∧a < n)(j:Nat):∀ a∈(Zcy i L k).getD j [],(0:Int)≤a∧a < n:=by
 unfold Zcy
 by_cases e:j=k.toNat
 ·subst e
  by_cases hj:k.toNat < L.length
  ·rw [Zc8 hj]
   intro a ha
   rcases List.mem_append.1 ha with ha | ha
   ·exact h _ a ha
   ·simp at ha;omega
  ·rw [List.set_eq_of_length_le (by omega)];exact h _
 ·rw [Zc5 e];exact h _
theorem Zvo {i n:Nat}(l:List Int){L:List (List Int)}(hi:i < n)(h:∀ j,∀ a∈L.getD j [],(0:Int)≤a∧a < n):∀ j,∀ a∈(l.foldl (Zcy i) L).getD j [],(0:Int)≤a∧a < n:=by
 induction l generalizing L with
 | nil=>exact h
 | cons k r ih=>rw [List.foldl_cons];exact ih (Zwv (k:=k) hi h)
theorem Zwg {n:Nat}(bs:List Zcj.D){i:Nat}{L:List (List Int)}(hi:i+bs.length≤n)(h:∀ j,∀ a∈L.getD j [],(0:Int)≤a∧a < n):∀ j,∀ a∈(Zc2 i bs L).getD j [],(0:Int)≤a∧a < n:=by
 induction bs generalizing i L with
 | nil=>exact h
 | cons b r ih =>
  rw [List.length_cons] at hi
  rw [Zc2]
  exact ih (by omega) (Zvo (show List Int from b.2.2.2.1) (by omega) h)
theorem Zgv (u:UnT.D):∀ j,∀ a∈(Zak u).getD j [],(0:Int)≤a∧a < nb u:=by
 unfold Zak
 refine Zwg u.2.2.2.1 (by have:nb u=List.length u.2.2.2.1:=rfl;omega) fun j a ha=>?_
 rw [List.getD_eq_getElem?_getD,List.getElem?_replicate] at ha
 split at ha <;> simp at ha
def Zl (P I:List Int):Nat→Nat→Nat→Nat
 | 0,a,_=>a
 | k+1,a,b=>if a=b then a else if P.getD b 0 < P.getD a 0 then Zl P I k (I.getD a 0).toNat b else Zl P I k a (I.getD b 0).toNat
theorem Zr {P I:List Int}{D a b c:Nat}(h:Zdt P I D a b=some c){N:Nat}(hN:D≤N):Zl P I N a b=c:=by
 induction D generalizing N a b with
 | zero =>
  rw [Zdt] at h
  split at h
  ·rename_i e
   simp only [Option.some.injEq] at h
   subst e
   cases N with
   | zero=>exact h
   | succ N=>rw [Zl,if_pos rfl];exact h
  ·cases h
 | succ D ih =>
  rw [Zdt] at h
  split at h
  ·cases h
  ·rename_i e
   obtain⟨M,rfl⟩:∃ M,N=M+1:=⟨N - 1,by omega⟩
   rw [Zl,if_neg e]
   split at h
   ·rename_i e2;rw [if_pos e2];exact ih h (by omega)
   ·rename_i e2;rw [if_neg e2];exact ih h (by omega)
theorem Zy9 {P I:List Int}{n:Nat}(hI:Z82 n I){D a b c:Nat}(ha:a < n)(hb:b < n)(ha0:0≤I.getD a 0)(hb0:0≤I.getD b 0)(h:Zdt P I D a b=some c):c < n∧0≤I.getD c 0:=by
 induction D generalizing a b with
 | zero =>
  rw [Zdt] at h
  split at h
  ·simp only [Option.some.injEq] at h;subst h;exact⟨ha,ha0⟩
  ·cases h
 | succ D ih =>
  rw [Zdt] at h
  split at h
  ·cases h
  ·split at h
   ·exact ih (by have:=(hI a ha ha0).1;omega) hb (hI a ha ha0).2 hb0 h
   ·exact ih ha (by have:=(hI b hb hb0).1;omega) ha0 (hI b hb hb0).2 h
def Zn9 (P I:List Int)(d a:Int):Int:=if I.getD a.toNat 0 < 0 then d else if d < 0 then a else (Zl P I (2 * I.length+2) d.toNat a.toNat:Nat)
def Zg0 (u:UnT.D)(P I:List Int)(b:Nat):Int:=((Zak u).getD b []).foldl (Zn9 P I) (-1)
def Zou (u:UnT.D)(P:List Int)(s:List Int × Bool)(b:Int):List Int × Bool:=(s.1.set b.toNat (Zg0 u P s.1 b.toNat),s.2 || !decide (s.1.getD b.toNat 0=Zg0 u P s.1 b.toNat))
def Z1d (u:UnT.D)(P T:List Int)(s:List Int × Bool):List Int × Bool:=T.foldl (Zou u P) s
def Zgr (u:UnT.D)(P T:List Int):Nat→List Int × Bool→Option (List Int)
 | 0,(I,ch)=>if ch=true then none else some I
 | d+1,(I,ch)=>if ch=true then Zgr u P T d (Z1d u P T (I,false)) else none
def Zhj:Nat→List Int→List Int→List Int
 | _,[],P=>P
 | i,b::r,P=>Zhj (i+1) r (P.set b.toNat (i:Int))
def Zgz (n:Nat)(O:List Int):List Int:=Zhj 0 O (List.replicate n 0)
structure Z9h (u:UnT.D)(P T:List Int)(J:Nat→List Int→Prop):Prop where
 len:∀ j I,J j I→I.length=nb u
 up:∀ j I,J j I→Z82 (nb u) I
 meet:∀ j I,J j I→∀ a b,a < nb u→b < nb u→0≤I.getD a 0→0≤I.getD b 0→∃ D c,D≤2 * I.length+2∧Zdt P I D a b=some c
 step:∀ j I,J j I→j < T.length→J (j+1) (I.set (T.getD j 0).toNat (Zg0 u P I (T.getD j 0).toNat))
 next:∀ I,J T.length I→J 0 I
def Yay (m m1:Mem)(n:Nat)(I:List Int)(v:Value):Prop:=∃ ix,v=.slice (some ⟨ix,0,none⟩) n n∧Own m1 ix (ints I) 3 ix∧m.next≤ix
structure Nd (S:Zb7):Prop where
 dom:S 40=[]
 meet:S 61=[]
 order:S 60=[]
 ahead:S 58=[]
 below:S 54=[]
 rev:S 69=[]
set_option maxHeartbeats 8000000 in
theorem Z3y (hN:Nd S){Q:Nat→Prop}{u:UnT.D}{vo bo so:Option Addr}(hU:UAt Q m u vo bo so)(hQ:∀ f,Q f→f < m.next)(hb0:0 < nb u)(hnb:nb u≤1000)(hnx:Znc u)
  {D:Nat} {O':List Int} (hO':Zls u D (Zqd u)=some O') {O:List Int} (hO:O'.reverse=O) (hOn:∀ x∈O,(0:Int)≤x∧x < nb u) (hO0:O≠[]) (hOl:O.length≤1000)
  {P:List Int} (hP:Zgz (nb u) O=P) {J:Nat→List Int→Prop} (hJ:Z9h u P (O.drop 1) J) (hJ0:J 0 ((List.replicate (nb u) (-1)).set 0 0)) {D2:Nat} {I':List Int} (hD:Zgr u P (O.drop 1) D2 ((List.replicate (nb u) (-1)).set 0 0,true)=some I') :
  ∃ v m1,Zaq Tryd.prog TT S 40 [.agg (Za3 u vo bo so).toArray] m=some (v,m1)∧Yay m m1 (nb u) (I'.set 0 (-1)) v∧Zaa m m1 []:=by
 obtain⟨oU,kU,nU⟩:=Zas (m:=m) (cs:=Za3 u vo bo so) (e:=29) rfl
 obtain⟨mB,hmB⟩:∃ mB,m.new (Za3 u vo bo so) 29=mB:=⟨_,rfl⟩
 obtain⟨ub,hub⟩:∃ ub,m.next=ub:=⟨_,rfl⟩
 rw [hmB,hub] at oU nU
 rw [hmB] at kU
 have hcu:(Za3 u vo bo so).toArray=#[.int .i64 u.1,.int .i64 u.2.1,.slice vo (nv u) (nv u),.slice bo (nb u) (nb u),.slice so (ns u) (ns u)]:=rfl
 have lu:=oU.load (off:=0) 5 (by simp)
 simp [Zap] at lu
 have hQ1:∀ f,Q f→f < mB.next:=fun f hf=>by have:=hQ f hf;omega
 obtain⟨vO,mC,cO,⟨po,pf,rfl,sO,fO⟩,kO⟩:=Zrb hN.order hN.below hN.rev (hU.keep kU (by simp)) hQ1 hb0 hnb hnx hO'
 rw [hO] at cO sO
 have lu2:=(oU.keep kO (by simp)).load (off:=0) 5 (by simp)
 simp [Zap] at lu2
 have hQ2:∀ f,Q f→f < mC.next:=fun f hf=>by have:=hQ1 f hf;have:=kO.1;omega
 obtain⟨vA,mD,cA,⟨ob,of,ao,fm,rfl,hA⟩,kA⟩:=Zqv hN.ahead hN.below ((hU.keep kU (by simp)).keep kO (by simp)) hQ2 hnb hnx
 rw [hcu] at cO cA
 rw [Zej] at cA
 have oUD:=(oU.keep kO (by simp)).keep kA (by simp)
 have sOD:=sO.keep kA (by simp)
 have lu3:=oUD.load (off:=0) 5 (by simp)
 simp [Zap] at lu3
 have u3D:=oUD.load1 (off:=3) rfl
 have z1:=Zmn (nb u) (by omega)
 rw [Zqr] at z1
 have z2:(nb u:Int)≤9223372036854775807:=by omega
 have z3:nb u * 8≤281474976710656:=by omega
 obtain⟨oE,kE,nE⟩:=Zas (m:=mD) (cs:=ints (List.replicate (nb u) 0)) (e:=3) rfl
 obtain⟨ix,hixe⟩:∃ b1,mD.next=b1:=⟨_,rfl⟩
 obtain⟨mE,hmE⟩:∃ mA,mD.new (ints (List.replicate (nb u) 0)) 3=mA:=⟨_,rfl⟩
 rw [hmE,hixe] at oE nE
 rw [hmE] at kE
 obtain⟨oF,kF,nF⟩:=Zas (m:=mE) (cs:=[.slice none 0 0]) (e:=22) rfl
 obtain⟨ib,hib⟩:∃ b1,mE.next=b1:=⟨_,rfl⟩
 obtain⟨mF,hmF⟩:∃ mA,mE.new [.slice none 0 0] 22=mA:=⟨_,rfl⟩
 rw [hmF,hib] at oF nF
 rw [hmF] at kF
 obtain⟨oG,kG,nG⟩:=Zas (m:=mF) (cs:=[.slice none 0 0]) (e:=22) rfl
 obtain⟨pb,hpb⟩:∃ b1,mF.next=b1:=⟨_,rfl⟩
 obtain⟨mG,hmG⟩:∃ mA,mF.new [.slice none 0 0] 22=mA:=⟨_,rfl⟩
 rw [hmG,hpb] at oG nG
 rw [hmG] at kG
 obtain⟨mH,eH,oH,kH⟩:=Zao (r:=_) rfl (oF.keep kG (by simp)) (off:=0) (vs:=[.slice (some ⟨ix,0,none⟩) (nb u) (nb u)]) (by simp) (by simp [Zae])
 simp [Zb1] at oH
 obtain⟨oI,kI,nI⟩:=Zas (m:=mH) (cs:=ints (List.replicate (nb u) 0)) (e:=3) rfl
 obtain⟨px,hpx⟩:∃ b1,mH.next=b1:=⟨_,rfl⟩
 obtain⟨mI,hmI⟩:∃ mA,mH.new (ints (List.replicate (nb u) 0)) 3=mA:=⟨_,rfl⟩
 rw [hmI,hpx] at oI nI
 rw [hmI] at kI
 have hmH:mG.next≤mH.next:=kH.1
 obtain⟨mJ,eJ,oJ,kJ⟩:=Zao (r:=_) rfl (((oG.keep kH (by simp;omega)).keep kI (by simp))) (off:=0) (vs:=[.slice (some ⟨px,0,none⟩) (nb u) (nb u)]) (by simp) (by simp [Zae])
 simp [Zb1] at oJ
 have hmJ:mI.next≤mJ.next:=kJ.1
 have ubD:ub < mD.next:=oUD.flt
 have oUE:=oUD.keep kE (by simp)
 have oUF:=oUE.keep kF (by simp)
 have oUG:=oUF.keep kG (by simp)
 have oUH:=oUG.keep kH (by simp;omega)
 have oUI:=oUH.keep kI (by simp)
 have uE:=oUE.load1 (off:=3) rfl
 have uF:=oUF.load1 (off:=3) rfl
 have uG:=oUG.load1 (off:=3) rfl
 have uH:=oUH.load1 (off:=3) rfl
 have uI:=oUI.load1 (off:=3) rfl
 have iJ:=(oH.keep kI (by simp)).keep kJ (by simp;omega)
 have i0:=iJ.load1 (off:=0) rfl
 have KDJ:Zaa mD mJ []:=Zcx (Zcx (Zcx (Zcx (Zcx kE kF (by simp)) kG (by simp)) kH (by simp;omega)) kI (by simp)) kJ (by simp;omega)
 have KJ:Zaa m mJ []:=((kU.trans kO).trans kA).trans KDJ
 have A0:DAt mJ (nb u) ib pb ix px (List.replicate (nb u) 0) (List.replicate (nb u) 0):=
  ⟨iJ,oJ,((((oE.keep kF (by simp)).keep kG (by simp)).keep kH (by simp;omega)).keep kI (by simp)).keep kJ (by simp;omega),oI.keep kJ (by simp;omega),by simp,by simp,by omega,by omega,by omega,by omega,by omega,by omega⟩
 have hOJ:Zag (fun f=>f < ix) mJ po O:=by
  refine Zag.keep ⟨pf,Zpg sOD.rs,fun hl=>?_⟩ KDJ (by simp)
  obtain⟨b,_,o⟩:=sOD.own hl
  have:=o.flt;omega
 have hOR:∃ f,Rs mJ po O.length (O.map (Value.int .i64)) 3 1 f∧(O.length≠0→f < ix):=by
  refine⟨pf,sOD.rs.keep0 KDJ (by simp),fun hl=>?_⟩
  obtain⟨b,_,o⟩:=sOD.own hl
  have:=o.flt;omega
 have hAJ:∀ k < nb u,Zag (fun f=>f < ix) mJ (ao k) ((Zak u).getD k []):=by
  intro k hk
  have hk':k < (Zak u).length:=by rw [Zej];exact hk
  refine Zag.keep ⟨fm k,Zpg (hA.row k hk').rs,fun hl=>?_⟩ KDJ (by simp)
  obtain⟨b,_,o⟩:=(hA.row k hk').own hl
  have:=o.flt;omega
 have hAo:=hA.own.keep KDJ (by simp)
 have ofx:of < ix:=by have:=hA.own.flt;omega
 have hAc:∀ k < nb u,(Zhf ao (Zak u))[k]?=some (.slice (ao k) ((Zak u).getD k []).length ((Zak u).getD k []).length):=fun k hk=>Zdx _ (by rw [Zej];exact hk)
 have hix:m.next≤ix:=by have:=(kU.trans kO).1;have:=kA.1;omega
 have hpx':m.next≤px:=by omega
 have ixpx:ix < px:=by omega
 have hK:∀ (mX mY:Mem) (f:Nat),f=ix∨f=px→Zaa m mX []→Zaa mX mY [f]→Zaa m mY []:=fun mX mY f hf k1 k2=>k1.fresh k2 (by simp;omega)
 have hKJ:∀ (mX mY:Mem) (f:Nat),f=ix∨f=px→Zaa mJ mX [ix,px]→Zaa mX mY [f]→Zaa mJ mY [ix,px]:=fun mX mY f hf k1 k2=>k1.trans (k2.mono (by simp;omega))
 refine Zho 71 [71,78,84,94] k40 hN.dom rfl ?_
 simp [-Int.natCast_add,-List.map_replicate,Zbw b29,Zfa u22 ap3,hmB,hub,lu,cO,lu2,cA,u3D,z1,z2,z3,hixe,hmE,hib,hmF,hpb,hmG,eH,hpx,hmI,eJ,uE,uF,uG,uH,i0]
 clear i0 uE uF uG uH uI oUE oUF oUG oUH oUI eJ oJ oI kI nI eH oH kH oG kG nG oF kF nF oE kE nE lu lu2 lu3 u3D cO cA sOD sO hA oUD oU iJ kJ hmJ hmI
 refine Zah 71 [71,78,84,94] (fun d E mX=>∃ (i:Nat),nb u - i=d∧i≤nb u∧DAt mX (nb u) ib pb ix px (List.replicate i (-1)++List.replicate (nb u - i) 0) (List.replicate (nb u) 0)∧Zaa m mX []∧Zaa mJ mX [ix,px]∧
  E=[(3,.slice po O.length O.length),(4,.slice (some ⟨ob,0,none⟩) (nb u) (nb u)),(5,.pointer (some ⟨ib,0,none⟩)),(6,.pointer (some ⟨pb,0,none⟩)),(30,.int .i64 (nb u)),(31,.int .i64 (i:Int))]) _ ⟨_,⟨0,rfl,by omega,by simpa using A0,KJ,.refl _ _,rfl⟩,(by repeat' constructor)⟩ ?_
 clear A0
 rintro d E mX ih ⟨i,hd,hi,hX,kX,kJX,rfl⟩
 have im:(i:Int)≤9223372036854775807:=by omega
 have l5:=hX.vi.load1 (off:=0) rfl
 by_cases hlt:i < nb u
 ·have i1:(i:Int) < nb u:=by omega
  have wi:IntKind.i64.wrap ((i:Int)+1)=((i+1:Nat):Int):=by rw [Zab (by omega) (by omega)];omega
  obtain⟨mG,eG,hG,kG⟩:=hX.seti hlt (-1)
  rw [Zuo _ _ _ _ hlt] at hG
  simp [-Int.natCast_add,i1,im,hlt,l5,eG,wi]
  exact ih _ _ _ _ ⟨i+1,rfl,by omega,hG,hK _ _ _ (Or.inl rfl) kX kG,hKJ _ _ _ (Or.inl rfl) kJX kG,rfl⟩ (by omega) (by repeat' constructor)
 clear ih
 have i1:¬ (i:Int) < nb u:=by omega
 have ei:i=nb u:=by omega
 rw [ei,Nat.sub_self,List.replicate_zero,List.append_nil] at hX
 have hP0:Zhj 0 O (List.replicate (nb u) 0)=P:=hP
 simp [-Int.natCast_add,-List.map_replicate,i1]
 refine Zah 71 [71,78,84,94] (fun d E mX=>∃ (i:Nat) (P1:List Int),O.length - i=d∧i≤O.length∧DAt mX (nb u) ib pb ix px (List.replicate (nb u) (-1)) P1∧Zaa m mX []∧Zaa mJ mX [ix,px]∧Zhj i (O.drop i) P1=P∧
  E=[(3,.slice po O.length O.length),(4,.slice (some ⟨ob,0,none⟩) (nb u) (nb u)),(5,.pointer (some ⟨ib,0,none⟩)),(6,.pointer (some ⟨pb,0,none⟩)),(38,.slice po O.length O.length),(39,.int .i64 O.length),(40,.int .i64 (i:Int))]) _ ⟨_,⟨0,_,rfl,by omega,hX,kX,kJX,by rw [List.drop_zero];exact hP0,rfl⟩,(by repeat' constructor)⟩ ?_
 clear hX kX kJX l5 im hi i1 ei hP0
 rintro d E mX ih ⟨i,P1,hd,hi,hX,kX,kJX,hp,rfl⟩
 have im:(i:Int)≤9223372036854775807:=by omega
 have l5:=hX.vi.load1 (off:=0) rfl
 have l6:=hX.vp.load1 (off:=0) rfl
 by_cases hlt:i < O.length
 ·have i1:(i:Int) < O.length:=by omega
  have wi:IntKind.i64.wrap ((i:Int)+1)=((i+1:Nat):Int):=by rw [Zab (by omega) (by omega)];omega
  obtain⟨xb,rfl,li⟩:=(hOJ.keep kJX (by simp;omega)).get hlt
  rw [Za9 hlt,Zhj] at hp
  have hkb:=hOn _ (Za4 hlt)
  obtain⟨k,hk⟩:∃ k:Nat,O.getD i 0=(k:Int):=⟨(O.getD i 0).toNat,by omega⟩
  rw [hk] at li hkb hp
  rw [Int.toNat_natCast] at hp
  have hkn:k < nb u:=by omega
  have k1:(k:Int) < nb u:=by omega
  have k2:(k:Int)≤9223372036854775807:=by omega
  obtain⟨mG,eG,hG,kG⟩:=hX.setp hkn (i:Int)
  simp [-Int.natCast_add,-List.getD_eq_getElem?_getD,i1,im,hlt,l6,li,k2,hkn,eG,wi]
  exact ih _ _ _ _ ⟨i+1,_,rfl,by omega,hG,hK _ _ _ (Or.inr rfl) kX kG,hKJ _ _ _ (Or.inr rfl) kJX kG,hp,rfl⟩ (by omega) (by repeat' constructor)
 clear ih
 have i1:¬ (i:Int) < O.length:=by omega
 rw [List.drop_of_length_le (by omega),Zhj] at hp
 subst hp
 have hOl0:O.length≠0:=fun e=>hO0 (List.length_eq_zero_iff.1 e)
 obtain⟨mY,eY,hY,kY⟩:=hX.seti hb0 0
 have n0:(0:Int) < nb u:=by omega
 have hOl1:¬ (O.length:Int)=0:=by omega
 simp [-Int.natCast_add,-List.map_replicate,i1,hOl0,l5,hb0,eY]
 have kY1:=hK _ _ _ (Or.inl rfl) kX kY
 have kY2:=hKJ _ _ _ (Or.inl rfl) kJX kY
 clear hX kX kJX l5 l6 im hi i1 eY kY
 refine Zah 71 [71,78,84,94] (fun d E mX=>∃ (I:List Int) (ch:Bool),DAt mX (nb u) ib pb ix px I P1∧Zaa m mX []∧Zaa mJ mX [ix,px]∧J 0 I∧Zgr u P1 (O.drop 1) d (I,ch)=some I'∧
  E=[(3,.slice po O.length O.length),(4,.slice (some ⟨ob,0,none⟩) (nb u) (nb u)),(5,.pointer (some ⟨ib,0,none⟩)),(6,.pointer (some ⟨pb,0,none⟩)),(10,.func (.func 61) #[] #[.pointer (some ⟨pb,0,none⟩),.pointer (some ⟨ib,0,none⟩)]),(11,.bool ch)]) D2 ⟨_,⟨_,true,hY,kY1,kY2,hJ0,hD,rfl⟩,(by repeat' constructor)⟩ ?_
 clear hY kY1 kY2 hJ0 hD
 rintro d E mX ih ⟨I,ch,hX,kX,kJX,hj,hd,rfl⟩
 cases ch
 case false =>
  clear ih
  have hI:I=I':=by
   cases d with
   | zero=>simp [Zgr] at hd;exact hd
   | succ d=>simp [Zgr] at hd
  subst hI
  have l5:=hX.vi.load1 (off:=0) rfl
  obtain⟨mZ,eZ,hZ,kZ⟩:=hX.seti hb0 (-1)
  have l5':=hZ.vi.load1 (off:=0) rfl
  simp [-Int.natCast_add,-List.map_set,l5,hb0,eZ,l5']
  exact⟨⟨ix,rfl,hZ.oi,by omega⟩,hK _ _ _ (Or.inl rfl) kX kZ⟩
 cases d with
 | zero=>simp [Zgr] at hd
 | succ d =>
  have hd':Zgr u P1 (O.drop 1) d (Z1d u P1 (O.drop 1) (I,false))=some I':=by simpa [Zgr] using hd
  clear hd
  obtain⟨fO',hRs,hqO⟩:=hOR
  obtain⟨xb,hpo,hRd⟩:=hRs.rdo hOl0
  have hfO:fO'∉[ix,px]:=by have:=hqO hOl0;simp;omega
  subst hpo
  have o1:(1:Int)≤O.length:=by omega
  have o2:1≤O.length:=by omega
  have o3:(O.length:Int)≤9223372036854775807:=by omega
  have el:Zfe mX xb 3=true:=by unfold Zfe;rw [(hRd.keep kJX hfO).blk];simp
  have hTl:(O.drop 1).length=O.length - 1:=by simp
  obtain⟨n1,hn1⟩:∃ n1,O.length - 1=n1:=⟨_,rfl⟩
  rw [hn1] at hTl
  simp [-Int.natCast_add,Zcd u22 sz3,o2,el,hn1]
  have hTO:∀ j,(O.drop 1).getD j 0=O.getD (j+1) 0:=fun j=>by
   rw [List.getD_eq_getElem?_getD,List.getD_eq_getElem?_getD,List.getElem?_drop,Nat.add_comm]
  obtain⟨T,hT⟩:∃ T,O.drop 1=T:=⟨_,rfl⟩
  rw [hT] at hTl hTO hJ hd'
  refine Zah 71 [71,78,84,94] (fun d4 E mX=>∃ (i:Nat) (I:List Int) (ch:Bool),n1 - i=d4∧i≤n1∧DAt mX (nb u) ib pb ix px I P1∧Zaa m mX []∧Zaa mJ mX [ix,px]∧J i I∧Zgr u P1 T d ((T.drop i).foldl (Zou u P1) (I,ch))=some I'∧
   E=[(3,.slice (some ⟨xb,0,none⟩) O.length O.length),(4,.slice (some ⟨ob,0,none⟩) (nb u) (nb u)),(5,.pointer (some ⟨ib,0,none⟩)),(6,.pointer (some ⟨pb,0,none⟩)),(10,.func (.func 61) #[] #[.pointer (some ⟨pb,0,none⟩),.pointer (some ⟨ib,0,none⟩)]),(11,.bool ch),(59,.slice (some ⟨xb,1,none⟩) n1 n1),(60,.int .i64 (n1:Int)),(61,.int .i64 (i:Int))]) _ ⟨_,⟨0,I,false,rfl,by omega,hX,kX,kJX,hj,by rw [List.drop_zero];exact hd',rfl⟩,(by repeat' constructor)⟩ ?_
  clear hX kX kJX hj hd' el I
  rintro d4 E mX ih4 ⟨i,I,ch,hd4,hi,hX,kX,kJX,hj,hd',rfl⟩
  have im:(i:Int)≤9223372036854775807:=by omega
  by_cases hit:i < n1
  ·have i1:(i:Int) < n1:=by omega
   have wi:IntKind.i64.wrap ((i:Int)+1)=((i+1:Nat):Int):=by rw [Zab (by omega) (by omega)];omega
   have lO:=(hRd.keep kJX hfO).load1 (off:=i+1) (Zcq (by omega))
   rw [← hTO i] at lO
   have lO':=lO
   rw [Nat.add_comm] at lO'
   rw [Za9 (show i < T.length by omega),List.foldl_cons] at hd'
   have hstep:=hJ.step i I hj (by omega)
   have hTm:T.getD i 0∈O:=by rw [hTO];exact Za4 (by omega)
   have hkb:=hOn _ hTm
   obtain⟨b,hb⟩:∃ k:Nat,T.getD i 0=(k:Int):=⟨(T.getD i 0).toNat,by omega⟩
   rw [hb] at lO lO' hkb hd' hstep
   rw [Int.toNat_natCast] at hstep
   have eB:Zou u P1 (I,ch) (b:Int)=(I.set b (Zg0 u P1 I b),ch || !decide (I.getD b 0=Zg0 u P1 I b)):=by unfold Zou;rw [Int.toNat_natCast]
   rw [eB] at hd'
   have hbn:b < nb u:=by omega
   have b1:(b:Int) < nb u:=by omega
   have b2:(b:Int)≤9223372036854775807:=by omega
   have hIl:=hJ.len i I hj
   have hIu:=hJ.up i I hj
   have hIm:=hJ.meet i I hj
   have lrow:=(hAo.keep kJX (by simp;omega)).load1 (off:=b) (hAc b hbn)
   have hrow:=(hAJ b hbn).keep kJX (by simp;omega)
   have hrl:((Zak u).getD b []).length≤1000000:=Zks hnx hnb b
   have hrb:∀ a∈(Zak u).getD b [],(0:Int)≤a∧a < nb u:=Zgv u b
   have hDD:((Zak u).getD b []).foldl (Zn9 P1 I) (-1)=Zg0 u P1 I b:=rfl
   obtain⟨l,hl⟩:∃ l,(Zak u).getD b []=l:=⟨_,rfl⟩
   rw [hl] at lrow hrow hrl hrb hDD
   obtain⟨DD,hDe⟩:∃ DD,Zg0 u P1 I b=DD:=⟨_,rfl⟩
   rw [hDe] at hDD hd' hstep
   simp [-Int.natCast_add,-List.getD_eq_getElem?_getD,i1,im,hit,lO',b2,hbn,lrow]
   refine Zah 71 [71,78,84,94] (fun d5 E mY=>∃ (j:Nat) (dd:Int),l.length - j=d5∧j≤l.length∧mY=mX∧(-1:Int)≤dd∧dd < nb u∧(0≤dd→0≤I.getD dd.toNat 0)∧(l.drop j).foldl (Zn9 P1 I) dd=DD∧
    E=[(3,.slice (some ⟨xb,0,none⟩) O.length O.length),(4,.slice (some ⟨ob,0,none⟩) (nb u) (nb u)),(5,.pointer (some ⟨ib,0,none⟩)),(6,.pointer (some ⟨pb,0,none⟩)),(10,.func (.func 61) #[] #[.pointer (some ⟨pb,0,none⟩),.pointer (some ⟨ib,0,none⟩)]),(11,.bool ch),(13,.int .i64 (b:Int)),(14,.int .i64 dd),(59,.slice (some ⟨xb,1,none⟩) n1 n1),(60,.int .i64 (n1:Int)),(61,.int .i64 (i:Int)),(68,.slice (ao b) l.length l.length),(69,.int .i64 l.length),(70,.int .i64 (j:Int))]) _ ⟨_,⟨0,-1,rfl,by omega,rfl,by omega,by omega,by omega,by rw [List.drop_zero];exact hDD,rfl⟩,(by repeat' constructor)⟩ ?_
   rintro d5 E mY ih5 ⟨j,dd,hd5,hj5,rfl,hd1,hd2,hd3,hfo,rfl⟩
   have jm:(j:Int)≤9223372036854775807:=by omega
   have l5:=hX.vi.load1 (off:=0) rfl
   by_cases hjt:j < l.length
   ·have j1:(j:Int) < l.length:=by omega
    have wj:IntKind.i64.wrap ((j:Int)+1)=((j+1:Nat):Int):=by rw [Zab (by omega) (by omega)];omega
    obtain⟨yb,hyb,lj⟩:=hrow.get hjt
    rw [hyb] at ih5 ⊢
    rw [Za9 hjt,List.foldl_cons] at hfo
    have hab:=hrb _ (Za4 hjt)
    obtain⟨a,ha⟩:∃ k:Nat,l.getD j 0=(k:Int):=⟨(l.getD j 0).toNat,by omega⟩
    rw [ha] at lj hab hfo
    have han:a < nb u:=by omega
    have a1:(a:Int) < nb u:=by omega
    have a2:(a:Int)≤9223372036854775807:=by omega
    have la:=hX.oi.load1 (off:=a) (Zcq (by omega))
    have eS:Zn9 P1 I dd (a:Int)=if I.getD a 0 < 0 then dd else if dd < 0 then (a:Int) else (Zl P1 I (2 * I.length+2) dd.toNat a:Nat):=by unfold Zn9;rw [Int.toNat_natCast]
    rw [eS] at hfo
    by_cases hia:I.getD a 0 < 0
    ·rw [if_pos hia] at hfo
     simp [-Int.natCast_add,-List.getD_eq_getElem?_getD,j1,jm,hjt,lj,a2,han,l5,la,hia,wj]
     exact ih5 _ _ _ _ ⟨j+1,dd,rfl,by omega,rfl,hd1,hd2,hd3,hfo,rfl⟩ (by omega) (by repeat' constructor)
    rw [if_neg hia] at hfo
    by_cases hdd:dd < 0
    ·rw [if_pos hdd] at hfo
     simp [-Int.natCast_add,-List.getD_eq_getElem?_getD,j1,jm,hjt,lj,a2,han,l5,la,hia,hdd,wj]
     exact ih5 _ _ _ _ ⟨j+1,(a:Int),rfl,by omega,rfl,by omega,by omega,fun _=>by rw [Int.toNat_natCast];omega,hfo,rfl⟩ (by omega) (by repeat' constructor)
    rw [if_neg hdd] at hfo
    obtain⟨q,rfl⟩:∃ q:Nat,dd=(q:Int):=⟨dd.toNat,by omega⟩
    rw [Int.toNat_natCast] at hfo hd3
    have hqn:q < nb u:=by omega
    obtain⟨DM,c,hDM,hme⟩:=hIm q a hqn han (hd3 (by omega)) (by omega)
    have hgo:=Zr hme hDM
    rw [hgo] at hfo
    have hcu:=Zy9 hIu hqn han (hd3 (by omega)) (by omega) hme
    have cm:=Z2 hN.meet hX (by omega) hIu hqn han (hd3 (by omega)) (by omega) hme
    simp [-Int.natCast_add,-List.getD_eq_getElem?_getD,j1,jm,hjt,lj,a2,han,l5,la,hia,hdd,cm,wj]
    exact ih5 _ _ _ _ ⟨j+1,(c:Int),rfl,by omega,rfl,by omega,by omega,fun _=>by rw [Int.toNat_natCast];exact hcu.2,hfo,rfl⟩ (by omega) (by repeat' constructor)
   clear ih5
   have j1:¬ (j:Int) < l.length:=by omega
   rw [List.drop_of_length_le (show l.length≤j by omega),List.foldl_nil] at hfo
   subst hfo
   have lb:=hX.oi.load1 (off:=b) (Zcq (by omega))
   obtain⟨mW,eW,hW,kW⟩:=hX.seti hbn dd
   obtain⟨wv,hwv⟩:∃ w,I.getD b 0=w:=⟨_,rfl⟩
   rw [hwv] at lb hd'
   by_cases hbd:wv=dd
   ·have hset:I.set b dd=I:=by
     rw [← hbd,← hwv]
     apply Zik (by simp)
     intro k hk
     rw [Zbg _ _ _ _ (by omega)]
     split
     ·rename_i e;rw [e]
     ·rfl
    have:(!decide (wv=dd))=false:=by simp [hbd]
    rw [this,Bool.or_false,hset] at hd'
    rw [hset] at hstep
    simp [-Int.natCast_add,-List.getD_eq_getElem?_getD,j1,l5,b2,hbn,lb,hbd,wi]
    exact ih4 _ _ _ _ ⟨i+1,I,ch,rfl,by omega,hX,kX,kJX,hstep,hd',rfl⟩ (by omega) (by repeat' constructor)
   ·have:(!decide (wv=dd))=true:=by simp [hbd]
    rw [this,Bool.or_true] at hd'
    simp [-Int.natCast_add,-List.getD_eq_getElem?_getD,j1,l5,b2,hbn,lb,hbd,eW,wi]
    exact ih4 _ _ _ _ ⟨i+1,_,true,rfl,by omega,hW,hK _ _ _ (Or.inl rfl) kX kW,hKJ _ _ _ (Or.inl rfl) kJX kW,hstep,hd',rfl⟩ (by omega) (by repeat' constructor)
  ·clear ih4
   have i1:¬ (i:Int) < n1:=by omega
   have ei:i=T.length:=by omega
   rw [ei] at hj
   rw [List.drop_of_length_le (by omega),List.foldl_nil] at hd'
   simp [-Int.natCast_add,-List.getD_eq_getElem?_getD,i1]
   exact ih _ _ _ _ ⟨I,ch,hX,kX,kJX,hJ.next I hj,by rw [hT];exact hd',rfl⟩ (by omega) (by repeat' constructor)
end Go.Proofs.YtcgmchechmbmeaaDoor.base
end
section
set_option maxRecDepth 100000
namespace Go.Proofs.YtcgmchechmbmeaaDoor.base
open Go.Sh gen
variable {S:Zb7}{m:Mem}
def Zlo (I:List Int)(a:Int):Nat→Int→Option Bool
 | 0,b=>if b < 0 then some false else if a=b then some true else none
 | d+1,b=>if b < 0 then none else if a=b then none else Zlo I a d (I.getD b.toNat 0)
def upF (I:List Int)(a:Int):Nat→Int→Bool
 | 0,_=>false
 | k+1,b=>if b < 0 then false else if a=b then true else upF I a k (I.getD b.toNat 0)
theorem Z7d {I:List Int}{a:Int}{D:Nat}{b:Int}{r:Bool}(h:Zlo I a D b=some r){N:Nat}(hN:D < N):upF I a N b=r:=by
 induction D generalizing N b with
 | zero =>
  obtain⟨M,rfl⟩:∃ M,N=M+1:=⟨N - 1,by omega⟩
  rw [Zlo] at h
  rw [upF]
  split at h
  ·rename_i e;rw [if_pos e];simpa using h
  ·rename_i e
   rw [if_neg e]
   split at h
   ·rename_i e2;rw [if_pos e2];simpa using h
   ·cases h
 | succ D ih =>
  obtain⟨M,rfl⟩:∃ M,N=M+1:=⟨N - 1,by omega⟩
  rw [Zlo] at h
  rw [upF]
  split at h
  ·cases h
  ·rename_i e
   rw [if_neg e]
   split at h
   ·cases h
   ·rename_i e2;rw [if_neg e2];exact ih h (by omega)
structure Ck3 (m:Mem)(u:UnT.D)(vo bo so:Option Addr)(cb cf b1 b2 f1 f2 ix:Nat)(bl pl I:List Int):Prop where
 c:Zop m u vo bo so (.slice (some ⟨ix,0,none⟩) (nb u) (nb u)) cb cf b1 b2 f1 f2 bl pl
 o3:Own m ix (ints I) 3 ix
theorem Ck3.keep0 {m1:Mem}{u:UnT.D}{vo bo so:Option Addr}{cb cf b1 b2 f1 f2 ix:Nat}{bl pl I:List Int}(h:Ck3 m u vo bo so cb cf b1 b2 f1 f2 ix bl pl I)(k:Zaa m m1 []):Ck3 m1 u vo bo so cb cf b1 b2 f1 f2 ix bl pl I:=⟨h.c.keep0 k,h.o3.keep k (by simp)⟩
structure Rok (u:UnT.D)(bl pl I:List Int):Prop where
 lb:bl.length=nv u
 lp:pl.length=nv u
 li:I.length=nb u
 bb:∀ i < nv u,0≤bl.getD i 0∧bl.getD i 0 < nb u
 ii:∀ x < nb u,I.getD x 0 < nb u
 up:∀ (a:Int) (b:Nat),b < nb u→∃ d,d < nb u+2∧Zlo I a d b=some (upF I a (nb u+2) b)
theorem Zox (hS:S 70=[]){u:UnT.D}{vo bo so:Option Addr}{cb cf b1 b2 f1 f2 ix:Nat}{bl pl I:List Int}(hC:Ck3 m u vo bo so cb cf b1 b2 f1 f2 ix bl pl I)(hR:Rok u bl pl I)(hnb:nb u≤1000){a:Int}{b:Nat}(hb:b < nb u) :
  Zaq Tryd.prog TT S 70 [.pointer (some ⟨cb,0,none⟩),.int .i64 a,.int .i64 (b:Int)] m=some (.bool (upF I a (nb u+2) b),m):=by
 have c7:=hC.c.c.load1 (off:=7) rfl
 obtain⟨D,_,hD⟩:=hR.up a b hb
 obtain⟨R,hRe⟩:∃ R,upF I a (nb u+2) b=R:=⟨_,rfl⟩
 rw [hRe] at hD ⊢
 refine Zlx 7 [8,11] k70 hS rfl ?_
 simp [-Int.natCast_add]
 refine Zah 7 [8,11] (fun d E mF=>∃ (b:Int),mF=m∧b < nb u∧Zlo I a d b=some R∧
  E=[(0,.pointer (some ⟨cb,0,none⟩)),(1,.int .i64 a),(2,.int .i64 b)]) D ⟨_,⟨(b:Int),rfl,by omega,hD,rfl⟩,⟨by rfl,by rfl,by rfl,trivial⟩⟩ ?_
 clear hD hRe hb
 rintro d E mF ih ⟨b,rfl,hb,hd,rfl⟩
 by_cases h0:b < 0
 ·have h0':¬ 0≤b:=by omega
  have:R=false:=by
   cases d with
   | zero=>rw [Zlo,if_pos h0] at hd;simpa using hd.symm
   | succ d=>rw [Zlo,if_pos h0] at hd;cases hd
  simp [-Int.natCast_add,h0',this]
 have h0':0≤b:=by omega
 by_cases hab:a=b
 ·have:R=true:=by
   cases d with
   | zero=>rw [Zlo,if_neg h0,if_pos hab] at hd;simpa using hd.symm
   | succ d=>rw [Zlo,if_neg h0,if_pos hab] at hd;cases hd
  simp [-Int.natCast_add,h0',hab,this]
 cases d with
 | zero=>rw [Zlo,if_neg h0,if_neg hab] at hd;cases hd
 | succ d =>
  rw [Zlo,if_neg h0,if_neg hab] at hd
  obtain⟨q,rfl⟩:∃ q:Nat,b=(q:Int):=⟨b.toNat,by omega⟩
  rw [Int.toNat_natCast] at hd
  have hq:q < nb u:=by omega
  have q2:(q:Int)≤9223372036854775807:=by omega
  have lq:=hC.o3.load1 (off:=q) (Zcq (by rw [hR.li];exact hq))
  simp [-Int.natCast_add,-List.getD_eq_getElem?_getD,h0',hab,c7,hq,q2,lq]
  exact ih _ _ _ _ ⟨_,rfl,hR.ii q hq,hd,rfl⟩ (by omega) ⟨by rfl,by rfl,by rfl,trivial⟩
def Zkx (u:UnT.D)(bl pl I:List Int)(block place:Int)(v:Int):Bool:=
 !(decide (bl.getD v.toNat 0=block) && decide (place≤pl.getD v.toNat 0)) && upF I (bl.getD v.toNat 0) (nb u+2) block
def Zgx (u:UnT.D)(bl pl I:List Int)(block place:Int)(l:List Int):Bool:=l.all (Zkx u bl pl I block place)
set_option maxHeartbeats 4000000 in
theorem Zki (hS:S 62=[])(hD:S 70=[]){u:UnT.D}{vo bo so:Option Addr}{cb cf b1 b2 f1 f2 ix:Nat}{bl pl I:List Int}(hC:Ck3 m u vo bo so cb cf b1 b2 f1 f2 ix bl pl I)(hR:Rok u bl pl I)(hnb:nb u≤1000)(hnv:nv u≤1000000)
  {Q:Nat→Prop} {l:List Int} {ao:Option Addr} (hl:Zag Q m ao l) (hll:l.length≤20000000000000) (hlv:∀ v∈l,(0:Int)≤v∧v < nv u) {block:Nat} (hb:block < nb u) {place:Int} :
  Zaq Tryd.prog TT S 62 [.pointer (some ⟨cb,0,none⟩),.slice ao l.length l.length,.int .i64 (block:Int),.int .i64 place] m=some (.bool (Zgx u bl pl I block place l),m):=by
 have c5:=hC.c.c.load1 (off:=5) rfl
 have c6:=hC.c.c.load1 (off:=6) rfl
 obtain⟨R,hRe⟩:∃ R,Zgx u bl pl I block place l=R:=⟨_,rfl⟩
 rw [hRe]
 refine Zlx 14 [14,49] k62 hS rfl ?_
 simp [-Int.natCast_add]
 refine Zah 14 [14,49] (fun d E mF=>∃ (i:Nat),l.length - i=d∧i≤l.length∧mF=m∧(l.drop i).all (Zkx u bl pl I block place)=R∧
  E=[(0,.pointer (some ⟨cb,0,none⟩)),(2,.int .i64 (block:Int)),(3,.int .i64 place),(11,.slice ao l.length l.length),(12,.int .i64 l.length),(13,.int .i64 (i:Int))]) _ ⟨_,⟨0,rfl,by omega,rfl,by rw [List.drop_zero];exact hRe,rfl⟩,(by repeat' constructor)⟩ ?_
 rintro d E mF ih ⟨i,hd,hi,rfl,ha,rfl⟩
 have im:(i:Int)≤9223372036854775807:=by omega
 by_cases hlt:i < l.length
 ·have i1:(i:Int) < l.length:=by omega
  have wi:IntKind.i64.wrap ((i:Int)+1)=((i+1:Nat):Int):=by rw [Zab (by omega) (by omega)];omega
  obtain⟨lb,rfl,li⟩:=hl.get hlt
  rw [Za9 hlt,List.all_cons] at ha
  have hvb:=hlv _ (Za4 hlt)
  obtain⟨v,hv⟩:∃ k:Nat,l.getD i 0=(k:Int):=⟨(l.getD i 0).toNat,by omega⟩
  rw [hv] at li ha hvb
  have hvn:v < nv u:=by omega
  have v1:(v:Int) < nv u:=by omega
  have v2:(v:Int)≤9223372036854775807:=by omega
  have l1:=hC.c.o1.load1 (off:=v) (Zcq (by rw [hR.lb];exact hvn))
  have l2:=hC.c.o2.load1 (off:=v) (Zcq (by rw [hR.lp];exact hvn))
  have eV:Zkx u bl pl I block place (v:Int)=(!(decide (bl.getD v 0=(block:Int)) && decide (place≤pl.getD v 0)) && upF I (bl.getD v 0) (nb u+2) block):=by unfold Zkx;rw [Int.toNat_natCast]
  rw [eV] at ha
  have dr:=Zox hD hC hR hnb (a:=bl.getD v 0) hb
  obtain⟨x,hx⟩:∃ x,bl.getD v 0=x:=⟨_,rfl⟩
  obtain⟨y,hy⟩:∃ x,pl.getD v 0=x:=⟨_,rfl⟩
  rw [hx] at l1 ha dr
  rw [hy] at l2 ha
  obtain⟨q,hq⟩:∃ q,upF I x (nb u+2) block=q:=⟨_,rfl⟩
  rw [hq] at dr ha
  by_cases h1:x=(block:Int)
  ·by_cases h2:place≤y
   ·have:R=false:=by rw [← ha];simp [h1,h2]
    simp [-Int.natCast_add,-List.getD_eq_getElem?_getD,i1,im,hlt,li,c5,c6,v2,hvn,l1,l2,h1,h2,this]
   ·subst h1
    cases q
    ·have:R=false:=by rw [← ha];simp
     simp [-Int.natCast_add,-List.getD_eq_getElem?_getD,i1,im,hlt,li,c5,c6,v2,hvn,l1,l2,h2,dr,this]
    ·simp [-Int.natCast_add,-List.getD_eq_getElem?_getD,i1,im,hlt,li,c5,c6,v2,hvn,l1,l2,h2,dr,wi]
     exact ih _ _ _ _ ⟨i+1,rfl,by omega,rfl,by rw [← ha];simp [h2],rfl⟩ (by omega) (by repeat' constructor)
  ·cases q
   ·have:R=false:=by rw [← ha];simp
    simp [-Int.natCast_add,-List.getD_eq_getElem?_getD,i1,im,hlt,li,c5,v2,hvn,l1,h1,dr,this]
   ·simp [-Int.natCast_add,-List.getD_eq_getElem?_getD,i1,im,hlt,li,c5,v2,hvn,l1,h1,dr,wi]
    exact ih _ _ _ _ ⟨i+1,rfl,by omega,rfl,by rw [← ha];simp [h1],rfl⟩ (by omega) (by repeat' constructor)
 clear ih
 have i1:¬ (i:Int) < l.length:=by omega
 rw [List.drop_of_length_le (by omega),List.all_nil] at ha
 simp [-Int.natCast_add,-List.getD_eq_getElem?_getD,i1,← ha]
end Go.Proofs.YtcgmchechmbmeaaDoor.base
end
