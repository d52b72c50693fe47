/- This text proves what ssa.Dominators answers, Zb5 the abstract run, where its rounds come to an end. Condition: nothing is known of the calls ahead ('S f = []'). -/
import Derived.Test.YtlogdohlcdhepaaDoorM8
set_option linter.unusedVariables false
set_option linter.unusedSimpArgs false
section
set_option maxRecDepth 100000
namespace Go.Proofs.YtlogdohlcdhepaaDoor.base
open Go.Sh gen
variable {S:Zc}{m:Mem}
theorem Zv9 {i n:Nat}{k:Int}{L:List (List Int)}(hi:i < n)(h:∀ j,∀ a∈L.getD j [],(0:Int)≤a∧a < n)(j:Nat):∀ a∈(Zdr i L k).getD j [],(0:Int)≤a∧a < n:=by
 unfold Zdr
 by_cases e:j=k.toNat
 ·subst e
  by_cases hj:k.toNat < L.length
  ·rw [Ze hj]
   intro a ha
   rcases List.mem_append.1 ha with ha | ha
   ·exact h _ a ha
   ·simp at ha;omega
  ·rw [List.set_eq_of_length_le (by omega)];exact h _
 ·rw [Zd2 e];exact h _
theorem Zwc {i n:Nat}(l:List Int){L:List (List Int)}(hi:i < n)(h:∀ j,∀ a∈L.getD j [],(0:Int)≤a∧a < n):∀ j,∀ a∈(l.foldl (Zdr i) L).getD j [],(0:Int)≤a∧a < n:=by
 induction l generalizing L with
 | nil=>exact h
 | cons k r ih=>rw [List.foldl_cons];exact ih (Zv9 (k:=k) hi h)
theorem Zv4 {n:Nat}(bs:List Zf9.D){i:Nat}{L:List (List Int)}(hi:i+bs.length≤n)(h:∀ j,∀ a∈L.getD j [],(0:Int)≤a∧a < n):∀ j,∀ a∈(Zef i bs L).getD j [],(0:Int)≤a∧a < n:=by
 induction bs generalizing i L with
 | nil=>exact h
 | cons b r ih =>
  rw [List.length_cons] at hi
  rw [Zef]
  exact ih (by omega) (Zwc (show List Int from b.2.2.2.1) (by omega) h)
theorem Zk6 (u:UnT.D):∀ j,∀ a∈(Zaz u).getD j [],(0:Int)≤a∧a < nb u:=by
 unfold Zaz
 refine Zv4 u.2.2.2.1 (by have:nb u=List.length u.2.2.2.1:=rfl;omega) fun j a ha=>?_
 rw [List.getD_eq_getElem?_getD,List.getElem?_replicate] at ha
 split at ha <;> simp at ha
def Zl2 (P I:List Int):Nat→Nat→Nat→Nat
 | 0,a,_=>a
 | k+1,a,b=>if a=b then a else if P.getD b 0 < P.getD a 0 then Zl2 P I k (I.getD a 0).toNat b else Zl2 P I k a (I.getD b 0).toNat
theorem Zrg {P I:List Int}{D a b c:Nat}(h:Zdz P I D a b=some c){N:Nat}(hN:D≤N):Zl2 P I N a b=c:=by
 induction D generalizing N a b with
 | zero =>
  rw [Zdz] at h
  split at h
  ·rename_i e
   simp only [Option.some.injEq] at h
   subst e
   cases N with
   | zero=>exact h
   | succ N=>rw [Zl2,if_pos rfl];exact h
  ·cases h
 | succ D ih =>
  rw [Zdz] at h
  split at h
  ·cases h
  ·rename_i e
   obtain⟨M,rfl⟩:∃ M,N=M+1:=⟨N - 1,by omega⟩
   rw [Zl2,if_neg e]
   split at h
   ·rename_i e2;rw [if_pos e2];exact ih h (by omega)
   ·rename_i e2;rw [if_neg e2];exact ih h (by omega)
theorem Zx9 {P I:List Int}{n:Nat}(hI:Yao n I){D a b c:Nat}(ha:a < n)(hb:b < n)(ha0:0≤I.getD a 0)(hb0:0≤I.getD b 0)(h:Zdz P I D a b=some c):c < n∧0≤I.getD c 0:=by
 induction D generalizing a b with
 | zero =>
  rw [Zdz] at h
  split at h
  ·simp only [Option.some.injEq] at h;subst h;exact⟨ha,ha0⟩
  ·cases h
 | succ D ih =>
  rw [Zdz] at h
  split at h
  ·cases h
  ·split at h
   ·exact ih (by have:=(hI a ha ha0).1;omega) hb (hI a ha ha0).2 hb0 h
   ·exact ih ha (by have:=(hI b hb hb0).1;omega) ha0 (hI b hb hb0).2 h
def Zor (P I:List Int)(d a:Int):Int:=if I.getD a.toNat 0 < 0 then d else if d < 0 then a else (Zl2 P I (2 * I.length+2) d.toNat a.toNat:Nat)
def Zha (u:UnT.D)(P I:List Int)(b:Nat):Int:=((Zaz u).getD b []).foldl (Zor P I) (-1)
def Zo3 (u:UnT.D)(P:List Int)(s:List Int × Bool)(b:Int):List Int × Bool:=(s.1.set b.toNat (Zha u P s.1 b.toNat),s.2 || !decide (s.1.getD b.toNat 0=Zha u P s.1 b.toNat))
def Z3h (u:UnT.D)(P T:List Int)(s:List Int × Bool):List Int × Bool:=T.foldl (Zo3 u P) s
def Zgz (u:UnT.D)(P T:List Int):Nat→List Int × Bool→Option (List Int)
 | 0,(I,ch)=>if ch=true then none else some I
 | d+1,(I,ch)=>if ch=true then Zgz u P T d (Z3h u P T (I,false)) else none
def Zht:Nat→List Int→List Int→List Int
 | _,[],P=>P
 | i,b::r,P=>Zht (i+1) r (P.set b.toNat (i:Int))
def Zg8 (n:Nat)(O:List Int):List Int:=Zht 0 O (List.replicate n 0)
structure Ybw (u:UnT.D)(P T:List Int)(J:Nat→List Int→Prop):Prop where
 len:∀ j I,J j I→I.length=nb u
 up:∀ j I,J j I→Yao (nb u) I
 meet:∀ j I,J j I→∀ a b,a < nb u→b < nb u→0≤I.getD a 0→0≤I.getD b 0→∃ D c,D≤2 * I.length+2∧Zdz P I D a b=some c
 step:∀ j I,J j I→j < T.length→J (j+1) (I.set (T.getD j 0).toNat (Zha u P I (T.getD j 0).toNat))
 next:∀ I,J T.length I→J 0 I
def Yc7 (m m1:Mem)(n:Nat)(I:List Int)(v:Value):Prop:=∃ ix,v=.slice (some ⟨ix,0,none⟩) n n∧Own m1 ix (ints I) 3 ix∧m.next≤ix
structure Nd (S:Zc):Prop where
 dom:S 53=[]
 meet:S 73=[]
 order:S 72=[]
 ahead:S 70=[]
 below:S 65=[]
 rev:S 82=[]
set_option maxHeartbeats 8000000 in
theorem Z6q (hN:Nd S){Q:Nat→Prop}{u:UnT.D}{vo bo so:Option Addr}(hU:UAt Q m u vo bo so)(hQ:∀ f,Q f→f < m.next)(hb0:0 < nb u)(hnb:nb u≤1000)(hnx:Zvc u)
  {D:Nat} {O':List Int} (hO':Zl6 u D (Zqs u)=some O') {O:List Int} (hO:O'.reverse=O) (hOn:∀ x∈O,(0:Int)≤x∧x < nb u) (hO0:O≠[]) (hOl:O.length≤1000)
  {P:List Int} (hP:Zg8 (nb u) O=P) {J:Nat→List Int→Prop} (hJ:Ybw u P (O.drop 1) J) (hJ0:J 0 ((List.replicate (nb u) (-1)).set 0 0)) {D2:Nat} {I':List Int} (hD:Zgz u P (O.drop 1) D2 ((List.replicate (nb u) (-1)).set 0 0,true)=some I') :
  ∃ v m1,Zal Tryd.prog TT S 53 [.agg (Zcj u vo bo so).toArray] m=some (v,m1)∧Yc7 m m1 (nb u) (I'.set 0 (-1)) v∧Zag m m1 []:=by
 obtain⟨oU,kU,nU⟩:=Zay (m:=m) (cs:=Zcj u vo bo so) (e:=34) rfl
 obtain⟨mB,hmB⟩:∃ mB,m.new (Zcj u vo bo so) 34=mB:=⟨_,rfl⟩
 obtain⟨ub,hub⟩:∃ ub,m.next=ub:=⟨_,rfl⟩
 rw [hmB,hub] at oU nU
 rw [hmB] at kU
 have hcu:(Zcj u vo bo so).toArray=#[.int .i64 u.1,.int .i64 u.2.1,.slice vo (nv u) (nv u),.slice bo (nb u) (nb u),.slice so (ns u) (ns u)]:=rfl
 have lu:=oU.load (off:=0) 5 (by simp)
 simp [Za1] at lu
 have hQ1:∀ f,Q f→f < mB.next:=fun f hf=>by have:=hQ f hf;omega
 obtain⟨vO,mC,cO,⟨po,pf,rfl,sO,fO⟩,kO⟩:=Zst hN.order hN.below hN.rev (hU.keep kU (by simp)) hQ1 hb0 hnb hnx hO'
 rw [hO] at cO sO
 have lu2:=(oU.keep kO (by simp)).load (off:=0) 5 (by simp)
 simp [Za1] at lu2
 have hQ2:∀ f,Q f→f < mC.next:=fun f hf=>by have:=hQ1 f hf;have:=kO.1;omega
 obtain⟨vA,mD,cA,⟨ob,of,ao,fm,rfl,hA⟩,kA⟩:=Zsl hN.ahead hN.below ((hU.keep kU (by simp)).keep kO (by simp)) hQ2 hnb hnx
 rw [hcu] at cO cA
 rw [Zft] at cA
 have oUD:=(oU.keep kO (by simp)).keep kA (by simp)
 have sOD:=sO.keep kA (by simp)
 have lu3:=oUD.load (off:=0) 5 (by simp)
 simp [Za1] at lu3
 have u3D:=oUD.load1 (off:=3) rfl
 have z1:=Zrq (nb u) (by omega)
 rw [Zr] at z1
 have z2:(nb u:Int)≤9223372036854775807:=by omega
 have z3:nb u * 8≤281474976710656:=by omega
 obtain⟨oE,kE,nE⟩:=Zay (m:=mD) (cs:=ints (List.replicate (nb u) 0)) (e:=3) rfl
 obtain⟨ix,hixe⟩:∃ b1,mD.next=b1:=⟨_,rfl⟩
 obtain⟨mE,hmE⟩:∃ mA,mD.new (ints (List.replicate (nb u) 0)) 3=mA:=⟨_,rfl⟩
 rw [hmE,hixe] at oE nE
 rw [hmE] at kE
 obtain⟨oF,kF,nF⟩:=Zay (m:=mE) (cs:=[.slice none 0 0]) (e:=36) rfl
 obtain⟨ib,hib⟩:∃ b1,mE.next=b1:=⟨_,rfl⟩
 obtain⟨mF,hmF⟩:∃ mA,mE.new [.slice none 0 0] 36=mA:=⟨_,rfl⟩
 rw [hmF,hib] at oF nF
 rw [hmF] at kF
 obtain⟨oG,kG,nG⟩:=Zay (m:=mF) (cs:=[.slice none 0 0]) (e:=36) rfl
 obtain⟨pb,hpb⟩:∃ b1,mF.next=b1:=⟨_,rfl⟩
 obtain⟨mG,hmG⟩:∃ mA,mF.new [.slice none 0 0] 36=mA:=⟨_,rfl⟩
 rw [hmG,hpb] at oG nG
 rw [hmG] at kG
 obtain⟨mH,eH,oH,kH⟩:=Zap (r:=_) rfl (oF.keep kG (by simp)) (off:=0) (vs:=[.slice (some ⟨ix,0,none⟩) (nb u) (nb u)]) (by simp) (by simp [Zai])
 simp [Zb5] at oH
 obtain⟨oI,kI,nI⟩:=Zay (m:=mH) (cs:=ints (List.replicate (nb u) 0)) (e:=3) rfl
 obtain⟨px,hpx⟩:∃ b1,mH.next=b1:=⟨_,rfl⟩
 obtain⟨mI,hmI⟩:∃ mA,mH.new (ints (List.replicate (nb u) 0)) 3=mA:=⟨_,rfl⟩
 rw [hmI,hpx] at oI nI
 rw [hmI] at kI
 have hmH:mG.next≤mH.next:=kH.1
 obtain⟨mJ,eJ,oJ,kJ⟩:=Zap (r:=_) rfl (((oG.keep kH (by simp;omega)).keep kI (by simp))) (off:=0) (vs:=[.slice (some ⟨px,0,none⟩) (nb u) (nb u)]) (by simp) (by simp [Zai])
 simp [Zb5] at oJ
 have hmJ:mI.next≤mJ.next:=kJ.1
 have ubD:ub < mD.next:=oUD.flt
 have oUE:=oUD.keep kE (by simp)
 have oUF:=oUE.keep kF (by simp)
 have oUG:=oUF.keep kG (by simp)
 have oUH:=oUG.keep kH (by simp;omega)
 have oUI:=oUH.keep kI (by simp)
 have uE:=oUE.load1 (off:=3) rfl
 have uF:=oUF.load1 (off:=3) rfl
 have uG:=oUG.load1 (off:=3) rfl
 have uH:=oUH.load1 (off:=3) rfl
 have uI:=oUI.load1 (off:=3) rfl
 have iJ:=(oH.keep kI (by simp)).keep kJ (by simp;omega)
 have i0:=iJ.load1 (off:=0) rfl
 have KDJ:Zag mD mJ []:=Zbf (Zbf (Zbf (Zbf (Zbf kE kF (by simp)) kG (by simp)) kH (by simp;omega)) kI (by simp)) kJ (by simp;omega)
 have KJ:Zag m mJ []:=((kU.trans kO).trans kA).trans KDJ
 have A0:DAt mJ (nb u) ib pb ix px (List.replicate (nb u) 0) (List.replicate (nb u) 0):=
  ⟨iJ,oJ,((((oE.keep kF (by simp)).keep kG (by simp)).keep kH (by simp;omega)).keep kI (by simp)).keep kJ (by simp;omega),oI.keep kJ (by simp;omega),by simp,by simp,by omega,by omega,by omega,by omega,by omega,by omega⟩
 have hOJ:Za5 (fun f=>f < ix) mJ po O:=by
  refine Za5.keep ⟨pf,sOD.rs,fun hl=>?_⟩ KDJ (by simp)
  obtain⟨b,_,o⟩:=sOD.own hl
  have:=o.flt;omega
 have hAJ:∀ k < nb u,Za5 (fun f=>f < ix) mJ (ao k) ((Zaz u).getD k []):=by
  intro k hk
  have hk':k < (Zaz u).length:=by rw [Zft];exact hk
  refine Za5.keep ⟨fm k,(hA.row k hk').rs,fun hl=>?_⟩ KDJ (by simp)
  obtain⟨b,_,o⟩:=(hA.row k hk').own hl
  have:=o.flt;omega
 have hAo:=hA.own.keep KDJ (by simp)
 have ofx:of < ix:=by have:=hA.own.flt;omega
 have hAc:∀ k < nb u,(Zjf ao (Zaz u))[k]?=some (.slice (ao k) ((Zaz u).getD k []).length ((Zaz u).getD k []).length):=fun k hk=>Zhp _ (by rw [Zft];exact hk)
 have hix:m.next≤ix:=by have:=(kU.trans kO).1;have:=kA.1;omega
 have hpx':m.next≤px:=by omega
 have ixpx:ix < px:=by omega
 have hK:∀ (mX mY:Mem) (f:Nat),f=ix∨f=px→Zag m mX []→Zag mX mY [f]→Zag m mY []:=fun mX mY f hf k1 k2=>k1.fresh k2 (by simp;omega)
 have hKJ:∀ (mX mY:Mem) (f:Nat),f=ix∨f=px→Zag mJ mX [ix,px]→Zag mX mY [f]→Zag mJ mY [ix,px]:=fun mX mY f hf k1 k2=>k1.trans (k2.mono (by simp;omega))
 refine Zfz 71 [71,78,84,94] k53 hN.dom rfl ?_
 simp [-Int.natCast_add,-List.map_replicate,Zdh b34,Zao Z1m,Za Zbl,Zaa Zgb,Zac u31,Znh u36 ap3,Zas Ycj,Zad Zgt,Zaa Zb3,Zac u36,hmB,hub,lu,cO,lu2,cA,u3D,z1,z2,z3,hixe,hmE,hib,hmF,hpb,hmG,eH,hpx,hmI,eJ,uE,uF,uG,uH,i0]
 clear i0 uE uF uG uH uI oUE oUF oUG oUH oUI eJ oJ oI kI nI eH oH kH oG kG nG oF kF nF oE kE nE lu lu2 lu3 u3D cO cA sOD sO hA oUD oU iJ kJ hmJ hmI
 refine Zaq 71 [71,78,84,94] (fun d E mX=>∃ (i:Nat),nb u - i=d∧i≤nb u∧DAt mX (nb u) ib pb ix px (List.replicate i (-1)++List.replicate (nb u - i) 0) (List.replicate (nb u) 0)∧Zag m mX []∧Zag mJ mX [ix,px]∧
  E=[(3,.slice po O.length O.length),(4,.slice (some ⟨ob,0,none⟩) (nb u) (nb u)),(5,.pointer (some ⟨ib,0,none⟩)),(6,.pointer (some ⟨pb,0,none⟩)),(30,.int .i64 (nb u)),(31,.int .i64 (i:Int))]) _ ⟨_,⟨0,rfl,by omega,by simpa using A0,KJ,.refl _ _,rfl⟩,⟨by rfl,by rfl,by rfl,by rfl,by rfl,by rfl,trivial⟩⟩ ?_
 clear A0
 rintro d E mX ih ⟨i,hd,hi,hX,kX,kJX,rfl⟩
 have im:(i:Int)≤9223372036854775807:=by omega
 have l5:=hX.vi.load1 (off:=0) rfl
 by_cases hlt:i < nb u
 ·have i1:(i:Int) < nb u:=by omega
  have wi:IntKind.i64.wrap ((i:Int)+1)=((i+1:Nat):Int):=by rw [Zaf (by omega) (by omega)];omega
  obtain⟨mG,eG,hG,kG⟩:=hX.seti hlt (-1)
  rw [Zu7 _ _ _ _ hlt] at hG
  simp [-Int.natCast_add,Zaa Zb3,Zab u36 sz3,Zad sz3,i1,im,hlt,l5,eG,wi]
  exact ih _ _ _ _ ⟨i+1,rfl,by omega,hG,hK _ _ _ (Or.inl rfl) kX kG,hKJ _ _ _ (Or.inl rfl) kJX kG,rfl⟩ (by omega) ⟨by rfl,by rfl,by rfl,by rfl,by rfl,by rfl,trivial⟩
 clear ih
 have i1:¬ (i:Int) < nb u:=by omega
 have ei:i=nb u:=by omega
 rw [ei,Nat.sub_self,List.replicate_zero,List.append_nil] at hX
 have hP0:Zht 0 O (List.replicate (nb u) 0)=P:=hP
 simp [-Int.natCast_add,-List.map_replicate,Zac u36,i1]
 refine Zaq 71 [71,78,84,94] (fun d E mX=>∃ (i:Nat) (P1:List Int),O.length - i=d∧i≤O.length∧DAt mX (nb u) ib pb ix px (List.replicate (nb u) (-1)) P1∧Zag m mX []∧Zag mJ mX [ix,px]∧Zht i (O.drop i) P1=P∧
  E=[(3,.slice po O.length O.length),(4,.slice (some ⟨ob,0,none⟩) (nb u) (nb u)),(5,.pointer (some ⟨ib,0,none⟩)),(6,.pointer (some ⟨pb,0,none⟩)),(38,.slice po O.length O.length),(39,.int .i64 O.length),(40,.int .i64 (i:Int))]) _ ⟨_,⟨0,_,rfl,by omega,hX,kX,kJX,by rw [List.drop_zero];exact hP0,rfl⟩,⟨by rfl,by rfl,by rfl,by rfl,by rfl,by rfl,by rfl,trivial⟩⟩ ?_
 clear hX kX kJX l5 im hi i1 ei hP0
 rintro d E mX ih ⟨i,P1,hd,hi,hX,kX,kJX,hp,rfl⟩
 have im:(i:Int)≤9223372036854775807:=by omega
 have l5:=hX.vi.load1 (off:=0) rfl
 have l6:=hX.vp.load1 (off:=0) rfl
 by_cases hlt:i < O.length
 ·have i1:(i:Int) < O.length:=by omega
  have wi:IntKind.i64.wrap ((i:Int)+1)=((i+1:Nat):Int):=by rw [Zaf (by omega) (by omega)];omega
  obtain⟨xb,rfl,li⟩:=(hOJ.keep kJX (by simp;omega)).get hlt
  rw [Zco hlt,Zht] at hp
  have hkb:=hOn _ (Za8 hlt)
  obtain⟨k,hk⟩:∃ k:Nat,O.getD i 0=(k:Int):=⟨(O.getD i 0).toNat,by omega⟩
  rw [hk] at li hkb hp
  rw [Int.toNat_natCast] at hp
  have hkn:k < nb u:=by omega
  have k1:(k:Int) < nb u:=by omega
  have k2:(k:Int)≤9223372036854775807:=by omega
  obtain⟨mG,eG,hG,kG⟩:=hX.setp hkn (i:Int)
  simp [-Int.natCast_add,-List.getD_eq_getElem?_getD,Zaa Zb3,Zab u36 sz3,Zad sz3,Zaa ld3,i1,im,hlt,l6,li,k2,hkn,eG,wi]
  exact ih _ _ _ _ ⟨i+1,_,rfl,by omega,hG,hK _ _ _ (Or.inr rfl) kX kG,hKJ _ _ _ (Or.inr rfl) kJX kG,hp,rfl⟩ (by omega) ⟨by rfl,by rfl,by rfl,by rfl,by rfl,by rfl,by rfl,trivial⟩
 clear ih
 have i1:¬ (i:Int) < O.length:=by omega
 rw [List.drop_of_length_le (by omega),Zht] at hp
 subst hp
 have hOl0:O.length≠0:=fun e=>hO0 (List.length_eq_zero_iff.1 e)
 obtain⟨mY,eY,hY,kY⟩:=hX.seti hb0 0
 have n0:(0:Int) < nb u:=by omega
 have hOl1:¬ (O.length:Int)=0:=by omega
 simp [-Int.natCast_add,-List.map_replicate,Zaa Zb3,Zac u36,Zab u36 sz3,Zad sz3,i1,hOl0,l5,hb0,eY]
 have kY1:=hK _ _ _ (Or.inl rfl) kX kY
 have kY2:=hKJ _ _ _ (Or.inl rfl) kJX kY
 clear hX kX kJX l5 l6 im hi i1 eY kY
 refine Zaq 71 [71,78,84,94] (fun d E mX=>∃ (I:List Int) (ch:Bool),DAt mX (nb u) ib pb ix px I P1∧Zag m mX []∧Zag mJ mX [ix,px]∧J 0 I∧Zgz u P1 (O.drop 1) d (I,ch)=some I'∧
  E=[(3,.slice po O.length O.length),(4,.slice (some ⟨ob,0,none⟩) (nb u) (nb u)),(5,.pointer (some ⟨ib,0,none⟩)),(6,.pointer (some ⟨pb,0,none⟩)),(10,.func (.func 73) #[] #[.pointer (some ⟨pb,0,none⟩),.pointer (some ⟨ib,0,none⟩)]),(11,.bool ch)]) D2 ⟨_,⟨_,true,hY,kY1,kY2,hJ0,hD,rfl⟩,⟨by rfl,by rfl,by rfl,by rfl,by rfl,by rfl,trivial⟩⟩ ?_
 clear hY kY1 kY2 hJ0 hD
 rintro d E mX ih ⟨I,ch,hX,kX,kJX,hj,hd,rfl⟩
 cases ch
 case false =>
  clear ih
  have hI:I=I':=by
   cases d with
   | zero=>simp [Zgz] at hd;exact hd
   | succ d=>simp [Zgz] at hd
  subst hI
  have l5:=hX.vi.load1 (off:=0) rfl
  obtain⟨mZ,eZ,hZ,kZ⟩:=hX.seti hb0 (-1)
  have l5':=hZ.vi.load1 (off:=0) rfl
  simp [-Int.natCast_add,-List.map_set,Zaa Zb3,Zab u36 sz3,Zad sz3,l5,hb0,eZ,l5']
  exact⟨⟨ix,rfl,hZ.oi,by omega⟩,hK _ _ _ (Or.inl rfl) kX kZ⟩
 cases d with
 | zero=>simp [Zgz] at hd
 | succ d =>
  have hd':Zgz u P1 (O.drop 1) d (Z3h u P1 (O.drop 1) (I,false))=some I':=by simpa [Zgz] using hd
  clear hd
  obtain⟨fO',hRs,hqO⟩:=hOJ
  obtain⟨xb,hpo,hRd⟩:=hRs.rdo hOl0
  have hfO:fO'∉[ix,px]:=by have:=hqO hOl0;simp;omega
  subst hpo
  have o1:(1:Int)≤O.length:=by omega
  have o2:1≤O.length:=by omega
  have o3:(O.length:Int)≤9223372036854775807:=by omega
  have el:Zi7 mX xb 3=true:=by unfold Zi7;rw [(hRd.keep kJX hfO).blk];simp
  have hTl:(O.drop 1).length=O.length - 1:=by simp
  obtain⟨n1,hn1⟩:∃ n1,O.length - 1=n1:=⟨_,rfl⟩
  rw [hn1] at hTl
  simp [-Int.natCast_add,Zac u36,Zc9 u36 sz3,o2,el,hn1]
  have hTO:∀ j,(O.drop 1).getD j 0=O.getD (j+1) 0:=fun j=>by
   rw [List.getD_eq_getElem?_getD,List.getD_eq_getElem?_getD,List.getElem?_drop,Nat.add_comm]
  obtain⟨T,hT⟩:∃ T,O.drop 1=T:=⟨_,rfl⟩
  rw [hT] at hTl hTO hJ hd'
  refine Zaq 71 [71,78,84,94] (fun d4 E mX=>∃ (i:Nat) (I:List Int) (ch:Bool),n1 - i=d4∧i≤n1∧DAt mX (nb u) ib pb ix px I P1∧Zag m mX []∧Zag mJ mX [ix,px]∧J i I∧Zgz u P1 T d ((T.drop i).foldl (Zo3 u P1) (I,ch))=some I'∧
   E=[(3,.slice (some ⟨xb,0,none⟩) O.length O.length),(4,.slice (some ⟨ob,0,none⟩) (nb u) (nb u)),(5,.pointer (some ⟨ib,0,none⟩)),(6,.pointer (some ⟨pb,0,none⟩)),(10,.func (.func 73) #[] #[.pointer (some ⟨pb,0,none⟩),.pointer (some ⟨ib,0,none⟩)]),(11,.bool ch),(59,.slice (some ⟨xb,1,none⟩) n1 n1),(60,.int .i64 (n1:Int)),(61,.int .i64 (i:Int))]) _ ⟨_,⟨0,I,false,rfl,by omega,hX,kX,kJX,hj,by rw [List.drop_zero];exact hd',rfl⟩,⟨by rfl,by rfl,by rfl,by rfl,by rfl,by rfl,by rfl,by rfl,by rfl,trivial⟩⟩ ?_
  clear hX kX kJX hj hd' el I
  rintro d4 E mX ih4 ⟨i,I,ch,hd4,hi,hX,kX,kJX,hj,hd',rfl⟩
  have im:(i:Int)≤9223372036854775807:=by omega
  by_cases hit:i < n1
  ·have i1:(i:Int) < n1:=by omega
   have wi:IntKind.i64.wrap ((i:Int)+1)=((i+1:Nat):Int):=by rw [Zaf (by omega) (by omega)];omega
   have lO:=(hRd.keep kJX hfO).load1 (off:=i+1) (Zc1 (by omega))
   rw [← hTO i] at lO
   have lO':=lO
   rw [Nat.add_comm] at lO'
   rw [Zco (show i < T.length by omega),List.foldl_cons] at hd'
   have hstep:=hJ.step i I hj (by omega)
   have hTm:T.getD i 0∈O:=by rw [hTO];exact Za8 (by omega)
   have hkb:=hOn _ hTm
   obtain⟨b,hb⟩:∃ k:Nat,T.getD i 0=(k:Int):=⟨(T.getD i 0).toNat,by omega⟩
   rw [hb] at lO lO' hkb hd' hstep
   rw [Int.toNat_natCast] at hstep
   have eB:Zo3 u P1 (I,ch) (b:Int)=(I.set b (Zha u P1 I b),ch || !decide (I.getD b 0=Zha u P1 I b)):=by unfold Zo3;rw [Int.toNat_natCast]
   rw [eB] at hd'
   have hbn:b < nb u:=by omega
   have b1:(b:Int) < nb u:=by omega
   have b2:(b:Int)≤9223372036854775807:=by omega
   have hIl:=hJ.len i I hj
   have hIu:=hJ.up i I hj
   have hIm:=hJ.meet i I hj
   have lrow:=(hAo.keep kJX (by simp;omega)).load1 (off:=b) (hAc b hbn)
   have hrow:=(hAJ b hbn).keep kJX (by simp;omega)
   have hrl:((Zaz u).getD b []).length≤1000000:=Zlc hnx hnb b
   have hrb:∀ a∈(Zaz u).getD b [],(0:Int)≤a∧a < nb u:=Zk6 u b
   have hDD:((Zaz u).getD b []).foldl (Zor P1 I) (-1)=Zha u P1 I b:=rfl
   obtain⟨l,hl⟩:∃ l,(Zaz u).getD b []=l:=⟨_,rfl⟩
   rw [hl] at lrow hrow hrl hrb hDD
   obtain⟨DD,hDe⟩:∃ DD,Zha u P1 I b=DD:=⟨_,rfl⟩
   rw [hDe] at hDD hd' hstep
   simp [-Int.natCast_add,-List.getD_eq_getElem?_getD,Zaa Zb3,Zac u36,Zab u36 sz3,Zaa ld3,Zab Z1q Zgt,i1,im,hit,lO',b2,hbn,lrow]
   refine Zaq 71 [71,78,84,94] (fun d5 E mY=>∃ (j:Nat) (dd:Int),l.length - j=d5∧j≤l.length∧mY=mX∧(-1:Int)≤dd∧dd < nb u∧(0≤dd→0≤I.getD dd.toNat 0)∧(l.drop j).foldl (Zor P1 I) dd=DD∧
    E=[(3,.slice (some ⟨xb,0,none⟩) O.length O.length),(4,.slice (some ⟨ob,0,none⟩) (nb u) (nb u)),(5,.pointer (some ⟨ib,0,none⟩)),(6,.pointer (some ⟨pb,0,none⟩)),(10,.func (.func 73) #[] #[.pointer (some ⟨pb,0,none⟩),.pointer (some ⟨ib,0,none⟩)]),(11,.bool ch),(13,.int .i64 (b:Int)),(14,.int .i64 dd),(59,.slice (some ⟨xb,1,none⟩) n1 n1),(60,.int .i64 (n1:Int)),(61,.int .i64 (i:Int)),(68,.slice (ao b) l.length l.length),(69,.int .i64 l.length),(70,.int .i64 (j:Int))]) _ ⟨_,⟨0,-1,rfl,by omega,rfl,by omega,by omega,by omega,by rw [List.drop_zero];exact hDD,rfl⟩,⟨by rfl,by rfl,by rfl,by rfl,by rfl,by rfl,by rfl,by rfl,by rfl,by rfl,by rfl,by rfl,by rfl,by rfl,trivial⟩⟩ ?_
   rintro d5 E mY ih5 ⟨j,dd,hd5,hj5,rfl,hd1,hd2,hd3,hfo,rfl⟩
   have jm:(j:Int)≤9223372036854775807:=by omega
   have l5:=hX.vi.load1 (off:=0) rfl
   by_cases hjt:j < l.length
   ·have j1:(j:Int) < l.length:=by omega
    have wj:IntKind.i64.wrap ((j:Int)+1)=((j+1:Nat):Int):=by rw [Zaf (by omega) (by omega)];omega
    obtain⟨yb,hyb,lj⟩:=hrow.get hjt
    rw [hyb] at ih5 ⊢
    rw [Zco hjt,List.foldl_cons] at hfo
    have hab:=hrb _ (Za8 hjt)
    obtain⟨a,ha⟩:∃ k:Nat,l.getD j 0=(k:Int):=⟨(l.getD j 0).toNat,by omega⟩
    rw [ha] at lj hab hfo
    have han:a < nb u:=by omega
    have a1:(a:Int) < nb u:=by omega
    have a2:(a:Int)≤9223372036854775807:=by omega
    have la:=hX.oi.load1 (off:=a) (Zc1 (by omega))
    have eS:Zor P1 I dd (a:Int)=if I.getD a 0 < 0 then dd else if dd < 0 then (a:Int) else (Zl2 P1 I (2 * I.length+2) dd.toNat a:Nat):=by unfold Zor;rw [Int.toNat_natCast]
    rw [eS] at hfo
    by_cases hia:I.getD a 0 < 0
    ·rw [if_pos hia] at hfo
     simp [-Int.natCast_add,-List.getD_eq_getElem?_getD,Zaa Zb3,Zab u36 sz3,Zaa ld3,j1,jm,hjt,lj,a2,han,l5,la,hia,wj]
     exact ih5 _ _ _ _ ⟨j+1,dd,rfl,by omega,rfl,hd1,hd2,hd3,hfo,rfl⟩ (by omega) ⟨by rfl,by rfl,by rfl,by rfl,by rfl,by rfl,by rfl,by rfl,by rfl,by rfl,by rfl,by rfl,by rfl,by rfl,trivial⟩
    rw [if_neg hia] at hfo
    by_cases hdd:dd < 0
    ·rw [if_pos hdd] at hfo
     simp [-Int.natCast_add,-List.getD_eq_getElem?_getD,Zaa Zb3,Zab u36 sz3,Zaa ld3,j1,jm,hjt,lj,a2,han,l5,la,hia,hdd,wj]
     exact ih5 _ _ _ _ ⟨j+1,(a:Int),rfl,by omega,rfl,by omega,by omega,fun _=>by rw [Int.toNat_natCast];omega,hfo,rfl⟩ (by omega) ⟨by rfl,by rfl,by rfl,by rfl,by rfl,by rfl,by rfl,by rfl,by rfl,by rfl,by rfl,by rfl,by rfl,by rfl,trivial⟩
    rw [if_neg hdd] at hfo
    obtain⟨q,rfl⟩:∃ q:Nat,dd=(q:Int):=⟨dd.toNat,by omega⟩
    rw [Int.toNat_natCast] at hfo hd3
    have hqn:q < nb u:=by omega
    obtain⟨DM,c,hDM,hme⟩:=hIm q a hqn han (hd3 (by omega)) (by omega)
    have hgo:=Zrg hme hDM
    rw [hgo] at hfo
    have hcu:=Zx9 hIu hqn han (hd3 (by omega)) (by omega) hme
    have cm:=Z16 hN.meet hX (by omega) hIu hqn han (hd3 (by omega)) (by omega) hme
    simp [-Int.natCast_add,-List.getD_eq_getElem?_getD,Zaa Zb3,Zab u36 sz3,Zaa ld3,j1,jm,hjt,lj,a2,han,l5,la,hia,hdd,cm,wj]
    exact ih5 _ _ _ _ ⟨j+1,(c:Int),rfl,by omega,rfl,by omega,by omega,fun _=>by rw [Int.toNat_natCast];exact hcu.2,hfo,rfl⟩ (by omega) ⟨by rfl,by rfl,by rfl,by rfl,by rfl,by rfl,by rfl,by rfl,by rfl,by rfl,by rfl,by rfl,by rfl,by rfl,trivial⟩
   clear ih5
   have j1:¬ (j:Int) < l.length:=by omega
   rw [List.drop_of_length_le (show l.length≤j by omega),List.foldl_nil] at hfo
   subst hfo
   have lb:=hX.oi.load1 (off:=b) (Zc1 (by omega))
   obtain⟨mW,eW,hW,kW⟩:=hX.seti hbn dd
   obtain⟨wv,hwv⟩:∃ w,I.getD b 0=w:=⟨_,rfl⟩
   rw [hwv] at lb hd'
   by_cases hbd:wv=dd
   ·have hset:I.set b dd=I:=by
     rw [← hbd,← hwv]
     apply Ziw (by simp)
     intro k hk
     rw [Zbo _ _ _ _ (by omega)]
     split
     ·rename_i e;rw [e]
     ·rfl
    have:(!decide (wv=dd))=false:=by simp [hbd]
    rw [this,Bool.or_false,hset] at hd'
    rw [hset] at hstep
    simp [-Int.natCast_add,-List.getD_eq_getElem?_getD,Zaa Zb3,Zab u36 sz3,Zaa ld3,j1,l5,b2,hbn,lb,hbd,wi]
    exact ih4 _ _ _ _ ⟨i+1,I,ch,rfl,by omega,hX,kX,kJX,hstep,hd',rfl⟩ (by omega) ⟨by rfl,by rfl,by rfl,by rfl,by rfl,by rfl,by rfl,by rfl,by rfl,trivial⟩
   ·have:(!decide (wv=dd))=true:=by simp [hbd]
    rw [this,Bool.or_true] at hd'
    simp [-Int.natCast_add,-List.getD_eq_getElem?_getD,Zaa Zb3,Zab u36 sz3,Zad sz3,Zaa ld3,j1,l5,b2,hbn,lb,hbd,eW,wi]
    exact ih4 _ _ _ _ ⟨i+1,_,true,rfl,by omega,hW,hK _ _ _ (Or.inl rfl) kX kW,hKJ _ _ _ (Or.inl rfl) kJX kW,hstep,hd',rfl⟩ (by omega) ⟨by rfl,by rfl,by rfl,by rfl,by rfl,by rfl,by rfl,by rfl,by rfl,trivial⟩
  ·clear ih4
   have i1:¬ (i:Int) < n1:=by omega
   have ei:i=T.length:=by omega
   rw [ei] at hj
   rw [List.drop_of_length_le (by omega),List.foldl_nil] at hd'
   simp [-Int.natCast_add,-List.getD_eq_getElem?_getD,i1]
   exact ih _ _ _ _ ⟨I,ch,hX,kX,kJX,hJ.next I hj,by rw [hT];exact hd',rfl⟩ (by omega) ⟨by rfl,by rfl,by rfl,by rfl,by rfl,by rfl,trivial⟩
end Go.Proofs.YtlogdohlcdhepaaDoor.base
end
section
set_option maxRecDepth 100000
namespace Go.Proofs.YtlogdohlcdhepaaDoor.base
open Go.Sh gen
variable {S:Zc}{m:Mem}
def Zlj (I:List Int)(a:Int):Nat→Int→Option Bool
 | 0,b=>if b < 0 then some false else if a=b then some true else none
 | d+1,b=>if b < 0 then none else if a=b then none else Zlj I a d (I.getD b.toNat 0)
def upF (I:List Int)(a:Int):Nat→Int→Bool
 | 0,_=>false
 | k+1,b=>if b < 0 then false else if a=b then true else upF I a k (I.getD b.toNat 0)
theorem Z9 {I:List Int}{a:Int}{D:Nat}{b:Int}{r:Bool}(h:Zlj I a D b=some r){N:Nat}(hN:D < N):upF I a N b=r:=by
 induction D generalizing N b with
 | zero =>
  obtain⟨M,rfl⟩:∃ M,N=M+1:=⟨N - 1,by omega⟩
  rw [Zlj] at h
  rw [upF]
  split at h
  ·rename_i e;rw [if_pos e];simpa using h
  ·rename_i e
   rw [if_neg e]
   split at h
   ·rename_i e2;rw [if_pos e2];simpa using h
   ·cases h
 | succ D ih =>
  obtain⟨M,rfl⟩:∃ M,N=M+1:=⟨N - 1,by omega⟩
  rw [Zlj] at h
  rw [upF]
  split at h
  ·cases h
  ·rename_i e
   rw [if_neg e]
   split at h
   ·cases h
   ·rename_i e2;rw [if_neg e2];exact ih h (by omega)
structure Ck3 (m:Mem)(u:UnT.D)(vo bo so:Option Addr)(cb cf b1 b2 f1 f2 ix:Nat)(bl pl I:List Int):Prop where
 c:Zon m u vo bo so (.slice (some ⟨ix,0,none⟩) (nb u) (nb u)) cb cf b1 b2 f1 f2 bl pl
 o3:Own m ix (ints I) 3 ix
theorem Ck3.keep0 {m1:Mem}{u:UnT.D}{vo bo so:Option Addr}{cb cf b1 b2 f1 f2 ix:Nat}{bl pl I:List Int}(h:Ck3 m u vo bo so cb cf b1 b2 f1 f2 ix bl pl I)(k:Zag m m1 []):Ck3 m1 u vo bo so cb cf b1 b2 f1 f2 ix bl pl I:=⟨h.c.keep0 k,h.o3.keep k (by simp)⟩
structure Rok (u:UnT.D)(bl pl I:List Int):Prop where
 lb:bl.length=nv u
 lp:pl.length=nv u
 li:I.length=nb u
 bb:∀ i < nv u,0≤bl.getD i 0∧bl.getD i 0 < nb u
 ii:∀ x < nb u,I.getD x 0 < nb u
 up:∀ (a:Int) (b:Nat),b < nb u→∃ d,d < nb u+2∧Zlj I a d b=some (upF I a (nb u+2) b)
theorem Zp4 (hS:S 83=[]){u:UnT.D}{vo bo so:Option Addr}{cb cf b1 b2 f1 f2 ix:Nat}{bl pl I:List Int}(hC:Ck3 m u vo bo so cb cf b1 b2 f1 f2 ix bl pl I)(hR:Rok u bl pl I)(hnb:nb u≤1000){a:Int}{b:Nat}(hb:b < nb u) :
  Zal Tryd.prog TT S 83 [.pointer (some ⟨cb,0,none⟩),.int .i64 a,.int .i64 (b:Int)] m=some (.bool (upF I a (nb u+2) b),m):=by
 have c7:=hC.c.c.load1 (off:=7) rfl
 obtain⟨D,_,hD⟩:=hR.up a b hb
 obtain⟨R,hRe⟩:∃ R,upF I a (nb u+2) b=R:=⟨_,rfl⟩
 rw [hRe] at hD ⊢
 refine Zb9 7 [8,11] k83 hS rfl ?_
 simp [-Int.natCast_add]
 refine Zaq 7 [8,11] (fun d E mF=>∃ (b:Int),mF=m∧b < nb u∧Zlj I a d b=some R∧
  E=[(0,.pointer (some ⟨cb,0,none⟩)),(1,.int .i64 a),(2,.int .i64 b)]) D ⟨_,⟨(b:Int),rfl,by omega,hD,rfl⟩,⟨by rfl,by rfl,by rfl,trivial⟩⟩ ?_
 clear hD hRe hb
 rintro d E mF ih ⟨b,rfl,hb,hd,rfl⟩
 by_cases h0:b < 0
 ·have h0':¬ 0≤b:=by omega
  have:R=false:=by
   cases d with
   | zero=>rw [Zlj,if_pos h0] at hd;simpa using hd.symm
   | succ d=>rw [Zlj,if_pos h0] at hd;cases hd
  simp [-Int.natCast_add,h0',this]
 have h0':0≤b:=by omega
 by_cases hab:a=b
 ·have:R=true:=by
   cases d with
   | zero=>rw [Zlj,if_neg h0,if_pos hab] at hd;simpa using hd.symm
   | succ d=>rw [Zlj,if_neg h0,if_pos hab] at hd;cases hd
  simp [-Int.natCast_add,h0',hab,this]
 cases d with
 | zero=>rw [Zlj,if_neg h0,if_neg hab] at hd;cases hd
 | succ d =>
  rw [Zlj,if_neg h0,if_neg hab] at hd
  obtain⟨q,rfl⟩:∃ q:Nat,b=(q:Int):=⟨b.toNat,by omega⟩
  rw [Int.toNat_natCast] at hd
  have hq:q < nb u:=by omega
  have q2:(q:Int)≤9223372036854775807:=by omega
  have lq:=hC.o3.load1 (off:=q) (Zc1 (by rw [hR.li];exact hq))
  simp [-Int.natCast_add,-List.getD_eq_getElem?_getD,Za Z4z,Zaa Zb3,Zab u36 sz3,Zaa ld3,h0',hab,c7,hq,q2,lq]
  exact ih _ _ _ _ ⟨_,rfl,hR.ii q hq,hd,rfl⟩ (by omega) ⟨by rfl,by rfl,by rfl,trivial⟩
def Znd (u:UnT.D)(bl pl I:List Int)(block place:Int)(v:Int):Bool:=
 !(decide (bl.getD v.toNat 0=block) && decide (place≤pl.getD v.toNat 0)) && upF I (bl.getD v.toNat 0) (nb u+2) block
def Zi4 (u:UnT.D)(bl pl I:List Int)(block place:Int)(l:List Int):Bool:=l.all (Znd u bl pl I block place)
set_option maxHeartbeats 4000000 in
theorem Zkh (hS:S 74=[])(hD:S 83=[]){u:UnT.D}{vo bo so:Option Addr}{cb cf b1 b2 f1 f2 ix:Nat}{bl pl I:List Int}(hC:Ck3 m u vo bo so cb cf b1 b2 f1 f2 ix bl pl I)(hR:Rok u bl pl I)(hnb:nb u≤1000)(hnv:nv u≤1000000)
  {Q:Nat→Prop} {l:List Int} {ao:Option Addr} (hl:Za5 Q m ao l) (hll:l.length≤20000000000000) (hlv:∀ v∈l,(0:Int)≤v∧v < nv u) {block:Nat} (hb:block < nb u) {place:Int} :
  Zal Tryd.prog TT S 74 [.pointer (some ⟨cb,0,none⟩),.slice ao l.length l.length,.int .i64 (block:Int),.int .i64 place] m=some (.bool (Zi4 u bl pl I block place l),m):=by
 have c5:=hC.c.c.load1 (off:=5) rfl
 have c6:=hC.c.c.load1 (off:=6) rfl
 obtain⟨R,hRe⟩:∃ R,Zi4 u bl pl I block place l=R:=⟨_,rfl⟩
 rw [hRe]
 refine Zb9 14 [14,49] k74 hS rfl ?_
 simp [-Int.natCast_add,Zac u36]
 refine Zaq 14 [14,49] (fun d E mF=>∃ (i:Nat),l.length - i=d∧i≤l.length∧mF=m∧(l.drop i).all (Znd u bl pl I block place)=R∧
  E=[(0,.pointer (some ⟨cb,0,none⟩)),(2,.int .i64 (block:Int)),(3,.int .i64 place),(11,.slice ao l.length l.length),(12,.int .i64 l.length),(13,.int .i64 (i:Int))]) _ ⟨_,⟨0,rfl,by omega,rfl,by rw [List.drop_zero];exact hRe,rfl⟩,⟨by rfl,by rfl,by rfl,by rfl,by rfl,by rfl,trivial⟩⟩ ?_
 rintro d E mF ih ⟨i,hd,hi,rfl,ha,rfl⟩
 have im:(i:Int)≤9223372036854775807:=by omega
 by_cases hlt:i < l.length
 ·have i1:(i:Int) < l.length:=by omega
  have wi:IntKind.i64.wrap ((i:Int)+1)=((i+1:Nat):Int):=by rw [Zaf (by omega) (by omega)];omega
  obtain⟨lb,rfl,li⟩:=hl.get hlt
  rw [Zco hlt,List.all_cons] at ha
  have hvb:=hlv _ (Za8 hlt)
  obtain⟨v,hv⟩:∃ k:Nat,l.getD i 0=(k:Int):=⟨(l.getD i 0).toNat,by omega⟩
  rw [hv] at li ha hvb
  have hvn:v < nv u:=by omega
  have v1:(v:Int) < nv u:=by omega
  have v2:(v:Int)≤9223372036854775807:=by omega
  have l1:=hC.c.o1.load1 (off:=v) (Zc1 (by rw [hR.lb];exact hvn))
  have l2:=hC.c.o2.load1 (off:=v) (Zc1 (by rw [hR.lp];exact hvn))
  have eV:Znd u bl pl I block place (v:Int)=(!(decide (bl.getD v 0=(block:Int)) && decide (place≤pl.getD v 0)) && upF I (bl.getD v 0) (nb u+2) block):=by unfold Znd;rw [Int.toNat_natCast]
  rw [eV] at ha
  have dr:=Zp4 hD hC hR hnb (a:=bl.getD v 0) hb
  obtain⟨x,hx⟩:∃ x,bl.getD v 0=x:=⟨_,rfl⟩
  obtain⟨y,hy⟩:∃ x,pl.getD v 0=x:=⟨_,rfl⟩
  rw [hx] at l1 ha dr
  rw [hy] at l2 ha
  obtain⟨q,hq⟩:∃ q,upF I x (nb u+2) block=q:=⟨_,rfl⟩
  rw [hq] at dr ha
  by_cases h1:x=(block:Int)
  ·by_cases h2:place≤y
   ·have:R=false:=by rw [← ha];simp [h1,h2]
    simp [-Int.natCast_add,-List.getD_eq_getElem?_getD,Zab u36 sz3,Zaa ld3,Za Zic,Zaa Zb3,Za Znr,i1,im,hlt,li,c5,c6,v2,hvn,l1,l2,h1,h2,this]
   ·subst h1
    cases q
    ·have:R=false:=by rw [← ha];simp
     simp [-Int.natCast_add,-List.getD_eq_getElem?_getD,Zab u36 sz3,Zaa ld3,Za Zic,Zaa Zb3,Za Znr,i1,im,hlt,li,c5,c6,v2,hvn,l1,l2,h2,dr,this]
    ·simp [-Int.natCast_add,-List.getD_eq_getElem?_getD,Zab u36 sz3,Zaa ld3,Za Zic,Zaa Zb3,Za Znr,i1,im,hlt,li,c5,c6,v2,hvn,l1,l2,h2,dr,wi]
     exact ih _ _ _ _ ⟨i+1,rfl,by omega,rfl,by rw [← ha];simp [h2],rfl⟩ (by omega) ⟨by rfl,by rfl,by rfl,by rfl,by rfl,by rfl,trivial⟩
  ·cases q
   ·have:R=false:=by rw [← ha];simp
    simp [-Int.natCast_add,-List.getD_eq_getElem?_getD,Zab u36 sz3,Zaa ld3,Za Zic,Zaa Zb3,Za Znr,i1,im,hlt,li,c5,v2,hvn,l1,h1,dr,this]
   ·simp [-Int.natCast_add,-List.getD_eq_getElem?_getD,Zab u36 sz3,Zaa ld3,Za Zic,Zaa Zb3,Za Znr,i1,im,hlt,li,c5,v2,hvn,l1,h1,dr,wi]
    exact ih _ _ _ _ ⟨i+1,rfl,by omega,rfl,by rw [← ha];simp [h1],rfl⟩ (by omega) ⟨by rfl,by rfl,by rfl,by rfl,by rfl,by rfl,trivial⟩
 clear ih
 have i1:¬ (i:Int) < l.length:=by omega
 rw [List.drop_of_length_le (by omega),List.all_nil] at ha
 simp [-Int.natCast_add,-List.getD_eq_getElem?_getD,i1,← ha]
end Go.Proofs.YtlogdohlcdhepaaDoor.base
end
section
set_option maxRecDepth 100000
namespace Go.Proofs.YtlogdohlcdhepaaDoor.base
open Go.Sh gen
variable {S:Zc}{m:Mem}
def Zsj (u:UnT.D)(bl pl I:List Int)(block place:Int)(f:Znw.D):Bool:=Zi4 u bl pl I block place f.2.2.1 && Zi4 u bl pl I block place f.2.2.2.1
def Zhr (u:UnT.D)(bl pl I:List Int)(block place:Int)(fs:List Znw.D):Bool:=fs.all (Zsj u bl pl I block place)
def Yb5 (u:UnT.D)(f:Znw.D):Prop:=List.length f.2.2.1≤1000∧List.length f.2.2.2.1≤1000∧(∀ v∈(show List Int from f.2.2.1),(0:Int)≤v∧v < nv u)∧(∀ v∈(show List Int from f.2.2.2.1),(0:Int)≤v∧v < nv u)
set_option maxHeartbeats 4000000 in
theorem Zkm (hS:S 75=[])(hE:S 74=[])(hD:S 83=[]){Q:Nat→Prop}{u:UnT.D}{vo bo so:Option Addr}(hU:UAt Q m u vo bo so){cb cf b1 b2 f1 f2 ix:Nat}{bl pl I:List Int}(hC:Ck3 m u vo bo so cb cf b1 b2 f1 f2 ix bl pl I)(hR:Rok u bl pl I)(hnb:nb u≤1000)(hnv:nv u≤1000000)
  {i:Nat} (hi:i < ns u) (hns:ns u≤1000000) {fs:List Znw.D} (hfs:(u.2.2.2.2.1[i]).1=fs) (hfl:fs.length≤1000) (hfo:∀ f∈fs,Yb5 u f) {block:Nat} (hb:block < nb u) {place:Int} :
  ∃ v m1,Zal Tryd.prog TT S 75 [.pointer (some ⟨cb,0,none⟩),.int .i64 (i:Int),.int .i64 (block:Int),.int .i64 place] m=some (v,m1)∧v=.bool (Zhr u bl pl I block place fs)∧Zag m m1 []:=by
 obtain⟨sb,fo,hso,lds,hfA⟩:=Zqg hU hi
 rw [hfs] at lds hfA
 have l4:=hC.c.c.load1 (off:=4) rfl
 rw [hso] at l4
 have s1:(i:Int) < ns u:=by omega
 have s2:(i:Int)≤9223372036854775807:=by omega
 have ld0:=lds m [] (Zag.refl _ _) (by simp)
 obtain⟨R,hRe⟩:∃ R,Zhr u bl pl I block place fs=R:=⟨_,rfl⟩
 rw [hRe]
 refine Zfz 22 [22,40] k75 hS rfl ?_
 simp [-Int.natCast_add,Za Zbt,Za Zdb,Zaa Zmv,Zab u32 Z8q,Za Zry,Zaa Yab,Zac u65,l4,s2,hi,ld0]
 refine Zaq 22 [22,40] (fun d E mF=>∃ (j:Nat),fs.length - j=d∧j≤fs.length∧(fs.drop j).all (Zsj u bl pl I block place)=R∧Zag m mF []∧
  E=[(0,.pointer (some ⟨cb,0,none⟩)),(2,.int .i64 (block:Int)),(3,.int .i64 place),(19,.slice fo fs.length fs.length),(20,.int .i64 fs.length),(21,.int .i64 (j:Int))]) _ ⟨_,⟨0,rfl,by omega,by rw [List.drop_zero];exact hRe,.refl _ _,rfl⟩,⟨by rfl,by rfl,by rfl,by rfl,by rfl,by rfl,trivial⟩⟩ ?_
 rintro d E mF ih ⟨j,hd,hj,ha,kF,rfl⟩
 have jm:(j:Int)≤9223372036854775807:=by omega
 by_cases hlt:j < fs.length
 ·have j1:(j:Int) < fs.length:=by omega
  have wj:IntKind.i64.wrap ((j:Int)+1)=((j+1:Nat):Int):=by rw [Zaf (by omega) (by omega)];omega
  obtain⟨fb,la,sa,hfb,ldf,hla,hsa⟩:=Zqk (hfA.keep kF (by simp)) hlt
  have hmm:=hfo _ (List.getElem_mem hlt)
  rw [List.drop_eq_getElem_cons hlt,List.all_cons] at ha
  rw [hfb] at ih ⊢
  generalize fs[j]=F at *
  obtain⟨oY,kY,nY⟩:=Zay (m:=mF) (cs:=[.int .i64 0,.int .i64 0,.slice none 0 0,.slice none 0 0]) (e:=64) rfl
  obtain⟨zb,hzb⟩:∃ zb,mF.next=zb:=⟨_,rfl⟩
  obtain⟨mG,eG,oG,kG'⟩:=Zap (r:=_) rfl oY (off:=0) (vs:=frC F la sa) (by simp) (by simp [Zau,Zai])
  simp [Zb5] at oG
  have kG:=kY.fresh kG' (by simp)
  rw [hzb] at oG nY eG
  have K3:Zag m mG []:=kF.trans kG
  have g2:=oG.load1 (off:=2) rfl
  have g3:=oG.load1 (off:=3) rfl
  have hC3:=hC.keep0 K3
  have t1:=Zkh (place:=place) hE hD hC3 hR hnb hnv (hla.keep kG (by simp)) (by have:=hmm.1;omega) hmm.2.2.1 hb
  have t2:=Zkh (place:=place) hE hD hC3 hR hnb hnv (hsa.keep kG (by simp)) (by have:=hmm.2.1;omega) hmm.2.2.2 hb
  obtain⟨n1,hn1⟩:∃ n1:Nat,List.length F.2.2.1=n1:=⟨_,rfl⟩
  obtain⟨n2,hn2⟩:∃ n2:Nat,List.length F.2.2.2.1=n2:=⟨_,rfl⟩
  obtain⟨q1,hq1⟩:∃ b1,Zi4 u bl pl I block place F.2.2.1=b1:=⟨_,rfl⟩
  obtain⟨q2,hq2⟩:∃ b2,Zi4 u bl pl I block place F.2.2.2.1=b2:=⟨_,rfl⟩
  have eF:Zsj u bl pl I block place F=(q1 && q2):=by unfold Zsj;rw [hq1,hq2]
  rw [hq1] at t1
  rw [hq2] at t2
  rw [eF] at ha
  unfold frC at eG g2 g3 ldf
  rw [hn1] at t1 g2
  rw [hn2] at t2 g3
  rw [hn1,hn2] at ldf eG
  cases q1
  ·have:R=false:=by rw [← ha];simp
   rw [this]
   simp [-Int.natCast_add,Zab u65 Zpq,Zao Z1r,Zas Z1s,Zad Zpq,Za Zh2,Zaa Zb3,Za Zi9,j1,jm,hlt,ldf,hzb,eG,g2,t1]
   exact K3
  cases q2
  ·have:R=false:=by rw [← ha];simp
   rw [this]
   simp [-Int.natCast_add,Zab u65 Zpq,Zao Z1r,Zas Z1s,Zad Zpq,Za Zh2,Zaa Zb3,Za Zi9,j1,jm,hlt,ldf,hzb,eG,g2,g3,t1,t2]
   exact K3
  simp [-Int.natCast_add,Zab u65 Zpq,Zao Z1r,Zas Z1s,Zad Zpq,Za Zh2,Zaa Zb3,Za Zi9,j1,jm,hlt,ldf,hzb,eG,g2,g3,t1,t2,wj]
  exact ih _ _ _ _ ⟨j+1,rfl,by omega,by rw [← ha];simp,K3,rfl⟩ (by omega) ⟨by rfl,by rfl,by rfl,by rfl,by rfl,by rfl,trivial⟩
 have j1:¬ (j:Int) < fs.length:=by omega
 rw [List.drop_of_length_le (by omega),List.all_nil] at ha
 rw [← ha]
 simp [-Int.natCast_add,j1]
 exact kF
end Go.Proofs.YtlogdohlcdhepaaDoor.base
end
