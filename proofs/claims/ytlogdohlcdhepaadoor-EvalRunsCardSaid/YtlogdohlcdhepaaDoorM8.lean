/- This text proves what ssa.Dominators answers, Zbr the abstract run, where its rounds come to an end. Condition: nothing is known of the calls ahead ('S f = []'). -/
import Derived.Test.YtlogdohlcdhepaaDoorM7
set_option linter.unusedVariables false
set_option linter.unusedSimpArgs false
section
set_option maxRecDepth 100000
namespace Go.Proofs.YtlogdohlcdhepaaDoor.base
open Go.Sh gen
variable {S:Zb2}{m:Mem}
theorem Zv4 {i n:Nat}{k:Int}{L:List (List Int)}(hi:i < n)(h:∀ j,∀ a∈L.getD j [],(0:Int)≤a∧a < n)(j:Nat):∀ a∈(Zdo i L k).getD j [],(0:Int)≤a∧a < n:=by
 unfold Zdo
 by_cases e:j=k.toNat
 ·subst e
  by_cases hj:k.toNat < L.length
  ·rw [Zd3 hj]
   intro a ha
   rcases List.mem_append.1 ha with ha | ha
   ·exact h _ a ha
   ·simp at ha;omega
  ·rw [List.set_eq_of_length_le (by omega)];exact h _
 ·rw [Zdz e];exact h _
theorem Zwu {i n:Nat}(l:List Int){L:List (List Int)}(hi:i < n)(h:∀ j,∀ a∈L.getD j [],(0:Int)≤a∧a < n):∀ j,∀ a∈(l.foldl (Zdo i) L).getD j [],(0:Int)≤a∧a < n:=by
 induction l generalizing L with
 | nil=>exact h
 | cons k r ih=>rw [List.foldl_cons];exact ih (Zv4 (k:=k) hi h)
theorem Zv8 {n:Nat}(bs:List Zfk.D){i:Nat}{L:List (List Int)}(hi:i+bs.length≤n)(h:∀ j,∀ a∈L.getD j [],(0:Int)≤a∧a < n):∀ j,∀ a∈(Zd9 i bs L).getD j [],(0:Int)≤a∧a < n:=by
 induction bs generalizing i L with
 | nil=>exact h
 | cons b r ih =>
  rw [List.length_cons] at hi
  rw [Zd9]
  exact ih (by omega) (Zwu (show List Int from b.2.2.2.1) (by omega) h)
theorem Zj3 (u:UnT.D):∀ j,∀ a∈(Zaw u).getD j [],(0:Int)≤a∧a < nb u:=by
 unfold Zaw
 refine Zv8 u.2.2.2.1 (by have:nb u=List.length u.2.2.2.1:=rfl;omega) fun j a ha=>?_
 rw [List.getD_eq_getElem?_getD,List.getElem?_replicate] at ha
 split at ha <;> simp at ha
def Zkx (P I:List Int):Nat→Nat→Nat→Nat
 | 0,a,_=>a
 | k+1,a,b=>if a=b then a else if P.getD b 0 < P.getD a 0 then Zkx P I k (I.getD a 0).toNat b else Zkx P I k a (I.getD b 0).toNat
theorem Zq {P I:List Int}{D a b c:Nat}(h:Zdw P I D a b=some c){N:Nat}(hN:D≤N):Zkx P I N a b=c:=by
 induction D generalizing N a b with
 | zero =>
  rw [Zdw] at h
  split at h
  ·rename_i e
   simp only [Option.some.injEq] at h
   subst e
   cases N with
   | zero=>exact h
   | succ N=>rw [Zkx,if_pos rfl];exact h
  ·cases h
 | succ D ih =>
  rw [Zdw] at h
  split at h
  ·cases h
  ·rename_i e
   obtain⟨M,rfl⟩:∃ M,N=M+1:=⟨N - 1,by omega⟩
   rw [Zkx,if_neg e]
   split at h
   ·rename_i e2;rw [if_pos e2];exact ih h (by omega)
   ·rename_i e2;rw [if_neg e2];exact ih h (by omega)
theorem Zy1 {P I:List Int}{n:Nat}(hI:Z9u n I){D a b c:Nat}(ha:a < n)(hb:b < n)(ha0:0≤I.getD a 0)(hb0:0≤I.getD b 0)(h:Zdw P I D a b=some c):c < n∧0≤I.getD c 0:=by
 induction D generalizing a b with
 | zero =>
  rw [Zdw] at h
  split at h
  ·simp only [Option.some.injEq] at h;subst h;exact⟨ha,ha0⟩
  ·cases h
 | succ D ih =>
  rw [Zdw] at h
  split at h
  ·cases h
  ·split at h
   ·exact ih (by have:=(hI a ha ha0).1;omega) hb (hI a ha ha0).2 hb0 h
   ·exact ih ha (by have:=(hI b hb hb0).1;omega) ha0 (hI b hb hb0).2 h
def Zn1 (P I:List Int)(d a:Int):Int:=if I.getD a.toNat 0 < 0 then d else if d < 0 then a else (Zkx P I (2 * I.length+2) d.toNat a.toNat:Nat)
def Zgs (u:UnT.D)(P I:List Int)(b:Nat):Int:=((Zaw u).getD b []).foldl (Zn1 P I) (-1)
def Zns (u:UnT.D)(P:List Int)(s:List Int × Bool)(b:Int):List Int × Bool:=(s.1.set b.toNat (Zgs u P s.1 b.toNat),s.2 || !decide (s.1.getD b.toNat 0=Zgs u P s.1 b.toNat))
def Z2s (u:UnT.D)(P T:List Int)(s:List Int × Bool):List Int × Bool:=T.foldl (Zns u P) s
def Zgc (u:UnT.D)(P T:List Int):Nat→List Int × Bool→Option (List Int)
 | 0,(I,ch)=>if ch=true then none else some I
 | d+1,(I,ch)=>if ch=true then Zgc u P T d (Z2s u P T (I,false)) else none
def Zhb:Nat→List Int→List Int→List Int
 | _,[],P=>P
 | i,b::r,P=>Zhb (i+1) r (P.set b.toNat (i:Int))
def Zgk (n:Nat)(O:List Int):List Int:=Zhb 0 O (List.replicate n 0)
structure Z98 (u:UnT.D)(P T:List Int)(J:Nat→List Int→Prop):Prop where
 len:∀ j I,J j I→I.length=nb u
 up:∀ j I,J j I→Z9u (nb u) I
 meet:∀ j I,J j I→∀ a b,a < nb u→b < nb u→0≤I.getD a 0→0≤I.getD b 0→∃ D c,D≤2 * I.length+2∧Zdw P I D a b=some c
 step:∀ j I,J j I→j < T.length→J (j+1) (I.set (T.getD j 0).toNat (Zgs u P I (T.getD j 0).toNat))
 next:∀ I,J T.length I→J 0 I
def Yca (m m1:Mem)(n:Nat)(I:List Int)(v:Value):Prop:=∃ ix,v=.slice (some ⟨ix,0,none⟩) n n∧Own m1 ix (ints I) 3 ix∧m.next≤ix
structure Nd (S:Zb2):Prop where
 dom:S 53=[]
 meet:S 73=[]
 order:S 72=[]
 ahead:S 70=[]
 below:S 65=[]
 rev:S 82=[]
set_option maxHeartbeats 8000000 in
theorem Z40 (hN:Nd S){Q:Nat→Prop}{u:UnT.D}{vo bo so:Option Addr}(hU:UAt Q m u vo bo so)(hQ:∀ f,Q f→f < m.next)(hb0:0 < nb u)(hnb:nb u≤1000)(hnx:Ztg u)
  {D:Nat} {O':List Int} (hO':Zlg u D (Zpq u)=some O') {O:List Int} (hO:O'.reverse=O) (hOn:∀ x∈O,(0:Int)≤x∧x < nb u) (hO0:O≠[]) (hOl:O.length≤1000)
  {P:List Int} (hP:Zgk (nb u) O=P) {J:Nat→List Int→Prop} (hJ:Z98 u P (O.drop 1) J) (hJ0:J 0 ((List.replicate (nb u) (-1)).set 0 0)) {D2:Nat} {I':List Int} (hD:Zgc u P (O.drop 1) D2 ((List.replicate (nb u) (-1)).set 0 0,true)=some I') :
  ∃ v m1,Zag Tryd.prog TT S 53 [.agg (Zbw u vo bo so).toArray] m=some (v,m1)∧Yca m m1 (nb u) (I'.set 0 (-1)) v∧Zaa m m1 []:=by
 obtain⟨oU,kU,nU⟩:=Zat (m:=m) (cs:=Zbw u vo bo so) (e:=34) rfl
 obtain⟨mB,hmB⟩:∃ mB,m.new (Zbw u vo bo so) 34=mB:=⟨_,rfl⟩
 obtain⟨ub,hub⟩:∃ ub,m.next=ub:=⟨_,rfl⟩
 rw [hmB,hub] at oU nU
 rw [hmB] at kU
 have hcu:(Zbw u vo bo so).toArray=#[.int .i64 u.1,.int .i64 u.2.1,.slice vo (nv u) (nv u),.slice bo (nb u) (nb u),.slice so (ns u) (ns u)]:=rfl
 have lu:=oU.load (off:=0) 5 (by simp)
 simp [Zao] at lu
 have hQ1:∀ f,Q f→f < mB.next:=fun f hf=>by have:=hQ f hf;omega
 obtain⟨vO,mC,cO,⟨po,pf,rfl,sO,fO⟩,kO⟩:=Zrd hN.order hN.below hN.rev (hU.keep kU (by simp)) hQ1 hb0 hnb hnx hO'
 rw [hO] at cO sO
 have lu2:=(oU.keep kO (by simp)).load (off:=0) 5 (by simp)
 simp [Zao] at lu2
 have hQ2:∀ f,Q f→f < mC.next:=fun f hf=>by have:=hQ1 f hf;have:=kO.1;omega
 obtain⟨vA,mD,cA,⟨ob,of,ao,fm,rfl,hA⟩,kA⟩:=Zqk hN.ahead hN.below ((hU.keep kU (by simp)).keep kO (by simp)) hQ2 hnb hnx
 rw [hcu] at cO cA
 rw [Zfj] at cA
 have oUD:=(oU.keep kO (by simp)).keep kA (by simp)
 have sOD:=sO.keep kA (by simp)
 have lu3:=oUD.load (off:=0) 5 (by simp)
 simp [Zao] at lu3
 have u3D:=oUD.load1 (off:=3) rfl
 have z1:=Zp6 (nb u) (by omega)
 rw [Zqr] at z1
 have z2:(nb u:Int)≤9223372036854775807:=by omega
 have z3:nb u * 8≤281474976710656:=by omega
 obtain⟨oE,kE,nE⟩:=Zat (m:=mD) (cs:=ints (List.replicate (nb u) 0)) (e:=3) rfl
 obtain⟨ix,hixe⟩:∃ b1,mD.next=b1:=⟨_,rfl⟩
 obtain⟨mE,hmE⟩:∃ mA,mD.new (ints (List.replicate (nb u) 0)) 3=mA:=⟨_,rfl⟩
 rw [hmE,hixe] at oE nE
 rw [hmE] at kE
 obtain⟨oF,kF,nF⟩:=Zat (m:=mE) (cs:=[.slice none 0 0]) (e:=36) rfl
 obtain⟨ib,hib⟩:∃ b1,mE.next=b1:=⟨_,rfl⟩
 obtain⟨mF,hmF⟩:∃ mA,mE.new [.slice none 0 0] 36=mA:=⟨_,rfl⟩
 rw [hmF,hib] at oF nF
 rw [hmF] at kF
 obtain⟨oG,kG,nG⟩:=Zat (m:=mF) (cs:=[.slice none 0 0]) (e:=36) rfl
 obtain⟨pb,hpb⟩:∃ b1,mF.next=b1:=⟨_,rfl⟩
 obtain⟨mG,hmG⟩:∃ mA,mF.new [.slice none 0 0] 36=mA:=⟨_,rfl⟩
 rw [hmG,hpb] at oG nG
 rw [hmG] at kG
 obtain⟨mH,eH,oH,kH⟩:=Zaj (r:=_) rfl (oF.keep kG (by simp)) (off:=0) (vs:=[.slice (some ⟨ix,0,none⟩) (nb u) (nb u)]) (by simp) (by simp [Zad])
 simp [Zbr] at oH
 obtain⟨oI,kI,nI⟩:=Zat (m:=mH) (cs:=ints (List.replicate (nb u) 0)) (e:=3) rfl
 obtain⟨px,hpx⟩:∃ b1,mH.next=b1:=⟨_,rfl⟩
 obtain⟨mI,hmI⟩:∃ mA,mH.new (ints (List.replicate (nb u) 0)) 3=mA:=⟨_,rfl⟩
 rw [hmI,hpx] at oI nI
 rw [hmI] at kI
 have hmH:mG.next≤mH.next:=kH.1
 obtain⟨mJ,eJ,oJ,kJ⟩:=Zaj (r:=_) rfl (((oG.keep kH (by simp;omega)).keep kI (by simp))) (off:=0) (vs:=[.slice (some ⟨px,0,none⟩) (nb u) (nb u)]) (by simp) (by simp [Zad])
 simp [Zbr] at oJ
 have hmJ:mI.next≤mJ.next:=kJ.1
 have ubD:ub < mD.next:=oUD.flt
 have oUE:=oUD.keep kE (by simp)
 have oUF:=oUE.keep kF (by simp)
 have oUG:=oUF.keep kG (by simp)
 have oUH:=oUG.keep kH (by simp;omega)
 have oUI:=oUH.keep kI (by simp)
 have uE:=oUE.load1 (off:=3) rfl
 have uF:=oUF.load1 (off:=3) rfl
 have uG:=oUG.load1 (off:=3) rfl
 have uH:=oUH.load1 (off:=3) rfl
 have uI:=oUI.load1 (off:=3) rfl
 have iJ:=(oH.keep kI (by simp)).keep kJ (by simp;omega)
 have i0:=iJ.load1 (off:=0) rfl
 have KDJ:Zaa mD mJ []:=Zay (Zay (Zay (Zay (Zay kE kF (by simp)) kG (by simp)) kH (by simp;omega)) kI (by simp)) kJ (by simp;omega)
 have KJ:Zaa m mJ []:=((kU.trans kO).trans kA).trans KDJ
 have A0:DAt mJ (nb u) ib pb ix px (List.replicate (nb u) 0) (List.replicate (nb u) 0):=
  ⟨iJ,oJ,((((oE.keep kF (by simp)).keep kG (by simp)).keep kH (by simp;omega)).keep kI (by simp)).keep kJ (by simp;omega),oI.keep kJ (by simp;omega),by simp,by simp,by omega,by omega,by omega,by omega,by omega,by omega⟩
 have hOJ:Za2 (fun f=>f < ix) mJ po O:=by
  refine Za2.keep ⟨pf,sOD.rs,fun hl=>?_⟩ KDJ (by simp)
  obtain⟨b,_,o⟩:=sOD.own hl
  have:=o.flt;omega
 have hAJ:∀ k < nb u,Za2 (fun f=>f < ix) mJ (ao k) ((Zaw u).getD k []):=by
  intro k hk
  have hk':k < (Zaw u).length:=by rw [Zfj];exact hk
  refine Za2.keep ⟨fm k,(hA.row k hk').rs,fun hl=>?_⟩ KDJ (by simp)
  obtain⟨b,_,o⟩:=(hA.row k hk').own hl
  have:=o.flt;omega
 have hAo:=hA.own.keep KDJ (by simp)
 have ofx:of < ix:=by have:=hA.own.flt;omega
 have hAc:∀ k < nb u,(Zit ao (Zaw u))[k]?=some (.slice (ao k) ((Zaw u).getD k []).length ((Zaw u).getD k []).length):=fun k hk=>Zg9 _ (by rw [Zfj];exact hk)
 have hix:m.next≤ix:=by have:=(kU.trans kO).1;have:=kA.1;omega
 have hpx':m.next≤px:=by omega
 have ixpx:ix < px:=by omega
 have hK:∀ (mX mY:Mem) (f:Nat),f=ix∨f=px→Zaa m mX []→Zaa mX mY [f]→Zaa m mY []:=fun mX mY f hf k1 k2=>k1.fresh k2 (by simp;omega)
 have hKJ:∀ (mX mY:Mem) (f:Nat),f=ix∨f=px→Zaa mJ mX [ix,px]→Zaa mX mY [f]→Zaa mJ mY [ix,px]:=fun mX mY f hf k1 k2=>k1.trans (k2.mono (by simp;omega))
 refine Zfi 71 [71,78,84,94] k53 hN.dom rfl ?_
 simp [-Int.natCast_add,-List.map_replicate,Zcu b34,Zkl u36 ap3,hmB,hub,lu,cO,lu2,cA,u3D,z1,z2,z3,hixe,hmE,hib,hmF,hpb,hmG,eH,hpx,hmI,eJ,uE,uF,uG,uH,i0]
 clear i0 uE uF uG uH uI oUE oUF oUG oUH oUI eJ oJ oI kI nI eH oH kH oG kG nG oF kF nF oE kE nE lu lu2 lu3 u3D cO cA sOD sO hA oUD oU iJ kJ hmJ hmI
 refine Zai 71 [71,78,84,94] (fun d E mX=>∃ (i:Nat),nb u - i=d∧i≤nb u∧DAt mX (nb u) ib pb ix px (List.replicate i (-1)++List.replicate (nb u - i) 0) (List.replicate (nb u) 0)∧Zaa m mX []∧Zaa mJ mX [ix,px]∧
  E=[(3,.slice po O.length O.length),(4,.slice (some ⟨ob,0,none⟩) (nb u) (nb u)),(5,.pointer (some ⟨ib,0,none⟩)),(6,.pointer (some ⟨pb,0,none⟩)),(30,.int .i64 (nb u)),(31,.int .i64 (i:Int))]) _ ⟨_,⟨0,rfl,by omega,by simpa using A0,KJ,.refl _ _,rfl⟩,(by repeat' constructor)⟩ ?_
 clear A0
 rintro d E mX ih ⟨i,hd,hi,hX,kX,kJX,rfl⟩
 have im:(i:Int)≤9223372036854775807:=by omega
 have l5:=hX.vi.load1 (off:=0) rfl
 by_cases hlt:i < nb u
 ·have i1:(i:Int) < nb u:=by omega
  have wi:IntKind.i64.wrap ((i:Int)+1)=((i+1:Nat):Int):=by rw [Zab (by omega) (by omega)];omega
  obtain⟨mG,eG,hG,kG⟩:=hX.seti hlt (-1)
  rw [Zuc _ _ _ _ hlt] at hG
  simp [-Int.natCast_add,i1,im,hlt,l5,eG,wi]
  exact ih _ _ _ _ ⟨i+1,rfl,by omega,hG,hK _ _ _ (Or.inl rfl) kX kG,hKJ _ _ _ (Or.inl rfl) kJX kG,rfl⟩ (by omega) (by repeat' constructor)
 clear ih
 have i1:¬ (i:Int) < nb u:=by omega
 have ei:i=nb u:=by omega
 rw [ei,Nat.sub_self,List.replicate_zero,List.append_nil] at hX
 have hP0:Zhb 0 O (List.replicate (nb u) 0)=P:=hP
 simp [-Int.natCast_add,-List.map_replicate,i1]
 refine Zai 71 [71,78,84,94] (fun d E mX=>∃ (i:Nat) (P1:List Int),O.length - i=d∧i≤O.length∧DAt mX (nb u) ib pb ix px (List.replicate (nb u) (-1)) P1∧Zaa m mX []∧Zaa mJ mX [ix,px]∧Zhb i (O.drop i) P1=P∧
  E=[(3,.slice po O.length O.length),(4,.slice (some ⟨ob,0,none⟩) (nb u) (nb u)),(5,.pointer (some ⟨ib,0,none⟩)),(6,.pointer (some ⟨pb,0,none⟩)),(38,.slice po O.length O.length),(39,.int .i64 O.length),(40,.int .i64 (i:Int))]) _ ⟨_,⟨0,_,rfl,by omega,hX,kX,kJX,by rw [List.drop_zero];exact hP0,rfl⟩,(by repeat' constructor)⟩ ?_
 clear hX kX kJX l5 im hi i1 ei hP0
 rintro d E mX ih ⟨i,P1,hd,hi,hX,kX,kJX,hp,rfl⟩
 have im:(i:Int)≤9223372036854775807:=by omega
 have l5:=hX.vi.load1 (off:=0) rfl
 have l6:=hX.vp.load1 (off:=0) rfl
 by_cases hlt:i < O.length
 ·have i1:(i:Int) < O.length:=by omega
  have wi:IntKind.i64.wrap ((i:Int)+1)=((i+1:Nat):Int):=by rw [Zab (by omega) (by omega)];omega
  obtain⟨xb,rfl,li⟩:=(hOJ.keep kJX (by simp;omega)).get hlt
  rw [Zch hlt,Zhb] at hp
  have hkb:=hOn _ (Zas hlt)
  obtain⟨k,hk⟩:∃ k:Nat,O.getD i 0=(k:Int):=⟨(O.getD i 0).toNat,by omega⟩
  rw [hk] at li hkb hp
  rw [Int.toNat_natCast] at hp
  have hkn:k < nb u:=by omega
  have k1:(k:Int) < nb u:=by omega
  have k2:(k:Int)≤9223372036854775807:=by omega
  obtain⟨mG,eG,hG,kG⟩:=hX.setp hkn (i:Int)
  simp [-Int.natCast_add,-List.getD_eq_getElem?_getD,i1,im,hlt,l6,li,k2,hkn,eG,wi]
  exact ih _ _ _ _ ⟨i+1,_,rfl,by omega,hG,hK _ _ _ (Or.inr rfl) kX kG,hKJ _ _ _ (Or.inr rfl) kJX kG,hp,rfl⟩ (by omega) (by repeat' constructor)
 clear ih
 have i1:¬ (i:Int) < O.length:=by omega
 rw [List.drop_of_length_le (by omega),Zhb] at hp
 subst hp
 have hOl0:O.length≠0:=fun e=>hO0 (List.length_eq_zero_iff.1 e)
 obtain⟨mY,eY,hY,kY⟩:=hX.seti hb0 0
 have n0:(0:Int) < nb u:=by omega
 have hOl1:¬ (O.length:Int)=0:=by omega
 simp [-Int.natCast_add,-List.map_replicate,i1,hOl0,l5,hb0,eY]
 have kY1:=hK _ _ _ (Or.inl rfl) kX kY
 have kY2:=hKJ _ _ _ (Or.inl rfl) kJX kY
 clear hX kX kJX l5 l6 im hi i1 eY kY
 refine Zai 71 [71,78,84,94] (fun d E mX=>∃ (I:List Int) (ch:Bool),DAt mX (nb u) ib pb ix px I P1∧Zaa m mX []∧Zaa mJ mX [ix,px]∧J 0 I∧Zgc u P1 (O.drop 1) d (I,ch)=some I'∧
  E=[(3,.slice po O.length O.length),(4,.slice (some ⟨ob,0,none⟩) (nb u) (nb u)),(5,.pointer (some ⟨ib,0,none⟩)),(6,.pointer (some ⟨pb,0,none⟩)),(10,.func (.func 73) #[] #[.pointer (some ⟨pb,0,none⟩),.pointer (some ⟨ib,0,none⟩)]),(11,.bool ch)]) D2 ⟨_,⟨_,true,hY,kY1,kY2,hJ0,hD,rfl⟩,(by repeat' constructor)⟩ ?_
 clear hY kY1 kY2 hJ0 hD
 rintro d E mX ih ⟨I,ch,hX,kX,kJX,hj,hd,rfl⟩
 cases ch
 case false =>
  clear ih
  have hI:I=I':=by
   cases d with
   | zero=>simp [Zgc] at hd;exact hd
   | succ d=>simp [Zgc] at hd
  subst hI
  have l5:=hX.vi.load1 (off:=0) rfl
  obtain⟨mZ,eZ,hZ,kZ⟩:=hX.seti hb0 (-1)
  have l5':=hZ.vi.load1 (off:=0) rfl
  simp [-Int.natCast_add,-List.map_set,l5,hb0,eZ,l5']
  exact⟨⟨ix,rfl,hZ.oi,by omega⟩,hK _ _ _ (Or.inl rfl) kX kZ⟩
 cases d with
 | zero=>simp [Zgc] at hd
 | succ d =>
  have hd':Zgc u P1 (O.drop 1) d (Z2s u P1 (O.drop 1) (I,false))=some I':=by simpa [Zgc] using hd
  clear hd
  obtain⟨fO',hRs,hqO⟩:=hOJ
  obtain⟨xb,hpo,hRd⟩:=hRs.rdo hOl0
  have hfO:fO'∉[ix,px]:=by have:=hqO hOl0;simp;omega
  subst hpo
  have o1:(1:Int)≤O.length:=by omega
  have o2:1≤O.length:=by omega
  have o3:(O.length:Int)≤9223372036854775807:=by omega
  have el:Zin mX xb 3=true:=by unfold Zin;rw [(hRd.keep kJX hfO).blk];simp
  have hTl:(O.drop 1).length=O.length - 1:=by simp
  obtain⟨n1,hn1⟩:∃ n1,O.length - 1=n1:=⟨_,rfl⟩
  rw [hn1] at hTl
  simp [-Int.natCast_add,Zc2 u36 sz3,o2,el,hn1]
  have hTO:∀ j,(O.drop 1).getD j 0=O.getD (j+1) 0:=fun j=>by
   rw [List.getD_eq_getElem?_getD,List.getD_eq_getElem?_getD,List.getElem?_drop,Nat.add_comm]
  obtain⟨T,hT⟩:∃ T,O.drop 1=T:=⟨_,rfl⟩
  rw [hT] at hTl hTO hJ hd'
  refine Zai 71 [71,78,84,94] (fun d4 E mX=>∃ (i:Nat) (I:List Int) (ch:Bool),n1 - i=d4∧i≤n1∧DAt mX (nb u) ib pb ix px I P1∧Zaa m mX []∧Zaa mJ mX [ix,px]∧J i I∧Zgc u P1 T d ((T.drop i).foldl (Zns u P1) (I,ch))=some I'∧
   E=[(3,.slice (some ⟨xb,0,none⟩) O.length O.length),(4,.slice (some ⟨ob,0,none⟩) (nb u) (nb u)),(5,.pointer (some ⟨ib,0,none⟩)),(6,.pointer (some ⟨pb,0,none⟩)),(10,.func (.func 73) #[] #[.pointer (some ⟨pb,0,none⟩),.pointer (some ⟨ib,0,none⟩)]),(11,.bool ch),(59,.slice (some ⟨xb,1,none⟩) n1 n1),(60,.int .i64 (n1:Int)),(61,.int .i64 (i:Int))]) _ ⟨_,⟨0,I,false,rfl,by omega,hX,kX,kJX,hj,by rw [List.drop_zero];exact hd',rfl⟩,(by repeat' constructor)⟩ ?_
  clear hX kX kJX hj hd' el I
  rintro d4 E mX ih4 ⟨i,I,ch,hd4,hi,hX,kX,kJX,hj,hd',rfl⟩
  have im:(i:Int)≤9223372036854775807:=by omega
  by_cases hit:i < n1
  ·have i1:(i:Int) < n1:=by omega
   have wi:IntKind.i64.wrap ((i:Int)+1)=((i+1:Nat):Int):=by rw [Zab (by omega) (by omega)];omega
   have lO:=(hRd.keep kJX hfO).load1 (off:=i+1) (Zce (by omega))
   rw [← hTO i] at lO
   have lO':=lO
   rw [Nat.add_comm] at lO'
   rw [Zch (show i < T.length by omega),List.foldl_cons] at hd'
   have hstep:=hJ.step i I hj (by omega)
   have hTm:T.getD i 0∈O:=by rw [hTO];exact Zas (by omega)
   have hkb:=hOn _ hTm
   obtain⟨b,hb⟩:∃ k:Nat,T.getD i 0=(k:Int):=⟨(T.getD i 0).toNat,by omega⟩
   rw [hb] at lO lO' hkb hd' hstep
   rw [Int.toNat_natCast] at hstep
   have eB:Zns u P1 (I,ch) (b:Int)=(I.set b (Zgs u P1 I b),ch || !decide (I.getD b 0=Zgs u P1 I b)):=by unfold Zns;rw [Int.toNat_natCast]
   rw [eB] at hd'
   have hbn:b < nb u:=by omega
   have b1:(b:Int) < nb u:=by omega
   have b2:(b:Int)≤9223372036854775807:=by omega
   have hIl:=hJ.len i I hj
   have hIu:=hJ.up i I hj
   have hIm:=hJ.meet i I hj
   have lrow:=(hAo.keep kJX (by simp;omega)).load1 (off:=b) (hAc b hbn)
   have hrow:=(hAJ b hbn).keep kJX (by simp;omega)
   have hrl:((Zaw u).getD b []).length≤1000000:=Zkd hnx hnb b
   have hrb:∀ a∈(Zaw u).getD b [],(0:Int)≤a∧a < nb u:=Zj3 u b
   have hDD:((Zaw u).getD b []).foldl (Zn1 P1 I) (-1)=Zgs u P1 I b:=rfl
   obtain⟨l,hl⟩:∃ l,(Zaw u).getD b []=l:=⟨_,rfl⟩
   rw [hl] at lrow hrow hrl hrb hDD
   obtain⟨DD,hDe⟩:∃ DD,Zgs u P1 I b=DD:=⟨_,rfl⟩
   rw [hDe] at hDD hd' hstep
   simp [-Int.natCast_add,-List.getD_eq_getElem?_getD,i1,im,hit,lO',b2,hbn,lrow]
   refine Zai 71 [71,78,84,94] (fun d5 E mY=>∃ (j:Nat) (dd:Int),l.length - j=d5∧j≤l.length∧mY=mX∧(-1:Int)≤dd∧dd < nb u∧(0≤dd→0≤I.getD dd.toNat 0)∧(l.drop j).foldl (Zn1 P1 I) dd=DD∧
    E=[(3,.slice (some ⟨xb,0,none⟩) O.length O.length),(4,.slice (some ⟨ob,0,none⟩) (nb u) (nb u)),(5,.pointer (some ⟨ib,0,none⟩)),(6,.pointer (some ⟨pb,0,none⟩)),(10,.func (.func 73) #[] #[.pointer (some ⟨pb,0,none⟩),.pointer (some ⟨ib,0,none⟩)]),(11,.bool ch),(13,.int .i64 (b:Int)),(14,.int .i64 dd),(59,.slice (some ⟨xb,1,none⟩) n1 n1),(60,.int .i64 (n1:Int)),(61,.int .i64 (i:Int)),(68,.slice (ao b) l.length l.length),(69,.int .i64 l.length),(70,.int .i64 (j:Int))]) _ ⟨_,⟨0,-1,rfl,by omega,rfl,by omega,by omega,by omega,by rw [List.drop_zero];exact hDD,rfl⟩,(by repeat' constructor)⟩ ?_
   rintro d5 E mY ih5 ⟨j,dd,hd5,hj5,rfl,hd1,hd2,hd3,hfo,rfl⟩
   have jm:(j:Int)≤9223372036854775807:=by omega
   have l5:=hX.vi.load1 (off:=0) rfl
   by_cases hjt:j < l.length
   ·have j1:(j:Int) < l.length:=by omega
    have wj:IntKind.i64.wrap ((j:Int)+1)=((j+1:Nat):Int):=by rw [Zab (by omega) (by omega)];omega
    obtain⟨yb,hyb,lj⟩:=hrow.get hjt
    rw [hyb] at ih5 ⊢
    rw [Zch hjt,List.foldl_cons] at hfo
    have hab:=hrb _ (Zas hjt)
    obtain⟨a,ha⟩:∃ k:Nat,l.getD j 0=(k:Int):=⟨(l.getD j 0).toNat,by omega⟩
    rw [ha] at lj hab hfo
    have han:a < nb u:=by omega
    have a1:(a:Int) < nb u:=by omega
    have a2:(a:Int)≤9223372036854775807:=by omega
    have la:=hX.oi.load1 (off:=a) (Zce (by omega))
    have eS:Zn1 P1 I dd (a:Int)=if I.getD a 0 < 0 then dd else if dd < 0 then (a:Int) else (Zkx P1 I (2 * I.length+2) dd.toNat a:Nat):=by unfold Zn1;rw [Int.toNat_natCast]
    rw [eS] at hfo
    by_cases hia:I.getD a 0 < 0
    ·rw [if_pos hia] at hfo
     simp [-Int.natCast_add,-List.getD_eq_getElem?_getD,j1,jm,hjt,lj,a2,han,l5,la,hia,wj]
     exact ih5 _ _ _ _ ⟨j+1,dd,rfl,by omega,rfl,hd1,hd2,hd3,hfo,rfl⟩ (by omega) (by repeat' constructor)
    rw [if_neg hia] at hfo
    by_cases hdd:dd < 0
    ·rw [if_pos hdd] at hfo
     simp [-Int.natCast_add,-List.getD_eq_getElem?_getD,j1,jm,hjt,lj,a2,han,l5,la,hia,hdd,wj]
     exact ih5 _ _ _ _ ⟨j+1,(a:Int),rfl,by omega,rfl,by omega,by omega,fun _=>by rw [Int.toNat_natCast];omega,hfo,rfl⟩ (by omega) (by repeat' constructor)
    rw [if_neg hdd] at hfo
    obtain⟨q,rfl⟩:∃ q:Nat,dd=(q:Int):=⟨dd.toNat,by omega⟩
    rw [Int.toNat_natCast] at hfo hd3
    have hqn:q < nb u:=by omega
    obtain⟨DM,c,hDM,hme⟩:=hIm q a hqn han (hd3 (by omega)) (by omega)
    have hgo:=Zq hme hDM
    rw [hgo] at hfo
    have hcu:=Zy1 hIu hqn han (hd3 (by omega)) (by omega) hme
    have cm:=Z1x hN.meet hX (by omega) hIu hqn han (hd3 (by omega)) (by omega) hme
    simp [-Int.natCast_add,-List.getD_eq_getElem?_getD,j1,jm,hjt,lj,a2,han,l5,la,hia,hdd,cm,wj]
    exact ih5 _ _ _ _ ⟨j+1,(c:Int),rfl,by omega,rfl,by omega,by omega,fun _=>by rw [Int.toNat_natCast];exact hcu.2,hfo,rfl⟩ (by omega) (by repeat' constructor)
   clear ih5
   have j1:¬ (j:Int) < l.length:=by omega
   rw [List.drop_of_length_le (show l.length≤j by omega),List.foldl_nil] at hfo
   subst hfo
   have lb:=hX.oi.load1 (off:=b) (Zce (by omega))
   obtain⟨mW,eW,hW,kW⟩:=hX.seti hbn dd
   obtain⟨wv,hwv⟩:∃ w,I.getD b 0=w:=⟨_,rfl⟩
   rw [hwv] at lb hd'
   by_cases hbd:wv=dd
   ·have hset:I.set b dd=I:=by
     rw [← hbd,← hwv]
     apply Zi (by simp)
     intro k hk
     rw [Zbe _ _ _ _ (by omega)]
     split
     ·rename_i e;rw [e]
     ·rfl
    have:(!decide (wv=dd))=false:=by simp [hbd]
    rw [this,Bool.or_false,hset] at hd'
    rw [hset] at hstep
    simp [-Int.natCast_add,-List.getD_eq_getElem?_getD,j1,l5,b2,hbn,lb,hbd,wi]
    exact ih4 _ _ _ _ ⟨i+1,I,ch,rfl,by omega,hX,kX,kJX,hstep,hd',rfl⟩ (by omega) (by repeat' constructor)
   ·have:(!decide (wv=dd))=true:=by simp [hbd]
    rw [this,Bool.or_true] at hd'
    simp [-Int.natCast_add,-List.getD_eq_getElem?_getD,j1,l5,b2,hbn,lb,hbd,eW,wi]
    exact ih4 _ _ _ _ ⟨i+1,_,true,rfl,by omega,hW,hK _ _ _ (Or.inl rfl) kX kW,hKJ _ _ _ (Or.inl rfl) kJX kW,hstep,hd',rfl⟩ (by omega) (by repeat' constructor)
  ·clear ih4
   have i1:¬ (i:Int) < n1:=by omega
   have ei:i=T.length:=by omega
   rw [ei] at hj
   rw [List.drop_of_length_le (by omega),List.foldl_nil] at hd'
   simp [-Int.natCast_add,-List.getD_eq_getElem?_getD,i1]
   exact ih _ _ _ _ ⟨I,ch,hX,kX,kJX,hJ.next I hj,by rw [hT];exact hd',rfl⟩ (by omega) (by repeat' constructor)
end Go.Proofs.YtlogdohlcdhepaaDoor.base
end
section
set_option maxRecDepth 100000
namespace Go.Proofs.YtlogdohlcdhepaaDoor.base
open Go.Sh gen
variable {S:Zb2}{m:Mem}
def Zkz (I:List Int)(a:Int):Nat→Int→Option Bool
 | 0,b=>if b < 0 then some false else if a=b then some true else none
 | d+1,b=>if b < 0 then none else if a=b then none else Zkz I a d (I.getD b.toNat 0)
def upF (I:List Int)(a:Int):Nat→Int→Bool
 | 0,_=>false
 | k+1,b=>if b < 0 then false else if a=b then true else upF I a k (I.getD b.toNat 0)
theorem Z8a {I:List Int}{a:Int}{D:Nat}{b:Int}{r:Bool}(h:Zkz I a D b=some r){N:Nat}(hN:D < N):upF I a N b=r:=by
 induction D generalizing N b with
 | zero =>
  obtain⟨M,rfl⟩:∃ M,N=M+1:=⟨N - 1,by omega⟩
  rw [Zkz] at h
  rw [upF]
  split at h
  ·rename_i e;rw [if_pos e];simpa using h
  ·rename_i e
   rw [if_neg e]
   split at h
   ·rename_i e2;rw [if_pos e2];simpa using h
   ·cases h
 | succ D ih =>
  obtain⟨M,rfl⟩:∃ M,N=M+1:=⟨N - 1,by omega⟩
  rw [Zkz] at h
  rw [upF]
  split at h
  ·cases h
  ·rename_i e
   rw [if_neg e]
   split at h
   ·cases h
   ·rename_i e2;rw [if_neg e2];exact ih h (by omega)
structure Ck3 (m:Mem)(u:UnT.D)(vo bo so:Option Addr)(cb cf b1 b2 f1 f2 ix:Nat)(bl pl I:List Int):Prop where
 c:Zob m u vo bo so (.slice (some ⟨ix,0,none⟩) (nb u) (nb u)) cb cf b1 b2 f1 f2 bl pl
 o3:Own m ix (ints I) 3 ix
theorem Ck3.keep0 {m1:Mem}{u:UnT.D}{vo bo so:Option Addr}{cb cf b1 b2 f1 f2 ix:Nat}{bl pl I:List Int}(h:Ck3 m u vo bo so cb cf b1 b2 f1 f2 ix bl pl I)(k:Zaa m m1 []):Ck3 m1 u vo bo so cb cf b1 b2 f1 f2 ix bl pl I:=⟨h.c.keep0 k,h.o3.keep k (by simp)⟩
structure Rok (u:UnT.D)(bl pl I:List Int):Prop where
 lb:bl.length=nv u
 lp:pl.length=nv u
 li:I.length=nb u
 bb:∀ i < nv u,0≤bl.getD i 0∧bl.getD i 0 < nb u
 ii:∀ x < nb u,I.getD x 0 < nb u
 up:∀ (a:Int) (b:Nat),b < nb u→∃ d,d < nb u+2∧Zkz I a d b=some (upF I a (nb u+2) b)
theorem Zo2 (hS:S 83=[]){u:UnT.D}{vo bo so:Option Addr}{cb cf b1 b2 f1 f2 ix:Nat}{bl pl I:List Int}(hC:Ck3 m u vo bo so cb cf b1 b2 f1 f2 ix bl pl I)(hR:Rok u bl pl I)(hnb:nb u≤1000){a:Int}{b:Nat}(hb:b < nb u) :
  Zag Tryd.prog TT S 83 [.pointer (some ⟨cb,0,none⟩),.int .i64 a,.int .i64 (b:Int)] m=some (.bool (upF I a (nb u+2) b),m):=by
 have c7:=hC.c.c.load1 (off:=7) rfl
 obtain⟨D,_,hD⟩:=hR.up a b hb
 obtain⟨R,hRe⟩:∃ R,upF I a (nb u+2) b=R:=⟨_,rfl⟩
 rw [hRe] at hD ⊢
 refine Zb3 7 [8,11] k83 hS rfl ?_
 simp [-Int.natCast_add]
 refine Zai 7 [8,11] (fun d E mF=>∃ (b:Int),mF=m∧b < nb u∧Zkz I a d b=some R∧
  E=[(0,.pointer (some ⟨cb,0,none⟩)),(1,.int .i64 a),(2,.int .i64 b)]) D ⟨_,⟨(b:Int),rfl,by omega,hD,rfl⟩,⟨by rfl,by rfl,by rfl,trivial⟩⟩ ?_
 clear hD hRe hb
 rintro d E mF ih ⟨b,rfl,hb,hd,rfl⟩
 by_cases h0:b < 0
 ·have h0':¬ 0≤b:=by omega
  have:R=false:=by
   cases d with
   | zero=>rw [Zkz,if_pos h0] at hd;simpa using hd.symm
   | succ d=>rw [Zkz,if_pos h0] at hd;cases hd
  simp [-Int.natCast_add,h0',this]
 have h0':0≤b:=by omega
 by_cases hab:a=b
 ·have:R=true:=by
   cases d with
   | zero=>rw [Zkz,if_neg h0,if_pos hab] at hd;simpa using hd.symm
   | succ d=>rw [Zkz,if_neg h0,if_pos hab] at hd;cases hd
  simp [-Int.natCast_add,h0',hab,this]
 cases d with
 | zero=>rw [Zkz,if_neg h0,if_neg hab] at hd;cases hd
 | succ d =>
  rw [Zkz,if_neg h0,if_neg hab] at hd
  obtain⟨q,rfl⟩:∃ q:Nat,b=(q:Int):=⟨b.toNat,by omega⟩
  rw [Int.toNat_natCast] at hd
  have hq:q < nb u:=by omega
  have q2:(q:Int)≤9223372036854775807:=by omega
  have lq:=hC.o3.load1 (off:=q) (Zce (by rw [hR.li];exact hq))
  simp [-Int.natCast_add,-List.getD_eq_getElem?_getD,h0',hab,c7,hq,q2,lq]
  exact ih _ _ _ _ ⟨_,rfl,hR.ii q hq,hd,rfl⟩ (by omega) ⟨by rfl,by rfl,by rfl,trivial⟩
def Zme (u:UnT.D)(bl pl I:List Int)(block place:Int)(v:Int):Bool:=
 !(decide (bl.getD v.toNat 0=block) && decide (place≤pl.getD v.toNat 0)) && upF I (bl.getD v.toNat 0) (nb u+2) block
def Zii (u:UnT.D)(bl pl I:List Int)(block place:Int)(l:List Int):Bool:=l.all (Zme u bl pl I block place)
set_option maxHeartbeats 4000000 in
theorem Zjy (hS:S 74=[])(hD:S 83=[]){u:UnT.D}{vo bo so:Option Addr}{cb cf b1 b2 f1 f2 ix:Nat}{bl pl I:List Int}(hC:Ck3 m u vo bo so cb cf b1 b2 f1 f2 ix bl pl I)(hR:Rok u bl pl I)(hnb:nb u≤1000)(hnv:nv u≤1000000)
  {Q:Nat→Prop} {l:List Int} {ao:Option Addr} (hl:Za2 Q m ao l) (hll:l.length≤20000000000000) (hlv:∀ v∈l,(0:Int)≤v∧v < nv u) {block:Nat} (hb:block < nb u) {place:Int} :
  Zag Tryd.prog TT S 74 [.pointer (some ⟨cb,0,none⟩),.slice ao l.length l.length,.int .i64 (block:Int),.int .i64 place] m=some (.bool (Zii u bl pl I block place l),m):=by
 have c5:=hC.c.c.load1 (off:=5) rfl
 have c6:=hC.c.c.load1 (off:=6) rfl
 obtain⟨R,hRe⟩:∃ R,Zii u bl pl I block place l=R:=⟨_,rfl⟩
 rw [hRe]
 refine Zb3 14 [14,49] k74 hS rfl ?_
 simp [-Int.natCast_add]
 refine Zai 14 [14,49] (fun d E mF=>∃ (i:Nat),l.length - i=d∧i≤l.length∧mF=m∧(l.drop i).all (Zme u bl pl I block place)=R∧
  E=[(0,.pointer (some ⟨cb,0,none⟩)),(2,.int .i64 (block:Int)),(3,.int .i64 place),(11,.slice ao l.length l.length),(12,.int .i64 l.length),(13,.int .i64 (i:Int))]) _ ⟨_,⟨0,rfl,by omega,rfl,by rw [List.drop_zero];exact hRe,rfl⟩,(by repeat' constructor)⟩ ?_
 rintro d E mF ih ⟨i,hd,hi,rfl,ha,rfl⟩
 have im:(i:Int)≤9223372036854775807:=by omega
 by_cases hlt:i < l.length
 ·have i1:(i:Int) < l.length:=by omega
  have wi:IntKind.i64.wrap ((i:Int)+1)=((i+1:Nat):Int):=by rw [Zab (by omega) (by omega)];omega
  obtain⟨lb,rfl,li⟩:=hl.get hlt
  rw [Zch hlt,List.all_cons] at ha
  have hvb:=hlv _ (Zas hlt)
  obtain⟨v,hv⟩:∃ k:Nat,l.getD i 0=(k:Int):=⟨(l.getD i 0).toNat,by omega⟩
  rw [hv] at li ha hvb
  have hvn:v < nv u:=by omega
  have v1:(v:Int) < nv u:=by omega
  have v2:(v:Int)≤9223372036854775807:=by omega
  have l1:=hC.c.o1.load1 (off:=v) (Zce (by rw [hR.lb];exact hvn))
  have l2:=hC.c.o2.load1 (off:=v) (Zce (by rw [hR.lp];exact hvn))
  have eV:Zme u bl pl I block place (v:Int)=(!(decide (bl.getD v 0=(block:Int)) && decide (place≤pl.getD v 0)) && upF I (bl.getD v 0) (nb u+2) block):=by unfold Zme;rw [Int.toNat_natCast]
  rw [eV] at ha
  have dr:=Zo2 hD hC hR hnb (a:=bl.getD v 0) hb
  obtain⟨x,hx⟩:∃ x,bl.getD v 0=x:=⟨_,rfl⟩
  obtain⟨y,hy⟩:∃ x,pl.getD v 0=x:=⟨_,rfl⟩
  rw [hx] at l1 ha dr
  rw [hy] at l2 ha
  obtain⟨q,hq⟩:∃ q,upF I x (nb u+2) block=q:=⟨_,rfl⟩
  rw [hq] at dr ha
  by_cases h1:x=(block:Int)
  ·by_cases h2:place≤y
   ·have:R=false:=by rw [← ha];simp [h1,h2]
    simp [-Int.natCast_add,-List.getD_eq_getElem?_getD,i1,im,hlt,li,c5,c6,v2,hvn,l1,l2,h1,h2,this]
   ·subst h1
    cases q
    ·have:R=false:=by rw [← ha];simp
     simp [-Int.natCast_add,-List.getD_eq_getElem?_getD,i1,im,hlt,li,c5,c6,v2,hvn,l1,l2,h2,dr,this]
    ·simp [-Int.natCast_add,-List.getD_eq_getElem?_getD,i1,im,hlt,li,c5,c6,v2,hvn,l1,l2,h2,dr,wi]
     exact ih _ _ _ _ ⟨i+1,rfl,by omega,rfl,by rw [← ha];simp [h2],rfl⟩ (by omega) (by repeat' constructor)
  ·cases q
   ·have:R=false:=by rw [← ha];simp
    simp [-Int.natCast_add,-List.getD_eq_getElem?_getD,i1,im,hlt,li,c5,v2,hvn,l1,h1,dr,this]
   ·simp [-Int.natCast_add,-List.getD_eq_getElem?_getD,i1,im,hlt,li,c5,v2,hvn,l1,h1,dr,wi]
    exact ih _ _ _ _ ⟨i+1,rfl,by omega,rfl,by rw [← ha];simp [h1],rfl⟩ (by omega) (by repeat' constructor)
 clear ih
 have i1:¬ (i:Int) < l.length:=by omega
 rw [List.drop_of_length_le (by omega),List.all_nil] at ha
 simp [-Int.natCast_add,-List.getD_eq_getElem?_getD,i1,← ha]
end Go.Proofs.YtlogdohlcdhepaaDoor.base
end
section
set_option maxRecDepth 100000
namespace Go.Proofs.YtlogdohlcdhepaaDoor.base
open Go.Sh gen
variable {S:Zb2}{m:Mem}
def Zqf (u:UnT.D)(bl pl I:List Int)(block place:Int)(f:Zmw.D):Bool:=Zii u bl pl I block place f.2.2.1 && Zii u bl pl I block place f.2.2.2.1
def Zgx (u:UnT.D)(bl pl I:List Int)(block place:Int)(fs:List Zmw.D):Bool:=fs.all (Zqf u bl pl I block place)
def Ybo (u:UnT.D)(f:Zmw.D):Prop:=List.length f.2.2.1≤1000∧List.length f.2.2.2.1≤1000∧(∀ v∈(show List Int from f.2.2.1),(0:Int)≤v∧v < nv u)∧(∀ v∈(show List Int from f.2.2.2.1),(0:Int)≤v∧v < nv u)
set_option maxHeartbeats 4000000 in
theorem Zj (hS:S 75=[])(hE:S 74=[])(hD:S 83=[]){Q:Nat→Prop}{u:UnT.D}{vo bo so:Option Addr}(hU:UAt Q m u vo bo so){cb cf b1 b2 f1 f2 ix:Nat}{bl pl I:List Int}(hC:Ck3 m u vo bo so cb cf b1 b2 f1 f2 ix bl pl I)(hR:Rok u bl pl I)(hnb:nb u≤1000)(hnv:nv u≤1000000)
  {i:Nat} (hi:i < ns u) (hns:ns u≤1000000) {fs:List Zmw.D} (hfs:(u.2.2.2.2.1[i]).1=fs) (hfl:fs.length≤1000) (hfo:∀ f∈fs,Ybo u f) {block:Nat} (hb:block < nb u) {place:Int} :
  ∃ v m1,Zag Tryd.prog TT S 75 [.pointer (some ⟨cb,0,none⟩),.int .i64 (i:Int),.int .i64 (block:Int),.int .i64 place] m=some (v,m1)∧v=.bool (Zgx u bl pl I block place fs)∧Zaa m m1 []:=by
 obtain⟨sb,fo,hso,lds,hfA⟩:=Zlk hU hi
 rw [hfs] at lds hfA
 have l4:=hC.c.c.load1 (off:=4) rfl
 rw [hso] at l4
 have s1:(i:Int) < ns u:=by omega
 have s2:(i:Int)≤9223372036854775807:=by omega
 have ld0:=lds m [] (Zaa.refl _ _) (by simp)
 obtain⟨R,hRe⟩:∃ R,Zgx u bl pl I block place fs=R:=⟨_,rfl⟩
 rw [hRe]
 refine Zfi 22 [22,40] k75 hS rfl ?_
 simp [-Int.natCast_add,l4,s2,hi,ld0]
 refine Zai 22 [22,40] (fun d E mF=>∃ (j:Nat),fs.length - j=d∧j≤fs.length∧(fs.drop j).all (Zqf u bl pl I block place)=R∧Zaa m mF []∧
  E=[(0,.pointer (some ⟨cb,0,none⟩)),(2,.int .i64 (block:Int)),(3,.int .i64 place),(19,.slice fo fs.length fs.length),(20,.int .i64 fs.length),(21,.int .i64 (j:Int))]) _ ⟨_,⟨0,rfl,by omega,by rw [List.drop_zero];exact hRe,.refl _ _,rfl⟩,(by repeat' constructor)⟩ ?_
 rintro d E mF ih ⟨j,hd,hj,ha,kF,rfl⟩
 have jm:(j:Int)≤9223372036854775807:=by omega
 by_cases hlt:j < fs.length
 ·have j1:(j:Int) < fs.length:=by omega
  have wj:IntKind.i64.wrap ((j:Int)+1)=((j+1:Nat):Int):=by rw [Zab (by omega) (by omega)];omega
  obtain⟨fb,la,sa,hfb,ldf,hla,hsa⟩:=Zlo (hfA.keep kF (by simp)) hlt
  have hmm:=hfo _ (List.getElem_mem hlt)
  rw [List.drop_eq_getElem_cons hlt,List.all_cons] at ha
  rw [hfb] at ih ⊢
  generalize fs[j]=F at *
  obtain⟨oY,kY,nY⟩:=Zat (m:=mF) (cs:=[.int .i64 0,.int .i64 0,.slice none 0 0,.slice none 0 0]) (e:=64) rfl
  obtain⟨zb,hzb⟩:∃ zb,mF.next=zb:=⟨_,rfl⟩
  obtain⟨mG,eG,oG,kG'⟩:=Zaj (r:=_) rfl oY (off:=0) (vs:=frC F la sa) (by simp) (by simp [Zam,Zad])
  simp [Zbr] at oG
  have kG:=kY.fresh kG' (by simp)
  rw [hzb] at oG nY eG
  have K3:Zaa m mG []:=kF.trans kG
  have g2:=oG.load1 (off:=2) rfl
  have g3:=oG.load1 (off:=3) rfl
  have hC3:=hC.keep0 K3
  have t1:=Zjy (place:=place) hE hD hC3 hR hnb hnv (hla.keep kG (by simp)) (by have:=hmm.1;omega) hmm.2.2.1 hb
  have t2:=Zjy (place:=place) hE hD hC3 hR hnb hnv (hsa.keep kG (by simp)) (by have:=hmm.2.1;omega) hmm.2.2.2 hb
  obtain⟨n1,hn1⟩:∃ n1:Nat,List.length F.2.2.1=n1:=⟨_,rfl⟩
  obtain⟨n2,hn2⟩:∃ n2:Nat,List.length F.2.2.2.1=n2:=⟨_,rfl⟩
  obtain⟨q1,hq1⟩:∃ b1,Zii u bl pl I block place F.2.2.1=b1:=⟨_,rfl⟩
  obtain⟨q2,hq2⟩:∃ b2,Zii u bl pl I block place F.2.2.2.1=b2:=⟨_,rfl⟩
  have eF:Zqf u bl pl I block place F=(q1 && q2):=by unfold Zqf;rw [hq1,hq2]
  rw [hq1] at t1
  rw [hq2] at t2
  rw [eF] at ha
  unfold frC at eG g2 g3 ldf
  rw [hn1] at t1 g2
  rw [hn2] at t2 g3
  rw [hn1,hn2] at ldf eG
  cases q1
  ·have:R=false:=by rw [← ha];simp
   rw [this]
   simp [-Int.natCast_add,j1,jm,hlt,ldf,hzb,eG,g2,t1]
   exact K3
  cases q2
  ·have:R=false:=by rw [← ha];simp
   rw [this]
   simp [-Int.natCast_add,j1,jm,hlt,ldf,hzb,eG,g2,g3,t1,t2]
   exact K3
  simp [-Int.natCast_add,j1,jm,hlt,ldf,hzb,eG,g2,g3,t1,t2,wj]
  exact ih _ _ _ _ ⟨j+1,rfl,by omega,by rw [← ha];simp,K3,rfl⟩ (by omega) (by repeat' constructor)
 have j1:¬ (j:Int) < fs.length:=by omega
 rw [List.drop_of_length_le (by omega),List.all_nil] at ha
 rw [← ha]
 simp [-Int.natCast_add,j1]
 exact kF
end Go.Proofs.YtlogdohlcdhepaaDoor.base
end
section
set_option maxRecDepth 100000
namespace Go.Proofs.YtlogdohlcdhepaaDoor.base
open Go.Sh gen
variable {S:Zb2}{m:Mem}
abbrev vlD (u:UnT.D)(i:Nat):List Int:=(Zbt u i).1
def Z3f (u:UnT.D)(bl pl I:List Int):List Int→List Int→Bool
 | a::r,p::q=>Zii u bl pl I p (vlD u p.toNat).length [a] && Z3f u bl pl I r q
 | _,_=>true
def Zuf (u:UnT.D)(bl pl I:List Int)(i k:Nat)(n:Int):Bool:=
 if (Za1 u n).1=21 then Z3f u bl pl I (Za1 u n).2.2.2.2.1 (prD u i) else
 Zii u bl pl I i k (Zcc (Za1 u n)) && (!lvs (Za1 u n).1 || Zgx u bl pl I i k (stD u (show Int from (Za1 u n).2.2.2.2.2.1).toNat))
def Zjo (u:UnT.D)(bl pl I:List Int)(i:Nat):Nat→List Int→Bool
 | _,[]=>true
 | k,n::r=>Zuf u bl pl I i k n && Zjo u bl pl I i (k+1) r
def Zqp (u:UnT.D)(bl pl I:List Int)(i:Nat):Bool:=
 if (Zbt u i).2.1=2 then Zii u bl pl I i (vlD u i).length [(show Int from (Zbt u i).2.2.1)] else
 if (Zbt u i).2.1=3 then Zgx u bl pl I i (vlD u i).length (stD u (show Int from (Zbt u i).2.2.2.2.2.1).toNat) else true
def Zk6 (u:UnT.D)(bl pl I:List Int)(i:Nat):Bool:=Zjo u bl pl I i 0 (vlD u i) && Zqp u bl pl I i
structure Ya9 (u:UnT.D):Prop where
 bv:∀ i < nb u,(vlD u i).length≤20000000000000∧∀ n∈vlD u i,(0:Int)≤n∧n < nv u
 pr:∀ i < nb u,∀ p∈prD u i,(0:Int)≤p∧p < nb u
 us:∀ n < nv u,∀ z∈Zcc (Za1 u (n:Nat)),(0:Int)≤z∧z < nv u
 al:∀ n < nv u,(Za1 u (n:Nat)).2.2.2.2.1.length * 8≤140737488351232
 ph:∀ i < nb u,∀ n∈vlD u i,(Za1 u n).1=21→List.length (Za1 u n).2.2.2.2.1=(prD u i).length
 lv:∀ n < nv u,lvs (Za1 u (n:Nat)).1=true→(0:Int)≤(Za1 u (n:Nat)).2.2.2.2.2.1∧(show Int from (Za1 u (n:Nat)).2.2.2.2.2.1) < ns u
 st:∀ s < ns u,(stD u s).length≤1000∧∀ f∈stD u s,Ybo u f
 cd:∀ i < nb u,(Zbt u i).2.1=2→(0:Int)≤(Zbt u i).2.2.1∧(show Int from (Zbt u i).2.2.1) < nv u
 os:∀ i < nb u,(Zbt u i).2.1=3→(0:Int)≤(Zbt u i).2.2.2.2.2.1∧(show Int from (Zbt u i).2.2.2.2.2.1) < ns u
structure Nt (S:Zb2):Prop where
 taken:S 54=[]
 seen:S 74=[]
 seenState:S 75=[]
 dominates:S 83=[]
 uses:S 58=[]
 parts:S 76=[]
 leaves:S 67=[]
theorem Z2d {Q:Nat→Prop}{u:UnT.D}{vo bo so:Option Addr}(h:UAt Q m u vo bo so){i:Nat}(hi:i < nb u) :
  ∃ (b:Nat) (vl:Option Addr),bo=some ⟨b,0,none⟩∧∀ (m':Mem) (fs:List Nat),Zaa m m' fs→(∀ f∈fs,¬ Q f)→loadRow m' ⟨b,i * 6,none⟩ 1=some [.slice vl (vlD u i).length (vlD u i).length]:=by
 obtain⟨vb,c,e,hc,hl⟩:=Zix h.b hi
 obtain⟨_,_,e1,h1,_⟩:=hc
 obtain⟨ao1,f1,rfl,hr1,hqf1⟩:=Zfr h1
 refine⟨vb,ao1,e,fun m' fs k hf=>?_⟩
 have:=Zb8 (k:=0) (hl m' fs k hf) (by rw [e1];rfl)
 rw [Nat.add_zero] at this
 rw [show vlD u i=(u.2.2.2.1[i]).1 from congrArg (fun x:Zfk.D=>x.1) (Zci hi)]
 exact this
theorem Zy0 {m:Mem}{Q:Nat→Prop}(v:Int):Za2 (fun _=>True) (m.new [.int .i64 v] 3) (some ⟨m.next,0,none⟩) [v]:=⟨m.next,⟨by simp,Or.inr ⟨_,rfl,(Own.new m [.int .i64 v] 3).rdo⟩⟩,fun _=>trivial⟩
set_option maxHeartbeats 16000000 in
theorem Zyn (hN:Nt S){Q:Nat→Prop}{u:UnT.D}{vo bo so:Option Addr}(hU:UAt Q m u vo bo so){cb cf b1 b2 f1 f2 ix:Nat}{bl pl I:List Int}(hC:Ck3 m u vo bo so cb cf b1 b2 f1 f2 ix bl pl I)(hR:Rok u bl pl I)(hnb:nb u≤1000)(hnv:nv u≤1000000)(hns:ns u≤1000000)(hT:Ya9 u)
  {i:Nat} (hi:i < nb u) :
  ∃ v m1,Zag Tryd.prog TT S 54 [.pointer (some ⟨cb,0,none⟩),.int .i64 (i:Int)] m=some (v,m1)∧v=.bool (Zk6 u bl pl I i)∧Zaa m m1 []:=by
 obtain⟨bb,vo',no',po',hbo,ldb,hvo',_,hpo'⟩:=Zgf hU hi
 have eb:u.2.2.2.1[i]=Zbt u i:=(Zci hi).symm
 rw [eb] at ldb hvo' hpo'
 have hbv:=hT.bv i hi
 have hpr:=hT.pr i hi
 have hph:=hT.ph i hi
 have hcd:=hT.cd i hi
 have hos:=hT.os i hi
 have hE:Zqp u bl pl I i=if (Zbt u i).2.1=2 then Zii u bl pl I i (vlD u i).length [(show Int from (Zbt u i).2.2.1)] else if (Zbt u i).2.1=3 then Zgx u bl pl I i (vlD u i).length (stD u (show Int from (Zbt u i).2.2.2.2.2.1).toNat) else true:=rfl
 have hF:Zk6 u bl pl I i=(Zjo u bl pl I i 0 (vlD u i) && Zqp u bl pl I i):=rfl
 obtain⟨vl,hvl⟩:∃ vl,vlD u i=vl:=⟨_,rfl⟩
 obtain⟨en,hen⟩:∃ en:Int,(Zbt u i).2.1=en:=⟨_,rfl⟩
 obtain⟨cd,hcde⟩:∃ cd:Int,(Zbt u i).2.2.1=cd:=⟨_,rfl⟩
 obtain⟨st,hst⟩:∃ st:Int,(Zbt u i).2.2.2.2.2.1=st:=⟨_,rfl⟩
 obtain⟨pr,hpre⟩:∃ pr,prD u i=pr:=⟨_,rfl⟩
 obtain⟨nl,hnl⟩:∃ nl,(Zbt u i).2.2.2.1.length=nl:=⟨_,rfl⟩
 unfold Zy8 at ldb
 rw [hnl] at ldb
 rw [hvl] at hbv hph hE hF
 rw [show (Zbt u i).1=vl from hvl] at ldb hvo'
 rw [show (Zbt u i).2.2.2.2.1=pr from hpre] at ldb hpo'
 rw [hpre] at hpr hph
 rw [hen] at ldb hcd hos hE
 rw [hcde] at ldb hcd hE
 rw [hst] at ldb hos hE
 obtain⟨R,hRe⟩:∃ R,Zk6 u bl pl I i=R:=⟨_,rfl⟩
 obtain⟨RE,hREe⟩:∃ R,Zqp u bl pl I i=R:=⟨_,rfl⟩
 rw [hRe,hREe] at hF
 rw [hREe] at hE
 rw [hRe]
 have c3:=hC.c.c.load1 (off:=3) rfl
 rw [hbo] at c3
 have i1:(i:Int) < nb u:=by omega
 have i2:(i:Int)≤9223372036854775807:=by omega
 obtain⟨oZ,kZ,nZ⟩:=Zat (m:=m) (cs:=[.slice none 0 0,.int .i64 0,.int .i64 0,.slice none 0 0,.slice none 0 0,.int .i64 0]) (e:=40) rfl
 obtain⟨bx,hbx'⟩:∃ bx,m.next=bx:=⟨_,rfl⟩
 obtain⟨m3,e3,oX,kX3⟩:=Zaj (r:=_) rfl oZ (off:=0) (vs:=[.slice vo' vl.length vl.length,.int .i64 en,.int .i64 cd,.slice no' nl nl,.slice po' pr.length pr.length,.int .i64 st]) (by simp) (by simp [Zam,Zad])
 simp [Zbr] at oX
 have k3:=kZ.fresh kX3 (by simp)
 rw [hbx'] at oX nZ e3
 have x0:=oX.load1 (off:=0) rfl
 refine Zfi 99 [99,108] k54 hN.taken rfl ?_
 simp [-Int.natCast_add,c3,i2,hi,ldb,hbx',e3,x0]
 obtain⟨RL,hRL⟩:∃ R,Zjo u bl pl I i 0 vl=R:=⟨_,rfl⟩
 rw [hRL] at hF
 clear ldb e3 c3 x0 oZ kZ kX3 nZ hbo
 have hU3:=hU.keep k3 (by simp)
 have hC3:=hC.keep0 k3
 have hvo3:=hvo'.keep k3 (by simp)
 have hpo3:=hpo'.keep k3 (by simp)
 refine Zai 99 [99,108] (fun d E mF=>∃ (k:Nat),vl.length - k=d∧k≤vl.length∧Zjo u bl pl I i k (vl.drop k)=RL∧Zaa m3 mF []∧
  E=[(0,.pointer (some ⟨cb,0,none⟩)),(1,.int .i64 (i:Int)),(5,.pointer (some ⟨bx,0,none⟩)),(6,.int .i64 vl.length),(24,.slice vo' vl.length vl.length),(25,.int .i64 vl.length),(26,.int .i64 (k:Int))]) _ ⟨_,⟨0,rfl,by omega,by rw [List.drop_zero];exact hRL,.refl _ _,rfl⟩,(by repeat' constructor)⟩ ?_
 rintro d E mF ih ⟨k,hd,hk,ha,kF,rfl⟩
 have km:(k:Int)≤9223372036854775807:=by omega
 by_cases hlt:k < vl.length
 ·have k1:(k:Int) < vl.length:=by omega
  have wk:IntKind.i64.wrap ((k:Int)+1)=((k+1:Nat):Int):=by rw [Zab (by omega) (by omega)];omega
  obtain⟨yb,hyb,lk0⟩:=(hvo3.keep kF (by simp)).get hlt
  rw [hyb] at ih ⊢
  rw [Zch hlt,Zjo] at ha
  have hnb':=hbv.2 _ (Zas hlt)
  have hphk:=hph _ (Zas hlt)
  obtain⟨n,hn⟩:∃ n:Nat,vl.getD k 0=(n:Int):=⟨(vl.getD k 0).toNat,by omega⟩
  rw [hn] at lk0 hnb' ha hphk
  have hnn:n < nv u:=by omega
  have n1:(n:Int) < nv u:=by omega
  have n2:(n:Int)≤9223372036854775807:=by omega
  have hUF:=hU3.keep kF (by simp)
  have hCF:=hC3.keep0 kF
  obtain⟨xb,ao,fa,hxv,ldx,hra,_⟩:=Zh hUF hnn
  rw [show u.2.2.1[n]=Za1 u (n:Int) from (Zeg hnn).symm] at ldx hra
  have hus:=hT.us n hnn
  have hal:=hT.al n hnn
  have hlv:=hT.lv n hnn
  have eV:Zuf u bl pl I i k (n:Int)=if (Za1 u n).1=21 then Z3f u bl pl I (Za1 u n).2.2.2.2.1 (prD u i) else
   Zii u bl pl I i k (Zcc (Za1 u n)) && (!lvs (Za1 u n).1 || Zgx u bl pl I i k (stD u (show Int from (Za1 u n).2.2.2.2.2.1).toNat)):=rfl
  rw [eV,hpre] at ha
  obtain⟨X,hX⟩:∃ X,Za1 u (n:Int)=X:=⟨_,rfl⟩
  rw [hX] at ldx hra hus hal hlv ha hphk
  clear eV
  obtain⟨o,ho⟩:∃ o:Int,X.1=o:=⟨_,rfl⟩
  obtain⟨xa,hxa⟩:∃ o:Int,X.2.1=o:=⟨_,rfl⟩
  obtain⟨xbb,hxbb⟩:∃ o:Int,X.2.2.1=o:=⟨_,rfl⟩
  obtain⟨xn,hxn⟩:∃ o:Int,X.2.2.2.1=o:=⟨_,rfl⟩
  obtain⟨l,hl⟩:∃ o:List Int,X.2.2.2.2.1=o:=⟨_,rfl⟩
  obtain⟨xst,hxst⟩:∃ o:Int,X.2.2.2.2.2.1=o:=⟨_,rfl⟩
  have huse:Zcc X=Ze7 o xa xbb l:=by unfold Zcc;rw [ho,hxa,hxbb,hl]
  rw [show List.length X.2.2.2.2.1=l.length by rw [hl]] at hphk hal
  rw [huse] at hus ha
  rw [show (show Int from X.2.2.2.2.2.1)=xst from hxst] at ha hlv
  rw [hxst] at hlv
  unfold Zkr at ldx
  rw [ho,hxa,hxbb,hxn,hl,hxst] at ldx
  rw [ho] at hlv ha hphk
  rw [hl] at hra ha
  clear hn
  have c2:=hCF.c.c.load1 (off:=2) rfl
  rw [hxv] at c2
  obtain⟨oZ,kZ,nZ⟩:=Zat (m:=mF) (cs:=[.int .i64 0,.int .i64 0,.int .i64 0,.int .i64 0,.slice none 0 0,.int .i64 0]) (e:=38) rfl
  obtain⟨vx,hvx⟩:∃ bx,mF.next=bx:=⟨_,rfl⟩
  obtain⟨m4,e4,oV,kV⟩:=Zaj (r:=_) rfl oZ (off:=0) (vs:=[.int .i64 o,.int .i64 xa,.int .i64 xbb,.int .i64 xn,.slice ao l.length l.length,.int .i64 xst]) (by simp) (by simp [Zam,Zad])
  simp [Zbr] at oV
  have k4:=kZ.fresh kV (by simp)
  rw [hvx] at oV nZ e4
  have v0:=oV.load1 (off:=0) rfl
  have v4:=oV.load1 (off:=4) rfl
  have v5:=oV.load1 (off:=5) rfl
  have vw:=oV.load (off:=0) 6 (by simp)
  simp [Zao] at vw
  have k34:=kF.trans k4
  have hC4:=hCF.keep0 k4
  have hU4:=hUF.keep k4 (by simp)
  clear oZ kZ kV
  by_cases c21:o=21
  ·rw [if_pos c21] at ha
   have hlp:=hphk c21
   have husl:∀ z∈l,(0:Int)≤z∧z < nv u:=fun z hz=>hus z (by rw [Zi2,c21];simp [hz])
   have hra4:Za2 (fun _=>True) m4 ao l:=⟨fa,hra.keep k4 (by simp),fun _=>trivial⟩
   have hlb:l.length≤20000000000000:=by omega
   obtain⟨RP,hRP⟩:∃ R,Z3f u bl pl I l pr=R:=⟨_,rfl⟩
   rw [hRP] at ha
   have o21:o=21↔True:=by simp [c21]
   simp [-Int.natCast_add,k1,km,hlt,lk0,c2,n2,hnn,ldx,hvx,e4,v0,v4,o21]
   refine Zai 99 [99,108] (fun d2 E mG=>∃ (j:Nat),l.length - j=d2∧j≤l.length∧Z3f u bl pl I (l.drop j) (pr.drop j)=RP∧Zaa m4 mG []∧
    E=[(0,.pointer (some ⟨cb,0,none⟩)),(1,.int .i64 (i:Int)),(5,.pointer (some ⟨bx,0,none⟩)),(6,.int .i64 vl.length),(24,.slice (some ⟨yb,0,none⟩) vl.length vl.length),(25,.int .i64 vl.length),(26,.int .i64 (k:Int)),(43,.slice ao l.length l.length),(44,.int .i64 l.length),(45,.int .i64 (j:Int))]) _ ⟨_,⟨0,rfl,by omega,by rw [List.drop_zero,List.drop_zero];exact hRP,.refl _ _,rfl⟩,(by repeat' constructor)⟩ ?_
   rintro d2 E mG ih2 ⟨j,hd2,hj,hp,kG,rfl⟩
   have jm:(j:Int)≤9223372036854775807:=by omega
   by_cases hjt:j < l.length
   ·have j1:(j:Int) < l.length:=by omega
    have wj:IntKind.i64.wrap ((j:Int)+1)=((j+1:Nat):Int):=by rw [Zab (by omega) (by omega)];omega
    have hjp:j < pr.length:=by omega
    have jp1:(j:Int) < pr.length:=by omega
    obtain⟨zb,rfl,lj⟩:=(hra4.keep kG (by simp)).get hjt
    obtain⟨qb,hqb,lq⟩:=((hpo3.keep k34 (by simp)).keep kG (by simp)).get hjp
    have hap:=husl _ (Zas hjt)
    have hqp:=hpr _ (Zas hjp)
    rw [Zch hjt,Zch hjp,Z3f] at hp
    obtain⟨aa,haa⟩:∃ k:Int,l.getD j 0=k:=⟨_,rfl⟩
    obtain⟨q,hq⟩:∃ k:Nat,pr.getD j 0=(k:Int):=⟨(pr.getD j 0).toNat,by omega⟩
    rw [haa] at lj hap hp
    rw [hq] at lq hqp hp
    rw [Int.toNat_natCast] at hp
    have hqn:q < nb u:=by omega
    have q1:(q:Int) < nb u:=by omega
    have q2:(q:Int)≤9223372036854775807:=by omega
    obtain⟨oN,kN,nN⟩:=Zat (m:=mG) (cs:=[.int .i64 aa]) (e:=3) rfl
    have hUG:=(hU4.keep kG (by simp))
    obtain⟨bb2,vo2,hbo2,hld⟩:=Z2d hUG hqn
    have ldv:=hld mG [] (.refl _ _) (by simp)
    have ldv3:=hld _ [] kN (by simp)
    have hCG:=hC4.keep0 kG
    have c3:=hCG.c.c.load1 (off:=3) rfl
    have c3N:=(hCG.keep0 kN).c.c.load1 (off:=3) rfl
    have oXG:=((oX.keep k34 (by simp)).keep kG (by simp))
    have x4:=oXG.load1 (off:=4) rfl
    have x4N:=(oXG.keep kN (by simp)).load1 (off:=4) rfl
    have lqN:=(((hpo3.keep k34 (by simp)).keep kG (by simp)).keep kN (by simp)).get hjp
    rw [hq] at lqN
    obtain⟨qb',hqb',lqN⟩:=lqN
    have tN:=Zjy (place:=((vlD u q).length:Int)) hN.seen hN.dominates (hCG.keep0 kN) hR hnb hnv (Zy0 (Q:=Q) (m:=mG) aa) (by simp) (by intro v hv;simp at hv;subst hv;exact hap) hqn
    simp only [List.length_cons,List.length_nil,Nat.zero_add] at tN
    obtain⟨Z,hZ⟩:∃ Z,Zii u bl pl I q (vlD u q).length [aa]=Z:=⟨_,rfl⟩
    rw [hZ] at tN hp
    have hqe:qb'=qb:=by rw [hqb] at hqb';simpa using hqb'.symm
    rw [hqe] at lqN
    rw [hbo2] at c3 c3N
    rw [hqb] at x4 x4N
    have Kg:Zaa m (mG.new [.int .i64 aa] 3) []:=((k3.trans k34).trans kG).trans kN
    cases Z
    ·have hPf:RP=false:=by rw [← hp];rfl
     have hRf:R=false:=by rw [hF,← ha,hPf];simp
     rw [hRf]
     simp [-Int.natCast_add,-List.getD_eq_getElem?_getD,Za u36 bs3 rfl,j1,jm,hjt,lj,hjp,c3,c3N,x4,x4N,lq,lqN,q2,hqn,ldv,ldv3,tN]
     exact Kg
    ·simp [-Int.natCast_add,-List.getD_eq_getElem?_getD,Za u36 bs3 rfl,j1,jm,hjt,lj,hjp,c3,c3N,x4,x4N,lq,lqN,q2,hqn,ldv,ldv3,tN,wj]
     exact ih2 _ _ _ _ ⟨j+1,rfl,by omega,by rw [← hp];rfl,kG.trans kN,rfl⟩ (by omega) (by repeat' constructor)
   clear ih2
   have j1:¬ (j:Int) < l.length:=by omega
   have hPt:RP=true:=by
    rw [← hp,List.drop_of_length_le (show l.length≤j by omega)];rfl
   rw [hPt,Bool.true_and] at ha
   simp [-Int.natCast_add,-List.getD_eq_getElem?_getD,j1,wk]
   exact ih _ _ _ _ ⟨k+1,rfl,by omega,ha,k34.trans kG,rfl⟩ (by omega) (by repeat' constructor)
  ·rw [if_neg c21] at ha
   obtain⟨vU,m5,c5,⟨uo,uf,rfl,hru⟩,k5⟩:=Zpk (m:=m4) hN.uses hN.parts (op:=o) (a:=xa) (b:=xbb) (n:=xn) (st:=xst) hal (hra.keep k4 (by simp))
   have hul:=Zl5 o xa xbb l
   obtain⟨L,hL⟩:∃ L,Ze7 o xa xbb l=L:=⟨_,rfl⟩
   rw [hL] at hul c5 hru hus ha
   have hC5:=hC4.keep0 k5
   have hU5:=hU4.keep k5 (by simp)
   have t5:=Zjy (place:=(k:Int)) hN.seen hN.dominates hC5 hR hnb hnv ⟨uf,hru,fun _=>trivial⟩ (Q:=fun _=>True) (by omega) hus hi
   have lv5:=Zpm (m:=m5) hN.leaves o
   have lv4:=Zpm (m:=m4) hN.leaves o
   have oV5:=oV.keep k5 (by simp)
   have y0:=oV5.load1 (off:=0) rfl
   have y5:=oV5.load1 (off:=5) rfl
   have yw:=oV5.load (off:=0) 6 (by simp)
   simp [Zao] at yw
   obtain⟨T,hTe⟩:∃ T,Zii u bl pl I i k L=T:=⟨_,rfl⟩
   obtain⟨V,hV⟩:∃ V,lvs o=V:=⟨_,rfl⟩
   rw [hTe] at t5 ha
   rw [hV] at lv5 lv4 hlv ha
   have K5:Zaa m m5 []:=(k3.trans k34).trans k5
   simp [-Int.natCast_add,-w54_14,k1,km,hlt,lk0,c2,n2,hnn,ldx,hvx,e4,v0,c21]
   cases T
   ·have hRf:R=false:=by rw [hF,← ha];simp
    rw [hRf]
    simp [-Int.natCast_add,vw,c5,t5]
    exact K5
   cases V
   ·simp [-Int.natCast_add,vw,y0,c5,t5,lv5,wk]
    exact ih _ _ _ _ ⟨k+1,rfl,by omega,by rw [← ha];simp,k34.trans k5,rfl⟩ (by omega) (by repeat' constructor)
   ·have hst2:=hlv rfl
    obtain⟨s,rfl⟩:∃ s:Nat,xst=(s:Int):=⟨xst.toNat,by omega⟩
    have hsn:s < ns u:=by omega
    rw [Int.toNat_natCast] at ha
    have hsS:=hT.st s hsn
    obtain⟨_,m6,c6,rfl,k6⟩:=Zj (place:=(k:Int)) hN.seenState hN.seen hN.dominates hU5 hC5 hR hnb hnv hsn hns (Zhc hsn).symm hsS.1 hsS.2 hi
    obtain⟨Z,hZ⟩:∃ Z,Zgx u bl pl I i k (stD u s)=Z:=⟨_,rfl⟩
    rw [hZ] at c6 ha
    cases Z
    ·have hRf:R=false:=by rw [hF,← ha];simp
     rw [hRf]
     simp [-Int.natCast_add,vw,y0,y5,c5,t5,lv5,c6]
     exact K5.trans k6
    ·simp [-Int.natCast_add,vw,y0,y5,c5,t5,lv5,c6,wk]
     exact ih _ _ _ _ ⟨k+1,rfl,by omega,by rw [← ha];simp,(k34.trans k5).trans k6,rfl⟩ (by omega) (by repeat' constructor)
 ·clear ih
  have k1:¬ (k:Int) < vl.length:=by omega
  rw [List.drop_of_length_le (by omega),Zjo] at ha
  rw [← ha,Bool.true_and] at hF
  have hCF:=hC3.keep0 kF
  have hUF:=hU3.keep kF (by simp)
  have oXF:=oX.keep kF (by simp)
  have x1:=oXF.load1 (off:=1) rfl
  have x2:=oXF.load1 (off:=2) rfl
  have x5:=oXF.load1 (off:=5) rfl
  have KF:=k3.trans kF
  simp [-Int.natCast_add,-w54_18,k1,x1]
  by_cases e2:en=2
  ·rw [if_pos e2] at hE
   rw [hF,hE]
   obtain⟨oN,kN,nN⟩:=Zat (m:=mF) (cs:=[.int .i64 cd]) (e:=3) rfl
   have hCN:=hCF.keep0 kN
   have tN:=Zjy (place:=(vl.length:Int)) hN.seen hN.dominates hCN hR hnb hnv (Zy0 (Q:=Q) (m:=mF) cd) (by simp) (by intro v hv;simp at hv;subst hv;exact hcd e2) hi
   simp only [List.length_cons,List.length_nil,Nat.zero_add] at tN
   simp [-Int.natCast_add,Za u36 bs3 rfl,e2,x2,tN]
   exact KF.trans kN
  rw [if_neg e2] at hE
  by_cases e4:en=3
  ·rw [if_pos e4] at hE
   have hst2:(0:Int)≤st∧st < ns u:=hos e4
   obtain⟨s,rfl⟩:∃ s:Nat,st=(s:Int):=⟨st.toNat,by omega⟩
   have hsn:s < ns u:=by omega
   rw [Int.toNat_natCast] at hE
   rw [hF,hE]
   have hsS:=hT.st s hsn
   obtain⟨_,m6,c6,rfl,k6⟩:=Zj (place:=(vl.length:Int)) hN.seenState hN.seen hN.dominates hUF hCF hR hnb hnv hsn hns (Zhc hsn).symm hsS.1 hsS.2 hi
   simp [-Int.natCast_add,e4,x5,c6]
   exact KF.trans k6
  rw [if_neg e4] at hE
  rw [hF,hE]
  simp [-Int.natCast_add,e2,e4]
  exact KF
end Go.Proofs.YtlogdohlcdhepaaDoor.base
end
