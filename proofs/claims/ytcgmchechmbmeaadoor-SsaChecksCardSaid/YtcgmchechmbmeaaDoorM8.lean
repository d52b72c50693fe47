/- This text proves what the document's 'preds' and 'Doms' answer, Zb1 the abstract run. Condition: nothing is known of the calls ahead ('S f = []'). -/
import Derived.Test.YtcgmchechmbmeaaDoorM7
set_option linter.unusedVariables false
set_option linter.unusedSimpArgs false
section
set_option maxRecDepth 100000
namespace Go.Proofs.YtcgmchechmbmeaaDoor.base
open Go.Sh gen
variable {S:Zb7}{m:Mem}
theorem Rows.base {m0 m1 m:Mem}{ob of:Nat}{ao:Nat→Option Addr}{fm:Nat→Nat}{L:List (List Int)}(h:Rows m1 m ob of ao fm L)(hk:m0.next≤m1.next):Rows m0 m ob of ao fm L:=
 ⟨h.own,h.row,fun i hi hn=>⟨by have:=(h.fr i hi hn).1;omega,(h.fr i hi hn).2⟩,h.inj,by have:=h.ofr;omega⟩
set_option maxHeartbeats 8000000 in
theorem Zxi (hS:S 27=[]){Q:Nat→Prop}{u:UnT.D}{vo bo so:Option Addr}(hU:UAt Q m u vo bo so)(hQ:∀ f,Q f→f < m.next)(hnb:nb u≤1000)(hnx:Znc u) :
  ∃ v m1,Zaq Tryd.prog TT S 27 [.agg (Za3 u vo bo so).toArray] m=some (v,m1)∧Z6t m m1 (Zak u) v∧Zaa m m1 []:=by
 obtain⟨oU,kU,nU⟩:=Zas (m:=m) (cs:=Za3 u vo bo so) (e:=29) rfl
 obtain⟨mB,hmB⟩:∃ mB,m.new (Za3 u vo bo so) 29=mB:=⟨_,rfl⟩
 obtain⟨ub,hub⟩:∃ ub,m.next=ub:=⟨_,rfl⟩
 rw [hmB,hub] at oU nU
 rw [hmB] at kU
 have u3:=oU.load1 (off:=3) rfl
 have hz:=Zkm (nb u) (by omega)
 rw [Zr5] at hz
 have n1:(nb u:Int)≤9223372036854775807:=by omega
 have n2:nb u * 24≤281474976710656:=by omega
 obtain⟨oW,kW,nW⟩:=Zas (m:=mB) (cs:=Zhf (fun _=>none) (List.replicate (nb u) [])) (e:=22) rfl
 obtain⟨ob,hob⟩:∃ ob,mB.next=ob:=⟨_,rfl⟩
 obtain⟨mD,hmD⟩:∃ mD,mB.new (Zhf (fun _=>none) (List.replicate (nb u) [])) 22=mD:=⟨_,rfl⟩
 rw [hmD,hob] at oW nW
 rw [hmD] at kW
 refine Zho 7 [15,26] k27 hS rfl ?_
 simp [-Int.natCast_add,-List.map_replicate,Zbw b29,Zfa u57 Z86,hmB,hub,u3,hz,n1,n2,hmD,hob]
 have R0:Rows mB mD ob ob (fun _=>none) (fun _=>0) (List.replicate (nb u) []):=⟨oW,fun i hi=>by
   rw [List.length_replicate] at hi
   rw [List.getD_eq_getElem?_getD,List.getElem?_replicate,if_pos hi]
   exact Sl.nil _ _ _ _,fun i _ h=>absurd rfl h,fun i _ j _ _ h=>absurd rfl h,by omega⟩
 have K0:Zaa mB mD []:=kW
 have hgd0:∀ k,((List.replicate (nb u) ([]:List Int)).getD k []).length≤2 * 0:=by
  intro k
  rw [List.getD_eq_getElem?_getD,List.getElem?_replicate]
  split <;> simp
 obtain⟨L0,hL0⟩:∃ L0:List (List Int),L0=List.replicate (nb u) []:=⟨_,rfl⟩
 have hlen0:L0.length=nb u:=by rw [hL0];simp
 have hA:Zc2 0 u.2.2.2.1 L0=Zak u:=by rw [hL0];rfl
 rw [← hL0] at R0 hgd0
 obtain⟨A,hA'⟩:∃ A,Zak u=A:=⟨_,rfl⟩
 rw [hA'] at hA ⊢
 refine Zah 7 [15,26] (fun d E mF=>∃ (i:Nat) (ao:Nat→Option Addr) (fm:Nat→Nat) (L:List (List Int)),nb u - i=d∧i≤nb u∧Rows mB mF ob ob ao fm L∧L.length=nb u∧Zaa mB mF []∧(∀ k,(L.getD k []).length≤2 * i)∧Zc2 i (u.2.2.2.1.drop i) L=A∧
  E=[(1,.pointer (some ⟨ub,0,none⟩)),(3,.slice (some ⟨ob,0,none⟩) (nb u) (nb u)),(4,.int .i64 (i:Int))]) _ ⟨_,⟨0,_,_,L0,rfl,by omega,R0,hlen0,K0,hgd0,by rw [List.drop_zero];exact hA,rfl⟩,⟨by rfl,by rfl,by rfl,trivial⟩⟩ ?_
 clear R0 K0 hgd0 hlen0 hA hL0
 rintro d E mF ih ⟨i,ao,fm,L,hd,hi,hF,hL,kF,hg,hr,rfl⟩
 have im:(i:Int)≤9223372036854775807:=by omega
 have u3F:=(oU.keep kF (by simp)).load1 (off:=3) rfl
 by_cases hlt:i < nb u
 ·have i1:(i:Int) < nb u:=by omega
  have wi:IntKind.i64.wrap ((i:Int)+1)=((i+1:Nat):Int):=by rw [Zab (by omega) (by omega)];omega
  have hbx:=hnx _ (List.getElem_mem hlt)
  rw [List.drop_eq_getElem_cons hlt,Zc2] at hr
  obtain⟨l,hl⟩:∃ l:List Int,(u.2.2.2.1[i]).2.2.2.1=l:=⟨_,rfl⟩
  rw [show (show List Int from (u.2.2.2.1[i]).2.2.2.1)=l from hl] at hr hbx
  rw [hl] at hbx
  simp [-Int.natCast_add,i1,u3F]
  refine Zah 7 [15,26] (fun d2 E mG=>∃ (j:Nat) (ao:Nat→Option Addr) (fm:Nat→Nat) (L:List (List Int)),l.length - j=d2∧j≤l.length∧Rows mB mG ob ob ao fm L∧L.length=nb u∧Zaa mB mG []∧(∀ k,(L.getD k []).length≤2 * i+j)∧Zc2 (i+1) (u.2.2.2.1.drop (i+1)) ((l.drop j).foldl (Zcy i) L)=A∧
   E=[(1,.pointer (some ⟨ub,0,none⟩)),(3,.slice (some ⟨ob,0,none⟩) (nb u) (nb u)),(4,.int .i64 (i:Int)),(5,.int .i64 (j:Int))]) _ ⟨_,⟨0,ao,fm,L,rfl,by omega,hF,hL,kF,by simpa using hg,by rw [List.drop_zero];exact hr,rfl⟩,(by repeat' constructor)⟩ ?_
  clear hF hL hg hr u3F
  rintro d2 E mG ih2 ⟨j,ao,fm,L,hd2,hj,hG,hL,kG,hg,hr,rfl⟩
  have jm:(j:Int)≤9223372036854775807:=by omega
  have u3G:=(oU.keep kG (by simp)).load1 (off:=3) rfl
  obtain⟨bb,vo',no',po',hbo,ldb,_,hno',_⟩:=Zf6 ((hU.keep kU (by simp)).keep kG (by simp)) hlt
  unfold Zw1 at ldb
  rw [hl] at ldb hno'
  have b3:=Zbr (k:=3) ldb rfl
  rw [hbo] at u3G
  by_cases hjt:j < l.length
  ·have j1:(j:Int) < l.length:=by omega
   have wj:IntKind.i64.wrap ((j:Int)+1)=((j+1:Nat):Int):=by rw [Zab (by omega) (by omega)];omega
   obtain⟨xb,rfl,lj⟩:=hno'.get hjt
   rw [Za9 hjt,List.foldl_cons] at hr
   have hkb:=hbx.2 _ (Za4 hjt)
   obtain⟨k,hk⟩:∃ k:Nat,l.getD j 0=(k:Int):=⟨(l.getD j 0).toNat,by omega⟩
   rw [hk] at lj hr hkb
   have hkn:k < nb u:=by omega
   have hkL:k < L.length:=by omega
   have k1:(k:Int) < nb u:=by omega
   have k2:(k:Int)≤9223372036854775807:=by omega
   have lrow:=hG.own.load1 (off:=k) (Zdx ao hkL)
   have lrow2:=(hG.own.new_other [.int .i64 (i:Int)] 3).load1 (off:=k) (Zdx ao hkL)
   have hgk:=hg k
   have eS:Zcy i L (k:Int)=L.set k (L.getD k []++[(i:Int)]):=by unfold Zcy;rw [Int.toNat_natCast]
   rw [eS] at hr
   have hap:=fun r=>hG.app kG hkL (by omega) (i:Int) (r:=r)
   have hgS:∀ k',((L.set k (L.getD k []++[(i:Int)])).getD k' []).length≤2 * i+(j+1):=by
    intro k'
    by_cases e:k'=k
    ·subst e
     rw [Zc8 hkL,List.length_append];simp only [List.length_cons,List.length_nil];omega
    ·rw [Zc5 e];have:=hg k';omega
   obtain⟨row,hrow⟩:∃ row,L.getD k []=row:=⟨_,rfl⟩
   rw [hrow] at lrow lrow2 hap hgk hgS hr
   simp [-Int.natCast_add,-List.getD_eq_getElem?_getD,Za u22 bs3 rfl,Zbf u22 sz3,im,hlt,u3G,b3,j1,jm,hjt,lj,k2,hkn,lrow]
   generalize hra:Zal _ _ _ _ _ _=ra
   obtain⟨m1,b',m2,fm',rfl,e2,R2,K2,fs,hfs,kfs⟩:=hap ra hra
   simp [-Int.natCast_add,-List.getD_eq_getElem?_getD,k2,hkn,e2,wj]
   exact ih2 _ _ _ _ ⟨j+1,_,fm',_,rfl,by omega,R2,by simpa using hL,K2,hgS,hr,rfl⟩ (by omega) (by repeat' constructor)
  clear ih2
  have j1:¬ (j:Int) < l.length:=by omega
  rw [List.drop_of_length_le (show l.length≤j by omega),List.foldl_nil] at hr
  simp [-Int.natCast_add,-List.getD_eq_getElem?_getD,j1,wi,u3G,b3,im,hlt]
  exact ih _ _ _ _ ⟨i+1,ao,fm,L,rfl,by omega,hG,hL,kG,fun k=>by have:=hg k;have:=hbx.1;omega,hr,rfl⟩ (by omega) ⟨by rfl,by rfl,by rfl,trivial⟩
 clear ih
 have i1:¬ (i:Int) < nb u:=by omega
 rw [List.drop_of_length_le (Nat.not_lt.1 hlt),Zc2] at hr
 simp [-Int.natCast_add,-List.getD_eq_getElem?_getD,i1,u3F]
 rw [← hr]
 exact⟨⟨ob,ob,ao,fm,by rw [hL],hF.base kU.1⟩,kU.trans kF⟩
def Ya9 (m:Mem)(db:Nat)(L:List (List Int))(C:List Value)(a:Nat):Prop:=∃ r bl,C[a]?=some (.slice (some ⟨r,0,none⟩) L.length L.length)∧Own m r (Zdk bl) 4 r∧bl.length=L.length∧db < r∧∀ b < L.length,(bl.getD b false=true↔¬ Wo L a b)
structure Zm5 (m0 m:Mem)(db:Nat)(L:List (List Int))(C:List Value)(k:Nat):Prop where
 own:Own m db C 60 db
 len:C.length=L.length
 fr:m0.next≤db
 row:∀ a < k,Ya9 m db L C a
def Z85 (m m1:Mem)(L:List (List Int))(v:Value):Prop:=∃ db C,v=.slice (some ⟨db,0,none⟩) L.length L.length∧Zm5 m m1 db L C L.length
theorem Zsq (k:Nat)(hk:k≤1000000):Zdy Tryd.prog 60 k=some (List.replicate k (Value.slice none 0 0)):=Zly (bt:=24) (by kernel_rfl) k (by omega)
set_option maxHeartbeats 8000000 in
theorem Z0r (hS:S 30=[])(hW:S 29=[]){Q:Nat→Prop}{nx fx:Nat}{ao:Nat→Option Addr}{L:List (List Int)}(hN:Zqg Q m nx fx ao L)(hQ:∀ f,Q f→f < m.next)(hl0:0 < L.length)(hl:L.length≤1000)
  (hrow:∀ i < L.length,(L.getD i []).length≤1000000∧∀ t∈L.getD i [],(0:Int)≤t∧t < L.length) :
  ∃ v m1,Zaq Tryd.prog TT S 30 [.slice (some ⟨nx,0,none⟩) L.length L.length,.int .i64 0] m=some (v,m1)∧Z85 m m1 L v∧Zaa m m1 []:=by
 obtain⟨n,hn⟩:∃ n,L.length=n:=⟨_,rfl⟩
 have hz:=Zsq n (by omega)
 have hzb:=Zig n (by omega)
 have hzc:List.replicate n (Value.bool false)=Zdk (List.replicate n false):=by simp [Zdk]
 rw [hzc] at hzb
 obtain⟨C0,hC0⟩:∃ C0,List.replicate n (Value.slice none 0 0)=C0:=⟨_,rfl⟩
 have hCl:C0.length=n:=by rw [← hC0];simp
 rw [hC0] at hz
 obtain⟨oD,kD,nD⟩:=Zas (m:=m) (cs:=C0) (e:=60) rfl
 obtain⟨db,hdb⟩:∃ db,m.next=db:=⟨_,rfl⟩
 obtain⟨mA,hmA⟩:∃ mA,m.new C0 60=mA:=⟨_,rfl⟩
 rw [hmA,hdb] at oD nD
 rw [hmA] at kD
 have n1:(n:Int)≤9223372036854775807:=by omega
 have n2:n * 24≤281474976710656:=by omega
 have n3:n≤281474976710656:=by omega
 have D0:Zm5 m mA db L C0 0:=⟨oD,by omega,by omega,fun a h=>by omega⟩
 refine Zho 9 [15,31] k30 hS rfl ?_
 rw [hn]
 simp [-Int.natCast_add,-List.map_replicate,Zfa u63 Ybw,hz,n1,n2,hmA,hdb]
 refine Zah 9 [15,31] (fun d E mF=>∃ (a:Nat) (C:List Value),n - a=d∧a≤n∧Zm5 m mF db L C a∧Zaa m mF []∧
  E=[(0,.slice (some ⟨nx,0,none⟩) n n),(1,.int .i64 0),(5,.slice (some ⟨db,0,none⟩) n n),(6,.int .i64 (a:Int))]) _ ⟨_,⟨0,C0,rfl,by omega,D0,kD,rfl⟩,(by repeat' constructor)⟩ ?_
 clear D0 oD
 rintro d E mF ih ⟨a,C,hd,ha,hD,kF,rfl⟩
 have am:(a:Int)≤9223372036854775807:=by omega
 by_cases hlt:a < n
 ·have a1:(a:Int) < n:=by omega
  have wa:IntKind.i64.wrap ((a:Int)+1)=((a+1:Nat):Int):=by rw [Zab (by omega) (by omega)];omega
  obtain⟨v,mW,ew,⟨sb,sn,rfl,lsn,oS,nS,hsn⟩,kW⟩:=Zna (a:=a) (but:=(a:Int)) hW (hN.keep kF (by simp) (by simp)) (fun f h=>by have:=hQ f h;have:=kF.1;omega) hl0 (by omega) hrow (fun t ht=>by omega)
  rw [hn] at ew lsn hsn
  obtain⟨oR,kR,nR⟩:=Zas (m:=mW) (cs:=Zdk (List.replicate n false)) (e:=4) rfl
  obtain⟨rb,hrb⟩:∃ rb,mW.next=rb:=⟨_,rfl⟩
  obtain⟨mR,hmR⟩:∃ mR,mW.new (Zdk (List.replicate n false)) 4=mR:=⟨_,rfl⟩
  rw [hmR,hrb] at oR nR
  rw [hmR] at kR
  have hdbl:=hD.own.flt
  have fW:=kW.1
  have oDR:=(hD.own.keep kW (by simp)).keep kR (by simp)
  obtain⟨mS,eS,oDS,kS⟩:=Zao (r:=_) rfl oDR (off:=a) (vs:=[.slice (some ⟨rb,0,none⟩) n n]) (by simp [hD.len,hn];omega) (by simp [Zae])
  simp [-Int.natCast_add,-List.map_replicate,Zfa u60 ap4,a1,am,hlt,ew,hzb,n1,n3,hmR,hrb,eS]
  have hCS:Zb1 C a [.slice (some ⟨rb,0,none⟩) n n]=C.set a (.slice (some ⟨rb,0,none⟩) n n):=by simp [Zb1,List.set_eq_take_append_cons_drop,hD.len,hn,hlt]
  rw [hCS] at oDS
  have hrd:db < rb:=by omega
  have fS:mW.next≤mS.next:=by have:=kR.1;have:=kS.1;omega
  have oRS:=oR.keep kS (by simp;omega)
  have hsr:sb < rb:=by have:=oS.flt;omega
  have oSS:=((oS.keep kR (by simp))).keep kS (by simp;omega)
  obtain⟨C1,hC1⟩:∃ C1,C.set a (.slice (some ⟨rb,0,none⟩) n n)=C1:=⟨_,rfl⟩
  have hC1a:C1[a]?=some (.slice (some ⟨rb,0,none⟩) n n):=by rw [← hC1];simp [hD.len,hn,hlt]
  have hC1l:C1.length=L.length:=by rw [← hC1];simpa using hD.len
  have hR:∀ b < a,∃ r bl,C1[b]?=some (.slice (some ⟨r,0,none⟩) L.length L.length)∧Own mS r (Zdk bl) 4 r∧bl.length=L.length∧db < r∧r < rb∧∀ y < L.length,(bl.getD y false=true↔¬ Wo L b y):=fun b hb=>by
   obtain⟨r,bl,h1,h2,h3,h4,h5⟩:=hD.row b hb
   have:=h2.flt
   exact⟨r,bl,by rw [← hC1,List.getElem?_set_ne (by omega)];exact h1,(((h2.keep kW (by simp)).keep kR (by simp)).keep kS (by simp;omega)),h3,h4,by omega,h5⟩
  have KS:Zaa m mS []:=((kF.trans kW).trans kR).fresh kS (by simp;omega)
  have hB0:∀ b < 0,((List.replicate n false).getD b false=true↔¬ Wo L a b):=fun b h=>by omega
  rw [hC1] at oDS
  have hmf:mF.next≤rb:=by omega
  have hfr:=hD.fr
  clear hD hCS oDR eS hC1 ew
  refine Zah 9 [15,31] (fun d2 E mG=>∃ (b:Nat) (bl:List Bool),n - b=d2∧b≤n∧bl.length=n∧Own mG rb (Zdk bl) 4 rb∧(∀ x < b,(bl.getD x false=true↔¬ Wo L a x))∧Zaa mS mG [rb]∧
   E=[(0,.slice (some ⟨nx,0,none⟩) n n),(1,.int .i64 0),(5,.slice (some ⟨db,0,none⟩) n n),(6,.int .i64 (a:Int)),(7,.slice (some ⟨sb,0,none⟩) n n),(8,.int .i64 (b:Int))]) _ ⟨_,⟨0,List.replicate n false,rfl,by omega,by simp,oRS,hB0,.refl _ _,rfl⟩,(by repeat' constructor)⟩ ?_
  rintro d2 E mG ih2 ⟨b,bl,hd2,hb,hbl,oRG,hbv,kG,rfl⟩
  have bm:(b:Int)≤9223372036854775807:=by omega
  by_cases hbt:b < n
  ·have b1:(b:Int) < n:=by omega
   have wb:IntKind.i64.wrap ((b:Int)+1)=((b+1:Nat):Int):=by rw [Zab (by omega) (by omega)];omega
   have l1:=(oDS.keep kG (by simp;omega)).load1 (off:=a) hC1a
   have l2:=(oSS.keep kG (by simp;omega)).load1 (off:=b) (Zg3 (by omega))
   obtain⟨mH,eH,oH,kH⟩:=Ziq oRG (i:=b) (by omega) (!sn.getD b false)
   have hsb:=hsn b (by omega)
   obtain⟨x,hx⟩:∃ x,sn.getD b false=x:=⟨_,rfl⟩
   rw [hx] at l2 eH oH hsb
   simp [-Int.natCast_add,-List.getD_eq_getElem?_getD,b1,bm,hbt,am,hlt,l1,l2,eH,wb]
   refine ih2 _ _ _ _ ⟨b+1,bl.set b (!x),rfl,by omega,by simpa using hbl,oH,fun y hy=>?_,kG.trans (kH.mono (by simp)),rfl⟩ (by omega) (by repeat' constructor)
   by_cases e:y=b
   ·subst e
    rw [List.getD_eq_getElem?_getD,List.getElem?_set_self (by omega)]
    simp only [Option.getD_some]
    rw [← hsb];cases x <;> simp
   ·rw [List.getD_eq_getElem?_getD,List.getElem?_set_ne (Ne.symm e),← List.getD_eq_getElem?_getD]
    exact hbv y (by omega)
  clear ih2
  have b1:¬ (b:Int) < n:=by omega
  have:b=n:=by omega
  subst this
  simp [-Int.natCast_add,-List.getD_eq_getElem?_getD,b1,wa]
  refine ih _ _ _ _ ⟨a+1,C1,rfl,by omega,⟨oDS.keep kG (by simp;omega),hC1l,hfr,fun y hy=>?_⟩,KS.fresh kG (by simp;omega),rfl⟩ (by omega) (by repeat' constructor)
  by_cases e:y=a
  ·subst e
   exact⟨rb,bl,by rw [hn];exact hC1a,oRG,by rw [hn];exact hbl,hrd,fun z hz=>hbv z (by omega)⟩
  ·obtain⟨r,bl',h1,h2,h3,h4,h6,h5⟩:=hR y (by omega)
   exact⟨r,bl',h1,h2.keep kG (by simp;omega),h3,h4,h5⟩
 clear ih
 have a1:¬ (a:Int) < n:=by omega
 have:a=n:=by omega
 subst this
 simp [-Int.natCast_add,-List.getD_eq_getElem?_getD,a1]
 exact⟨⟨db,C,by rw [hn],by rw [hn];exact hD⟩,kF⟩
end Go.Proofs.YtcgmchechmbmeaaDoor.base
end
section
set_option maxRecDepth 100000
namespace Go.Proofs.YtcgmchechmbmeaaDoor.base
open Go.Sh gen
def Zt8 (l:List Int)(x y:Int):Prop:=∃ l1 l2,l=l1++l2∧x∈l1∧y∈l2
theorem Zt8.snoc {l:List Int}{x y b:Int}(h:Zt8 l x y):Zt8 (l++[b]) x y:=by
 obtain⟨l1,l2,rfl,h1,h2⟩:=h
 exact⟨l1,l2++[b],by simp,h1,by simp [h2]⟩
def Zld (u:UnT.D):List (Nat × Nat)→Prop
 | []=>True
 | [p]=>p.1=0
 | p::q::r=>(p.1:Int)∈nxD u q.1∧Zld u (q::r)
structure Zwy (u:UnT.D)(s:OSt):Prop where
 sl:s.1.length=nb u
 mem:∀ k < nb u,s.1.getD k false=true↔((k:Int)∈s.2.1∨∃ i,(k,i)∈s.2.2)
 nd:(s.2.1++s.2.2.map fun p=>(p.1:Int)).Nodup
 rp:∀ x∈s.2.1,(0:Int)≤x∧x < nb u
 rs:∀ p∈s.2.2,p.1 < nb u∧p.2≤(nxD u p.1).length
 lk:Zld u s.2.2
 par:∀ x∈s.2.1,x≠0→∃ y:Nat,x∈nxD u y∧((∃ i,(y,i)∈s.2.2)∨Zt8 s.2.1 x y)
 cp:∀ x∈s.2.1,∀ k∈nxD u x.toNat,s.1.getD k.toNat false=true
 cs:∀ p∈s.2.2,∀ j < p.2,s.1.getD ((nxD u p.1).getD j 0).toNat false=true
 z:(0:Int)∈s.2.1→s.2.2=[]
 ne:s.2.2=[]→s.2.1.getLast?=some 0
 cnt:s.2.1.length+s.2.2.length=s.1.count true
def stM (st:List (Nat × Nat)):Nat:=(st.map fun p=>2 * (2 - p.2)+1).sum
def Z57 (u:UnT.D)(s:OSt):Nat:=6 * (nb u - s.1.count true)+stM s.2.2
theorem Ztx {u:UnT.D}{p:Nat × Nat}{r:List (Nat × Nat)}(h:Zld u (p::r)):Zld u r:=by
 cases r with
 | nil=>trivial
 | cons q r=>exact h.2
theorem Zmp {u:UnT.D}{b i j:Nat}{r:List (Nat × Nat)}(h:Zld u ((b,i)::r)):Zld u ((b,j)::r):=by
 cases r with
 | nil=>exact h
 | cons q r=>exact h
theorem Zju (l:List Bool)(i k:Nat)(v:Bool)(h:i < l.length):(l.set i v).getD k false=if i=k then v else l.getD k false:=by
 rw [List.getD_eq_getElem?_getD,List.getElem?_set]
 split
 ·simp
 ·rw [List.getD_eq_getElem?_getD]
theorem Z2z {u:UnT.D}(hnx:Znc u){b:Nat}(hb:b < nb u):(nxD u b).length≤2∧∀ k∈nxD u b,(0:Int)≤k∧k < nb u:=hnx _ (Zfk hb)
theorem Zmc {u:UnT.D}(hnx:Znc u){sn:List Bool}{pl:List Int}{b i:Nat}{st:List (Nat × Nat)}(h:Zwy u (sn,pl,(b,i)::st)) :
  Zwy u (Zml u (sn,pl,(b,i)::st))∧Z57 u (Zml u (sn,pl,(b,i)::st)) < Z57 u (sn,pl,(b,i)::st):=by
 obtain⟨sl,mem,nd,rp,rs,lk,par,cp,cs,z,ne,cnt⟩:=h
 dsimp only at sl mem nd rp rs lk par cp cs z ne cnt
 have hb:=rs (b,i) (by simp)
 dsimp only at hb
 have hn:=Z2z hnx hb.1
 have hb0:(0:Int)∉pl:=fun h0=>by have:=z h0;cases this
 have hst:Zml u (sn,pl,(b,i)::st)=if i=(nxD u b).length then (sn,pl++[(b:Int)],st) else
   if sn.getD ((nxD u b).getD i 0).toNat false=true then (sn,pl,(b,i+1)::st) else
   (sn.set ((nxD u b).getD i 0).toNat true,pl,(((nxD u b).getD i 0).toNat,0)::(b,i+1)::st):=rfl
 rw [hst]
 by_cases hi:i=(nxD u b).length
 ·rw [if_pos hi]
  refine⟨⟨sl,fun k hk=>?_,?_,fun x hx=>?_,fun p hp=>rs p (by simp [hp]),Ztx lk,fun x hx h0=>?_,fun x hx k hk=>?_,fun p hp=>cs p (by simp [hp]),fun h0=>?_,fun he=>?_,by simp at cnt ⊢;omega⟩,?_⟩
  ·dsimp only
   rw [mem k hk]
   constructor
   ·rintro (h1 | ⟨j,h1⟩)
    ·exact Or.inl (by simp [h1])
    ·rcases List.mem_cons.1 h1 with e | h1
     ·exact Or.inl (by rw [Prod.mk.injEq] at e;simp [e.1])
     ·exact Or.inr ⟨j,h1⟩
   ·rintro (h1 | ⟨j,h1⟩)
    ·rcases List.mem_append.1 h1 with h1 | h1
     ·exact Or.inl h1
     ·simp at h1
      exact Or.inr ⟨i,by rw [show k=b by omega];simp⟩
    ·exact Or.inr ⟨j,by simp [h1]⟩
  ·dsimp only
   rw [List.map_cons] at nd
   simpa using nd
  ·dsimp only at hx
   rcases List.mem_append.1 hx with hx | hx
   ·exact rp x hx
   ·simp at hx;omega
  ·dsimp only at hx ⊢
   rcases List.mem_append.1 hx with hx | hx
   ·obtain⟨y,h1,h2⟩:=par x hx h0
    refine⟨y,h1,?_⟩
    rcases h2 with⟨j,h2⟩ | h2
    ·rcases List.mem_cons.1 h2 with e | h2
     ·rw [Prod.mk.injEq] at e
      exact Or.inr ⟨pl,[(b:Int)],rfl,hx,by simp [e.1]⟩
     ·exact Or.inl ⟨j,h2⟩
    ·exact Or.inr h2.snoc
   ·simp at hx
    subst hx
    cases st with
    | nil=>exact absurd (show (b:Int)=0 by have:b=0:=lk;omega) h0
    | cons q r=>exact⟨q.1,lk.1,Or.inl ⟨q.2,by simp⟩⟩
  ·dsimp only at hx ⊢
   rcases List.mem_append.1 hx with hx | hx
   ·exact cp x hx k hk
   ·simp at hx
    subst hx
    rw [Int.toNat_natCast] at hk
    obtain⟨j,hj,rfl⟩:=List.mem_iff_getElem.1 hk
    have:=cs (b,i) (by simp) j (by dsimp only;omega)
    dsimp only at this
    rw [List.getD_eq_getElem?_getD (l:=nxD u b),List.getElem?_eq_getElem hj] at this
    exact this
  ·dsimp only at h0 ⊢
   rcases List.mem_append.1 h0 with h0 | h0
   ·exact absurd h0 hb0
   ·simp at h0
    cases st with
    | nil=>rfl
    | cons q r =>
     exfalso
     have:∀ (st:List (Nat × Nat)),Zld u st→st≠[]→∃ i,(0,i)∈st:=by
      intro st
      induction st with
      | nil=>intro _ h;exact absurd rfl h
      | cons p r ih =>
       intro hl _
       cases r with
       | nil =>
        obtain⟨p1,p2⟩:=p
        have:p1=0:=hl
        exact⟨p2,by rw [this];simp⟩
       | cons q r =>
        obtain⟨i,hi⟩:=ih hl.2 (by simp)
        exact⟨i,List.mem_cons_of_mem _ hi⟩
     obtain⟨j,hj⟩:=this (q::r) lk.2 (by simp)
     rw [List.map_cons] at nd
     have nd2:=(List.nodup_append.1 nd).2.1
     rw [List.nodup_cons] at nd2
     exact nd2.1 (List.mem_map.2 ⟨(0,j),hj,by dsimp only;omega⟩)
  ·dsimp only at he ⊢
   subst he
   have:b=0:=lk
   simp [this]
  ·unfold Z57 stM
   simp only [List.map_cons,List.sum_cons]
   omega
 ·rw [if_neg hi]
  have hlt:i < (nxD u b).length:=by omega
  have hk:=hn.2 _ (Za4 hlt)
  obtain⟨k,hke⟩:∃ k:Nat,(nxD u b).getD i 0=(k:Int):=⟨((nxD u b).getD i 0).toNat,by omega⟩
  have hkm:(k:Int)∈nxD u b:=hke ▸ Za4 hlt
  rw [hke,Int.toNat_natCast]
  rw [hke] at hk
  have hkn:k < nb u:=by omega
  by_cases hs:sn.getD k false=true
  ·rw [if_pos hs]
   refine⟨⟨sl,fun q hq=>?_,by simpa using nd,rp,fun p hp=>?_,Zmp lk,fun x hx h0=>?_,cp,fun p hp j hj=>?_,fun h0=>absurd h0 hb0,fun he=>(by cases he),by simpa using cnt⟩,?_⟩
   ·dsimp only
    rw [mem q hq]
    constructor
    ·rintro (h1 | ⟨j,h1⟩)
     ·exact Or.inl h1
     ·rcases List.mem_cons.1 h1 with e | h1
      ·rw [Prod.mk.injEq] at e;exact Or.inr ⟨i+1,by rw [e.1];simp⟩
      ·exact Or.inr ⟨j,by simp [h1]⟩
    ·rintro (h1 | ⟨j,h1⟩)
     ·exact Or.inl h1
     ·rcases List.mem_cons.1 h1 with e | h1
      ·rw [Prod.mk.injEq] at e;exact Or.inr ⟨i,by rw [e.1];simp⟩
      ·exact Or.inr ⟨j,by simp [h1]⟩
   ·rcases List.mem_cons.1 hp with rfl | hp
    ·exact⟨hb.1,by dsimp only;omega⟩
    ·exact rs p (by simp [hp])
   ·obtain⟨y,h1,h2⟩:=par x hx h0
    refine⟨y,h1,?_⟩
    rcases h2 with⟨j,h2⟩ | h2
    ·rcases List.mem_cons.1 h2 with e | h2
     ·rw [Prod.mk.injEq] at e;exact Or.inl ⟨i+1,by rw [e.1];simp⟩
     ·exact Or.inl ⟨j,by simp [h2]⟩
    ·exact Or.inr h2
   ·rcases List.mem_cons.1 hp with rfl | hp
    ·dsimp only at hj ⊢
     by_cases e:j=i
     ·rw [e,hke,Int.toNat_natCast];exact hs
     ·exact cs (b,i) (by simp) j (by dsimp only;omega)
    ·exact cs p (by simp [hp]) j hj
   ·unfold Z57 stM
    simp only [List.map_cons,List.sum_cons]
    omega
  ·rw [if_neg hs]
   have hsf:sn.getD k false=false:=by simpa using hs
   have hkl:k < sn.length:=by omega
   have hmono:∀ q,sn.getD q false=true→(sn.set k true).getD q false=true:=fun q hq=>by
    rw [Zju _ _ _ _ hkl];split
    ·rfl
    ·exact hq
   have hnk:¬ ((k:Int)∈pl∨∃ j,(k,j)∈(b,i)::st):=fun h=>hs ((mem k hkn).2 h)
   refine⟨⟨by simpa using sl,fun q hq=>?_,?_,rp,fun p hp=>?_,⟨hkm,Zmp lk⟩,fun x hx h0=>?_,fun x hx q hq=>hmono _ (cp x hx q hq),fun p hp j hj=>?_,fun h0=>absurd h0 hb0,fun he=>(by cases he),by dsimp only;rw [Zhp hkl hsf];simp at cnt ⊢;omega⟩,?_⟩
   ·dsimp only
    rw [Zju _ _ _ _ hkl]
    by_cases e:k=q
    ·rw [if_pos e]
     exact⟨fun _=>Or.inr ⟨0,by rw [e];simp⟩,fun _=>rfl⟩
    ·rw [if_neg e,mem q hq]
     constructor
     ·rintro (h1 | ⟨j,h1⟩)
      ·exact Or.inl h1
      ·rcases List.mem_cons.1 h1 with e | h1
       ·rw [Prod.mk.injEq] at e;exact Or.inr ⟨i+1,by rw [e.1];simp⟩
       ·exact Or.inr ⟨j,by simp [h1]⟩
     ·rintro (h1 | ⟨j,h1⟩)
      ·exact Or.inl h1
      ·rcases List.mem_cons.1 h1 with e1 | h1
       ·rw [Prod.mk.injEq] at e1;exact absurd e1.1.symm e
       ·rcases List.mem_cons.1 h1 with e1 | h1
        ·rw [Prod.mk.injEq] at e1;exact Or.inr ⟨i,by rw [e1.1];simp⟩
        ·exact Or.inr ⟨j,by simp [h1]⟩
   ·dsimp only
    rw [List.map_cons] at nd ⊢
    rw [List.map_cons]
    rw [List.nodup_append] at nd ⊢
    obtain⟨n1,n2,n3⟩:=nd
    have hk2:(k:Int)∉(b:Int)::List.map (fun p:Nat × Nat=>(p.1:Int)) st:=by
     intro hm
     apply hnk
     rcases List.mem_cons.1 hm with e | hm
     ·exact Or.inr ⟨i,by rw [show k=b by omega];simp⟩
     ·obtain⟨p,hp,e⟩:=List.mem_map.1 hm
      exact Or.inr ⟨p.2,List.mem_cons_of_mem _ (by rw [show k=p.1 by omega];exact hp)⟩
    refine⟨n1,List.nodup_cons.2 ⟨hk2,n2⟩,fun a ha c hc=>?_⟩
    rcases List.mem_cons.1 hc with rfl | hc
    ·intro e
     exact hnk (Or.inl (by rw [← e];exact ha))
    ·exact n3 a ha c hc
   ·rcases List.mem_cons.1 hp with rfl | hp
    ·exact⟨hkn,by dsimp only;omega⟩
    ·rcases List.mem_cons.1 hp with rfl | hp
     ·exact⟨hb.1,by dsimp only;omega⟩
     ·exact rs p (by simp [hp])
   ·obtain⟨y,h1,h2⟩:=par x hx h0
    refine⟨y,h1,?_⟩
    rcases h2 with⟨j,h2⟩ | h2
    ·rcases List.mem_cons.1 h2 with e | h2
     ·rw [Prod.mk.injEq] at e;exact Or.inl ⟨i+1,by rw [e.1];simp⟩
     ·exact Or.inl ⟨j,by simp [h2]⟩
    ·exact Or.inr h2
   ·rcases List.mem_cons.1 hp with rfl | hp
    ·dsimp only at hj;omega
    ·rcases List.mem_cons.1 hp with rfl | hp
     ·dsimp only at hj ⊢
      by_cases e:j=i
      ·rw [e,hke,Int.toNat_natCast,Zju _ _ _ _ hkl,if_pos rfl]
      ·exact hmono _ (cs (b,i) (by simp) j (by dsimp only;omega))
     ·exact hmono _ (cs p (by simp [hp]) j hj)
   ·unfold Z57 stM
    simp only [List.map_cons,List.sum_cons]
    have c1:=Zhp hkl hsf
    have c2:=Zie (sn.set k true)
    rw [List.length_set] at c2
    omega
theorem Z5d {u:UnT.D}(hnx:Znc u):∀ (M:Nat) (s:OSt),Zwy u s→Z57 u s≤M→∃ D O' sn,Zls u D s=some O'∧Zwy u (sn,O',[]):=by
 intro M
 induction M with
 | zero =>
  intro s h hM
  obtain⟨sn,pl,st⟩:=s
  cases st with
  | nil=>exact⟨0,pl,sn,rfl,h⟩
  | cons p r=>obtain⟨b,i⟩:=p;have:=(Zmc hnx h).2;omega
 | succ M ih =>
  intro s h hM
  obtain⟨sn,pl,st⟩:=s
  cases st with
  | nil=>exact⟨0,pl,sn,rfl,h⟩
  | cons p r =>
   obtain⟨b,i⟩:=p
   obtain⟨h1,h2⟩:=Zmc hnx h
   obtain⟨D,O',sn',h3,h4⟩:=ih _ h1 (by omega)
   exact⟨D+1,O',sn',by rw [Zls];exact h3,h4⟩
theorem Z07 {u:UnT.D}(hb:0 < nb u):Zwy u (Zqd u):=by
 have hl:0 < (List.replicate (nb u) false).length:=by simpa using hb
 refine⟨by simp [Zqd],fun k hk=>?_,by simp [Zqd],fun x hx=>by simp [Zqd] at hx,fun p hp=>?_,by simp [Zqd,Zld],fun x hx=>by simp [Zqd] at hx,fun x hx=>by simp [Zqd] at hx,fun p hp j hj=>?_,fun h=>by simp [Zqd] at h,fun h=>by simp [Zqd] at h,?_⟩
 ·unfold Zqd
  dsimp only
  rw [Zju _ _ _ _ hl]
  by_cases e:0=k
  ·rw [if_pos e];exact⟨fun _=>Or.inr ⟨0,by rw [← e];simp⟩,fun _=>rfl⟩
  ·rw [if_neg e,List.getD_eq_getElem?_getD,List.getElem?_replicate,if_pos hk]
   constructor
   ·intro h;cases h
   ·rintro (h | ⟨j,h⟩)
    ·simp at h
    ·simp at h;omega
 ·simp [Zqd] at hp;subst hp;exact⟨hb,by dsimp only;omega⟩
 ·simp [Zqd] at hp;subst hp;dsimp only at hj;omega
 ·unfold Zqd
  dsimp only
  rw [Zhp hl (by rw [List.getD_eq_getElem?_getD,List.getElem?_replicate,if_pos hb];rfl)]
  simp [List.count_replicate]
end Go.Proofs.YtcgmchechmbmeaaDoor.base
end
section
set_option maxRecDepth 100000
namespace Go.Proofs.YtcgmchechmbmeaaDoor.base
open Go.Sh gen
theorem Zwi {i:Nat}{k:Int}{L:List (List Int)}{j:Nat}(hj:j < L.length){x:Int}:x∈(Zcy i L k).getD j []↔x∈L.getD j []∨(x=i∧k.toNat=j):=by
 unfold Zcy
 by_cases e:j=k.toNat
 ·subst e
  rw [Zc8 hj,List.mem_append];simp
 ·rw [Zc5 e]
  exact⟨Or.inl,fun h=>h.resolve_right fun h=>e h.2.symm⟩
theorem Zwl {i:Nat}(l:List Int){L:List (List Int)}{j:Nat}(hj:j < L.length){x:Int}:x∈(l.foldl (Zcy i) L).getD j []↔x∈L.getD j []∨(x=i∧∃ k∈l,k.toNat=j):=by
 induction l generalizing L with
 | nil=>simp
 | cons k r ih =>
  rw [List.foldl_cons,ih (by simpa [Zcy] using hj),Zwi hj,or_assoc]
  apply or_congr_right
  constructor
  ·rintro (⟨h1,h2⟩ | ⟨h1,q,h2,h3⟩)
   ·exact⟨h1,k,by simp,h2⟩
   ·exact⟨h1,q,by simp [h2],h3⟩
  ·rintro⟨h1,q,h2,h3⟩
   rcases List.mem_cons.1 h2 with rfl | h2
   ·exact Or.inl ⟨h1,h3⟩
   ·exact Or.inr ⟨h1,q,h2,h3⟩
theorem Zvq (bs:List Zcj.D){i:Nat}{L:List (List Int)}{j:Nat}(hj:j < L.length){x:Int}:x∈(Zc2 i bs L).getD j []↔x∈L.getD j []∨∃ q b,bs[q]?=some b∧x=((i+q:Nat):Int)∧∃ k∈(show List Int from b.2.2.2.1),k.toNat=j:=by
 induction bs generalizing i L with
 | nil=>simp [Zc2]
 | cons b r ih =>
  rw [Zc2,ih (by rw [Zkl];exact hj),Zwl _ hj,or_assoc]
  apply or_congr_right
  constructor
  ·rintro (⟨h1,h2⟩ | ⟨q,b',h1,h2,h3⟩)
   ·exact⟨0,b,rfl,by rw [h1];simp,h2⟩
   ·exact⟨q+1,b',by simpa using h1,by rw [h2];omega,h3⟩
  ·rintro⟨q,b',h1,h2,h3⟩
   cases q with
   | zero =>
    simp at h1
    subst h1
    exact Or.inl ⟨by rw [h2];simp,h3⟩
   | succ q=>exact Or.inr ⟨q,b',by simpa using h1,by rw [h2];omega,h3⟩
theorem Zis {u:UnT.D}(hnx:Znc u){b:Nat}(hb:b < nb u){a:Nat}:(a:Int)∈(Zak u).getD b []↔a < nb u∧(b:Int)∈nxD u a:=by
 unfold Zak
 rw [Zvq _ (by simpa using hb)]
 have e:(List.replicate (nb u) ([]:List Int)).getD b []=[]:=by rw [List.getD_eq_getElem?_getD,List.getElem?_replicate,if_pos hb];rfl
 rw [e]
 constructor
 ·rintro (h | ⟨q,x,h1,h2,k,h3,h4⟩)
  ·cases h
  ·have hq:a=q:=by omega
   subst hq
   obtain⟨hqn,rfl⟩:=List.getElem?_eq_some_iff.1 h1
   have ex:nxD u a=(u.2.2.2.1[a]).2.2.2.1:=congrArg (fun x:Zcj.D=>x.2.2.2.1) (Zb4 hqn)
   have hk:=(Z2z hnx hqn).2 k (by rw [ex];exact h3)
   refine⟨hqn,?_⟩
   rw [ex,show (b:Int)=k by omega]
   exact h3
 ·rintro⟨h1,h2⟩
  have ex:nxD u a=(u.2.2.2.1[a]).2.2.2.1:=congrArg (fun x:Zcj.D=>x.2.2.2.1) (Zb4 h1)
  rw [ex] at h2
  exact Or.inr ⟨a,_,List.getElem?_eq_getElem h1,by omega,(b:Int),h2,by simp⟩
theorem Zqn {n:Nat}:∀ (O:List Int) (i:Nat) (P:List Int),O.Nodup→(∀ x∈O,(0:Int)≤x∧x < n)→P.length=n→
  (∀ j < O.length,(Zhj i O P).getD (O.getD j 0).toNat 0=((i+j:Nat):Int))∧∀ k:Nat,(k:Int)∉O→(Zhj i O P).getD k 0=P.getD k 0
 | [],i,P,_,_,_=>⟨fun j hj=>by simp at hj,fun k _=>rfl⟩
 | b::r,i,P,hd,hr,hP=>by
  rw [List.nodup_cons] at hd
  have hb:=hr b (by simp)
  obtain⟨h1,h2⟩:=Zqn r (i+1) (P.set b.toNat (i:Int)) hd.2 (fun x hx=>hr x (by simp [hx])) (by simpa using hP)
  have hbl:b.toNat < P.length:=by omega
  refine⟨fun j hj=>?_,fun k hk=>?_⟩
  ·cases j with
   | zero =>
    rw [Zhj]
    have:=h2 b.toNat (by rw [Int.toNat_of_nonneg hb.1];exact hd.1)
    have e:(b::r).getD 0 0=b:=rfl
    rw [e,this,Zbg _ _ _ _ hbl,if_pos rfl,Nat.add_zero]
   | succ j =>
    rw [Zhj]
    have:=h1 j (by simpa using hj)
    have e:(b::r).getD (j+1) 0=r.getD j 0:=rfl
    rw [e,this];omega
  ·rw [Zhj]
   simp only [List.mem_cons,not_or] at hk
   rw [h2 k hk.2,Zbg _ _ _ _ hbl,if_neg (by omega)]
structure Rpo (n:Nat)(pd:Nat→List Int)(P T:List Int):Prop where
 pos:0 < n
 len:T.length+1=n
 p0:P.getD 0 0=0
 t:∀ j < T.length,∃ b:Nat,T.getD j 0=(b:Int)∧b < n∧b≠0∧P.getD b 0=((j+1:Nat):Int)
 all:∀ b < n,b≠0→∃ j < T.length,T.getD j 0=(b:Int)
 fw:∀ b < n,b≠0→∃ a < n,(a:Int)∈pd b∧P.getD a 0 < P.getD b 0
 pr:∀ b < n,∀ a∈pd b,(0:Int)≤a∧a < n
theorem Zz7 {l:List Bool}(h:l.count true=l.length){k:Nat}(hk:k < l.length):l.getD k false=true:=by
 induction l generalizing k with
 | nil=>simp at hk
 | cons a r ih =>
  have hr:=Zie r
  rw [List.count_cons,List.length_cons] at h
  cases a with
  | false=>simp at h;omega
  | true =>
   cases k with
   | zero=>rfl
   | succ k =>
    simp at h
    have:=ih h (k:=k) (by simpa using hk)
    simpa using this
theorem Z8m {u:UnT.D}(hnx:Znc u)(hb:0 < nb u){sn:List Bool}{O':List Int}(h:Zwy u (sn,O',[]))(hl:O'.length=nb u) :
  (∀ x∈O'.reverse,(0:Int)≤x∧x < nb u)∧Rpo (nb u) (fun b=>(Zak u).getD b []) (Zgz (nb u) O'.reverse) (O'.reverse.drop 1):=by
 have hrp:∀ x∈O'.reverse,(0:Int)≤x∧x < nb u:=fun x hx=>h.rp x (by simpa using hx)
 have hnd:O'.reverse.Nodup:=by
  have:=h.nd
  simp only [List.map_nil,List.append_nil] at this
  exact List.pairwise_reverse.2 (List.Pairwise.imp (fun h=>Ne.symm h) this)
 obtain⟨hp1,_⟩:=Zqn (n:=nb u) O'.reverse 0 (List.replicate (nb u) 0) hnd hrp (by simp)
 have hall:∀ k < nb u,(k:Int)∈O'.reverse:=by
  intro k hk
  have hc:O'.length+0=sn.count true:=h.cnt
  have hsl:sn.length=nb u:=h.sl
  have:=(h.mem k hk).1 (Zz7 (l:=sn) (by omega) (by omega))
  rcases this with h1 | ⟨i,h1⟩
  ·simpa using h1
  ·cases h1
 obtain⟨O,hO⟩:∃ O,O'.reverse=O:=⟨_,rfl⟩
 have hOl:O.length=nb u:=by rw [← hO];simpa using hl
 obtain⟨P,hP⟩:∃ P,Zgz (nb u) O=P:=⟨_,rfl⟩
 have hPg:Zhj 0 O (List.replicate (nb u) 0)=P:=hP
 have h0:O.getD 0 0=0:=by
  have:=h.ne rfl
  dsimp only at this
  rw [← hO,List.getD_eq_getElem?_getD,← List.head?_eq_getElem?,List.head?_reverse,this];rfl
 have hbef:=h.par
 simp only at hbef
 rw [hO] at hrp hnd hp1 hall ⊢
 rw [hPg] at hp1
 rw [hP]
 have hp2:∀ j < nb u,P.getD (O.getD j 0).toNat 0=(j:Int):=fun j hj=>by rw [hp1 j (by omega)];omega
 have hidx:∀ k < nb u,∃ j < nb u,O.getD j 0=(k:Int):=by
  intro k hk
  obtain⟨j,hj,e⟩:=List.mem_iff_getElem.1 (hall k hk)
  exact⟨j,by omega,by rw [List.getD_eq_getElem?_getD,List.getElem?_eq_getElem hj];exact e⟩
 have hT:∀ j,(O.drop 1).getD j 0=O.getD (j+1) 0:=fun j=>by
  rw [List.getD_eq_getElem?_getD,List.getD_eq_getElem?_getD,List.getElem?_drop,Nat.add_comm]
 have hp0:P.getD 0 0=0:=by
  have:=hp2 0 hb
  rw [h0] at this
  simpa using this
 refine⟨hrp,⟨hb,by simp;omega,hp0,fun j hj=>?_,fun b hbn hb0=>?_,fun b hbn hb0=>?_,fun b hbn a ha=>Zgv u b a ha⟩⟩
 ·have hj1:j+1 < nb u:=by simp at hj;omega
  have hr:=hrp _ (Za4 (l:=O) (i:=j+1) (by omega))
  have hp:=hp2 (j+1) hj1
  refine⟨(O.getD (j+1) 0).toNat,by rw [hT];omega,by omega,fun e=>?_,hp⟩
  rw [e,hp0] at hp
  omega
 ·obtain⟨j,hj,e⟩:=hidx b hbn
  cases j with
  | zero=>rw [h0] at e;omega
  | succ j=>exact⟨j,by simp;omega,by rw [hT];exact e⟩
 ·obtain⟨y,h1,h2⟩:=hbef (b:Int) (by have:=hall b hbn;rw [← hO] at this;simpa using this) (by omega)
  rcases h2 with⟨i,h2⟩ | ⟨l1,l2,e,h2,h3⟩
  ·cases h2
  ·have hy:=h.rp (y:Int) (by dsimp only;rw [e];simp [h3])
   have hyn:y < nb u:=by omega
   refine⟨y,hyn,(Zis hnx hbn).2 ⟨hyn,h1⟩,?_⟩
   have eO:O=l2.reverse++l1.reverse:=by rw [← hO,e];simp
   obtain⟨q,hq,eq1⟩:=List.mem_iff_getElem.1 (List.mem_reverse.2 h3)
   obtain⟨r,hr,er1⟩:=List.mem_iff_getElem.1 (List.mem_reverse.2 h2)
   have ol:O.length=l2.reverse.length+l1.reverse.length:=by rw [eO,List.length_append]
   have e1:O.getD q 0=(y:Int):=by
    rw [eO,List.getD_eq_getElem?_getD,List.getElem?_append_left hq,List.getElem?_eq_getElem hq];exact eq1
   have e2:O.getD (l2.reverse.length+r) 0=(b:Int):=by
    rw [eO,List.getD_eq_getElem?_getD,List.getElem?_append_right (by omega),Nat.add_sub_cancel_left,List.getElem?_eq_getElem hr];exact er1
   have g1:=hp2 q (by omega)
   have g2:=hp2 (l2.reverse.length+r) (by omega)
   rw [e1,Int.toNat_natCast] at g1
   rw [e2,Int.toNat_natCast] at g2
   rw [g1,g2];omega
end Go.Proofs.YtcgmchechmbmeaaDoor.base
end
