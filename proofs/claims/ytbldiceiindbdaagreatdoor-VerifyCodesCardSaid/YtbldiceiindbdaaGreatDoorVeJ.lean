/- This text proves what container/heap does Zdh the abstract run with package verify's pcs: the least one is taken first. Condition: nothing is known of the calls ahead ('S f = []'). -/
import Derived.Test.YtbldiceiindbdaaGreatDoorVeH
import Derived.Test.YtbldiceiindbdaaGreatDoorCacP
set_option linter.unusedVariables false
set_option linter.unusedSimpArgs false
set_option maxRecDepth 100000
namespace Go.Proofs.YtbldiceiindbdaaGreatDoor.base
open Go.Sh gen
variable {S:Zed}{m:Mem}{wb fa:Nat}{pre:List Value}{a:Option Addr}{l:List Nat}
theorem Z4o:Zpm Tryz.prog 107 "Len" 217 102=true:=by kernel_rfl
theorem Zqe:Zpm Tryz.prog 107 "Less" 218 102=true:=by kernel_rfl
theorem Zo:Zpm Tryz.prog 107 "Swap" 219 102=true:=by kernel_rfl
theorem Z6m:Zx4 Tryz.prog 107 "Push" 221=true:=by kernel_rfl
theorem Z8b:Zx4 Tryz.prog 107 "Pop" 220=true:=by kernel_rfl
abbrev nv (x:Nat):Value:=.int .i64 (x:Int)
abbrev pcs (l:List Nat):List Value:=l.map nv
def ku (l:List Nat)(i:Nat):Nat:=l.getD i 0
theorem Z1o {l:List Nat}{i:Nat}(h:i < l.length):ku l i=l[i]:=by simp [ku,h]
def swp (l:List Nat)(i j:Nat):List Nat:=(l.set i (l.getD j 0)).set j (l.getD i 0)
theorem Zok (l:List Nat)(i j:Nat):(swp l i j).length=l.length:=by simp [swp]
theorem Zo1 {l:List Nat}{i j:Nat}(hi:i < l.length)(hj:j < l.length):(swp l i j).Perm l:=by
 have h:=List.set_set_perm hi hj
 simpa [swp,List.getD_eq_getElem?_getD,hi,hj] using h
theorem Zoi {l:List Nat}{i j:Nat}(hi:i < l.length)(hj:j < l.length)(x:Nat):(swp l i j).getD x 0=if x=j then l.getD i 0 else if x=i then l.getD j 0 else l.getD x 0:=by
 simp only [swp,List.getD_eq_getElem?_getD,List.getElem?_set,List.length_set]
 by_cases e1:x=j
 ·subst e1;simp [hj]
 ·by_cases e2:x=i
  ·subst e2;simp [hi,e1,Ne.symm e1]
  ·simp [e1,e2,Ne.symm e1,Ne.symm e2]
theorem Zvl {l:List Nat}{i j:Nat}(hi:i < l.length)(hj:j < l.length):ku (swp l i j)=sw (ku l) i j:=by
 funext x
 simp only [ku,Zoi hi hj,sw]
theorem Zsg {l:List Nat}(rest:List Value){i:Nat}(h:i < l.length):(pcs l++rest)[i]?=some (nv l[i]):=by
 rw [List.getElem?_append_left (by simpa using h)];simp [h]
theorem Zsk {l:List Nat}{rest:List Value}{i:Nat}(hi:i < l.length)(x:Nat):Zdh (pcs l++rest) i [nv x]=pcs (l.set i x)++rest:=by
 simp only [Zdh,List.length_cons,List.length_nil,List.map_set]
 rw [List.set_eq_take_append_cons_drop,if_pos (by simpa using hi),List.take_append_of_le_length (by simp;omega),List.drop_append_of_le_length (by simp;omega)]
 simp
theorem Zvr (hS:S 217=[]){ao:Option Addr}{n c:Nat}:Zbi Tryz.prog TT S 217 [.slice ao n c] m=some (.int .i64 n,m):=by
 refine Zgh 3 [] Z78 hS rfl ?_
 simp [-Int.natCast_add,-BitVec.toNat_or,-BitVec.toNat_ofInt,-BitVec.toNat_and,Zac Zg5]
theorem Zj8 (hS:S 218=[]){a:Option Addr}{l:List Nat}{e fam:Nat}(h:Sr m a l.length (pcs l) e 1 fam){i j:Nat}(hi:i < l.length)(hj:j < l.length)(hl:l.length≤100000) :
  Zbi Tryz.prog TT S 218 [.slice a l.length l.length,.int .i64 i,.int .i64 j] m=some (.bool (decide (ku l i < ku l j)),m):=by
 obtain⟨b,rest,rfl,o⟩:=h.own (by omega)
 have l1:=o.load1 (Zsg rest hi)
 have l2:=o.load1 (Zsg rest hj)
 have e1:(i:Int)≤9223372036854775807:=by omega
 have e2:(j:Int)≤9223372036854775807:=by omega
 rw [Z1o hi,Z1o hj]
 refine Zgh 7 [] Z8d hS rfl ?_
 simp [-Int.natCast_add,-BitVec.toNat_or,-BitVec.toNat_ofInt,-BitVec.toNat_and,Zaa Zg5 sz3,Zab ld3,l1,l2,e1,e2,hi,hj]
theorem Zk (hS:S 219=[]){a:Option Addr}{l:List Nat}{e fam:Nat}(h:Sr m a l.length (pcs l) e 1 fam){i j:Nat}(hi:i < l.length)(hj:j < l.length)(hl:l.length≤100000) :
  ∃ v m1,Zbi Tryz.prog TT S 219 [.slice a l.length l.length,.int .i64 i,.int .i64 j] m=some (v,m1)∧Sr m1 a l.length (pcs (swp l i j)) e 1 fam∧Zao m m1 [fam]:=by
 obtain⟨b,rest,rfl,o⟩:=h.own (by omega)
 have l1:=o.load1 (Zsg rest hi)
 have l2:=o.load1 (Zsg rest hj)
 have e1:(i:Int)≤9223372036854775807:=by omega
 have e2:(j:Int)≤9223372036854775807:=by omega
 refine Zey 3 [] Z7m hS rfl ?_
 simp [-Int.natCast_add,-BitVec.toNat_or,-BitVec.toNat_ofInt,-BitVec.toNat_and,Zaa Zg5 sz3,Zab ld3,Zaf sz3,l1,l2,e1,e2,hi,hj]
 generalize hra:Za8 _ _ _=ra
 obtain⟨m1,rfl,o1,k1⟩:=Za4 hra o (by simp;omega) (by simp [Zbk])
 simp [-Int.natCast_add,-BitVec.toNat_or,-BitVec.toNat_ofInt,-BitVec.toNat_and,Zaa Zg5 sz3,Zab ld3,Zaf sz3,l1,l2,e1,e2,hi,hj]
 generalize hrb:Za8 _ _ _=rb
 obtain⟨m2,rfl,o2,k2⟩:=Za4 hrb o1 (by simp [Zdh];omega) (by simp [Zbk])
 simp [-Int.natCast_add,-BitVec.toNat_or,-BitVec.toNat_ofInt,-BitVec.toNat_and,Zaa Zg5 sz3,Zab ld3,Zaf sz3,l1,l2,e1,e2,hi,hj]
 refine⟨?_,k1.trans k2⟩
 have e3:Zdh (Zdh (pcs l++rest) i [nv l[j]]) j [nv l[i]]=pcs (swp l i j)++rest:=by
  rw [Zsk hi,Zsk (by simpa using hj)]
  simp [swp,List.getD_eq_getElem?_getD,hi,hj]
 exact⟨by simp [swp],Or.inr ⟨b,rest,rfl,e3 ▸ o2⟩⟩
structure HAt (m:Mem)(wb:Nat)(pre:List Value)(a:Option Addr)(l:List Nat)(fa:Nat):Prop where
 own:Own m wb (pre++[.slice a l.length l.length]) 104 wb
 len:pre.length=11
 sl:Sr m a l.length (pcs l) 3 1 fa
 ne:a≠none→fa≠wb
theorem HAt.ld (h:HAt m wb pre a l fa):loadRow m ⟨wb,11,none⟩ 1=some [.slice a l.length l.length]:=by
 refine h.own.load1 ?_
 rw [← h.len,List.getElem?_append_right (Nat.le_refl _),Nat.sub_self];rfl
theorem HAt.swp (h:HAt m wb pre a l fa){m1:Mem}{i j:Nat}(hi:i < l.length)(hj:j < l.length)(s:Sr m1 a l.length (pcs (swp l i j)) 3 1 fa)(k:Zao m m1 [fa]):HAt m1 wb pre a (swp l i j) fa:=by
 have ha:a≠none:=by
  obtain⟨b,_,h0,_⟩:=h.sl.own (by omega)
  rw [h0];simp
 exact⟨by rw [Zok];exact h.own.keep k (by simpa using (h.ne ha).symm),h.len,by rw [Zok];exact s,h.ne⟩
abbrev hif (wb:Nat):Value:=.iface 107 (.pointer (some ⟨wb,11,none⟩))
structure Nc (S:Zed):Prop where
 len:S 217=[]
 less:S 218=[]
 swap:S 219=[]
 push:S 221=[]
 pop:S 220=[]
 up:S 121=[]
 down:S 74=[]
 hpush:S 79=[]
 hpop:S 42=[]
set_option maxHeartbeats 1000000 in
theorem Z4a (hN:Nc S){n:Nat}(h:HAt m wb pre a l fa){j:Nat}(hj:j < n)(hn:n≤l.length)(hl:l.length≤100000)(hu:Up n (ku l) j) :
  ∃ v m1,Zbi Tryz.prog TT S 121 [hif wb,.int .i64 j] m=some (v,m1)∧(∃ l',l'.Perm l∧HAt m1 wb pre a l' fa∧Hp n (ku l')∧∀ i,n≤i→l'.getD i 0=l.getD i 0)∧Zao m m1 [fa]:=by
 refine Zey 5 [17] Z7d hN.up rfl ?_
 simp [-Int.natCast_add,-BitVec.toNat_or,-BitVec.toNat_ofInt,-BitVec.toNat_and,id]
 refine Zbg 5 [17] (fun d E m2=>∃ (j:Nat) (l':List Nat),j=d∧j < n∧l'.Perm l∧HAt m2 wb pre a l' fa∧Up n (ku l') j∧(∀ i,n≤i→l'.getD i 0=l.getD i 0)∧Zao m m2 [fa]∧E=[(0,hif wb),(1,.int .i64 j)]) _ ⟨_,⟨j,l,rfl,hj,List.Perm.refl _,h,hu,fun _ _=>rfl,Zao.refl _ _,rfl⟩,⟨by rfl,by rfl,trivial⟩⟩ ?_
 rintro d E m2 ih ⟨j,l',rfl,hj,hp,h2,hu2,hr2,k2,rfl⟩
 have hll:=hp.length_eq
 have em:(j:Int)≤9223372036854775807:=by omega
 have ld:=h2.ld
 by_cases hj0:j=0
 ·subst hj0
  have w0:IntKind.i64.wrap ((IntKind.i64.wrap (-1)).tdiv 2)=0:=by decide
  simp [-Int.natCast_add,-BitVec.toNat_or,-BitVec.toNat_ofInt,-BitVec.toNat_and,id,w0]
  exact⟨⟨l',hp,h2,Zvc hu2 (Or.inl rfl),hr2⟩,k2⟩
 ·obtain⟨q,hqe,hq,wq⟩:∃ q:Nat,(j - 1) / 2=q∧q < j∧IntKind.i64.wrap ((IntKind.i64.wrap ((j:Int) - 1)).tdiv 2)=(q:Int):=by
   refine⟨(j - 1) / 2,rfl,by omega,?_⟩
   have e1:IntKind.i64.wrap ((j:Int) - 1)=((j - 1:Nat):Int):=by rw [Zbh (by omega) (by omega)];omega
   rw [e1,Int.tdiv_eq_ediv_of_nonneg (by omega),Zbh (by omega) (by omega)];omega
  have q1:¬ (q:Int)=j:=by omega
  have q2:¬ q=j:=by omega
  have c1:=Zj8 (m:=m2) hN.less h2.sl (i:=j) (j:=q) (by omega) (by omega) (by omega)
  obtain⟨v3,m3,c3,s3,k3⟩:=Zk (m:=m2) hN.swap h2.sl (i:=q) (j:=j) (by omega) (by omega) (by omega)
  by_cases hc:ku l' j < ku l' q
  ·simp [-Int.natCast_add,-BitVec.toNat_or,-BitVec.toNat_ofInt,-BitVec.toNat_and,id,wq,q1,q2,Zex Zqe,Zex Zo,ld,c1,hc,c3]
   have s4:=h2.swp (by omega) (by omega) s3 k3
   refine ih _ _ _ _ ⟨q,_,rfl,by omega,(Zo1 (by omega) (by omega)).trans hp,s4,?_,fun i hi=>?_,k2.trans k3,rfl⟩ (by omega) ⟨by rfl,by rfl,trivial⟩
   ·rw [Zvl (by omega) (by omega)]
    exact Z1e hu2 (by omega) (by omega) hqe hc
   ·rw [Zoi (by omega) (by omega),if_neg (by omega),if_neg (by omega)];exact hr2 i hi
  ·simp [-Int.natCast_add,-BitVec.toNat_or,-BitVec.toNat_ofInt,-BitVec.toNat_and,id,wq,q1,q2,Zex Zqe,Zex Zo,ld,c1,hc,c3]
   exact⟨⟨l',hp,h2,Zvc hu2 (Or.inr (by rw [hqe];omega)),hr2⟩,k2⟩
def DnR (m1:Mem)(wb:Nat)(pre:List Value)(a:Option Addr)(l:List Nat)(fa n i0:Nat)(v:Value):Prop:=
 ∃ l' c,v=.bool c∧l'.Perm l∧HAt m1 wb pre a l' fa∧(c=true→Hp n (ku l'))∧(c=false→l'=l∧Up n (ku l') i0)∧∀ i,n≤i→l'.getD i 0=l.getD i 0
set_option maxHeartbeats 2000000 in
theorem Zzm (hN:Nc S){n i0:Nat}(h:HAt m wb pre a l fa)(hi0:i0 < l.length)(hn:n≤l.length)(hl:l.length≤100000)(hd:Dn n (ku l) i0 i0) :
  ∃ v m1,Zbi Tryz.prog TT S 74 [hif wb,.int .i64 i0,.int .i64 n] m=some (v,m1)∧DnR m1 wb pre a l fa n i0 v∧Zao m m1 [fa]:=by
 refine Zey 11 [21,33,39] k74 hN.down rfl ?_
 simp [-Int.natCast_add,-BitVec.toNat_or,-BitVec.toNat_ofInt,-BitVec.toNat_and,id]
 refine Zbg 11 [21,33,39] (fun d E m2=>∃ (i:Nat) (l':List Nat),l.length - i=d∧i0≤i∧i < l.length∧l'.Perm l∧HAt m2 wb pre a l' fa∧Dn n (ku l') i0 i∧(i=i0→l'=l)∧(∀ i,n≤i→l'.getD i 0=l.getD i 0)∧Zao m m2 [fa]∧E=[(0,hif wb),(1,.int .i64 i0),(2,.int .i64 n),(7,.int .i64 i)]) _ ⟨_,⟨i0,l,rfl,by omega,by omega,List.Perm.refl _,h,hd,fun _=>rfl,fun _ _=>rfl,Zao.refl _ _,rfl⟩,⟨by rfl,by rfl,by rfl,by rfl,trivial⟩⟩ ?_
 rintro d E m2 ih ⟨i,l',rfl,hi0,hi,hp,h2,hd2,he2,hr2,k2,rfl⟩
 have hll:=hp.length_eq
 have ld:=h2.ld
 obtain⟨j1,hj1⟩:∃ j1,j1=2 * i+1:=⟨_,rfl⟩
 obtain⟨j2,hj2⟩:∃ j2,j2=j1+1:=⟨_,rfl⟩
 have w1:IntKind.i64.wrap (2 * (i:Int))=2 * (i:Int):=Zbh (by omega) (by omega)
 have w2:IntKind.i64.wrap (2 * (i:Int)+1)=(j1:Int):=by rw [Zbh (by omega) (by omega)];omega
 have w3:IntKind.i64.wrap ((j1:Int)+1)=(j2:Int):=by rw [Zbh (by omega) (by omega)];omega
 have n0:¬ (j1:Int) < 0:=by omega
 have fin:(∀ c,0 < c→c < n→(c - 1) / 2=i→ku l' i≤ku l' c)→DnR m2 wb pre a l fa n i0 (.bool (decide (i0 < i))):=by
  intro he
  have g:=Z3l hd2 he
  refine⟨l',_,rfl,hp,h2,fun hc=>g.1 (by have:=of_decide_eq_true hc;omega),fun hc=>?_,hr2⟩
  have e:i=i0:=by have:=of_decide_eq_false hc;omega
  exact⟨he2 e,g.2 e⟩
 have step:∀ {m3:Mem} (j:Nat),j < n→(j - 1) / 2=i→0 < j→(∀ c,0 < c→c < n→(c - 1) / 2=i→ku l' j≤ku l' c)→ku l' j < ku l' i→Sr m3 a l'.length (pcs (swp l' i j)) 3 1 fa→Zao m2 m3 [fa]→
   ∃ l1,l.length - j < l.length - i∧i0≤j∧j < l.length∧l1.Perm l∧HAt m3 wb pre a l1 fa∧Dn n (ku l1) i0 j∧(j=i0→l1=l)∧(∀ i,n≤i→l1.getD i 0=l.getD i 0)∧Zao m m3 [fa]:=by
  intro m3 j hj hje h0j hm hlt s3 k3
  refine⟨swp l' i j,by omega,by omega,by omega,(Zo1 (by omega) (by omega)).trans hp,h2.swp (by omega) (by omega) s3 k3,?_,fun e=>by omega,fun x hx=>?_,k2.trans k3⟩
  ·rw [Zvl (by omega) (by omega)]
   exact Z0n hd2 h0j hj hje hm hlt hi0
  ·rw [Zoi (by omega) (by omega),if_neg (by omega),if_neg (by omega)];exact hr2 x hx
 by_cases g1:n≤j1
 ·simp [-Int.natCast_add,-BitVec.toNat_or,-BitVec.toNat_ofInt,-BitVec.toNat_and,id,w1,w2,w3,g1,n0]
  exact⟨fin (fun c h0 hc e=>by omega),k2⟩
 ·by_cases A:j2 < n
  ·have cB:=Zj8 (m:=m2) hN.less h2.sl (i:=j2) (j:=j1) (by omega) (by omega) (by omega)
   by_cases B:ku l' j2 < ku l' j1
   ·have cC:=Zj8 (m:=m2) hN.less h2.sl (i:=j2) (j:=i) (by omega) (by omega) (by omega)
    obtain⟨v3,m3,c3,s3,k3⟩:=Zk (m:=m2) hN.swap h2.sl (i:=i) (j:=j2) (by omega) (by omega) (by omega)
    have hm:∀ c,0 < c→c < n→(c - 1) / 2=i→ku l' j2≤ku l' c:=fun c h0 hc e=>by
     have:c=j1∨c=j2:=by omega
     rcases this with h | h <;> subst h <;> omega
    by_cases C:ku l' j2 < ku l' i
    ·simp [-Int.natCast_add,-BitVec.toNat_or,-BitVec.toNat_ofInt,-BitVec.toNat_and,id,w1,w2,w3,n0,g1,A,cB,B,Zex Zqe,Zex Zo,ld,cC,C,c3]
     obtain⟨l1,q0,q1,q2,q3,q4,q5,q6,q7,q8⟩:=step j2 A (by omega) (by omega) hm C s3 k3
     exact ih _ _ _ _ ⟨j2,l1,rfl,q1,q2,q3,q4,q5,q6,q7,q8,rfl⟩ q0 ⟨by rfl,by rfl,by rfl,by rfl,trivial⟩
    ·simp [-Int.natCast_add,-BitVec.toNat_or,-BitVec.toNat_ofInt,-BitVec.toNat_and,id,w1,w2,w3,n0,g1,A,cB,B,Zex Zqe,Zex Zo,ld,cC,C,c3]
     exact⟨fin (fun c h0 hc e=>Nat.le_trans (by omega) (hm c h0 hc e)),k2⟩
   ·have cC:=Zj8 (m:=m2) hN.less h2.sl (i:=j1) (j:=i) (by omega) (by omega) (by omega)
    obtain⟨v3,m3,c3,s3,k3⟩:=Zk (m:=m2) hN.swap h2.sl (i:=i) (j:=j1) (by omega) (by omega) (by omega)
    have hm:∀ c,0 < c→c < n→(c - 1) / 2=i→ku l' j1≤ku l' c:=fun c h0 hc e=>by
     have:c=j1∨c=j2:=by omega
     rcases this with h | h <;> subst h <;> omega
    by_cases C:ku l' j1 < ku l' i
    ·simp [-Int.natCast_add,-BitVec.toNat_or,-BitVec.toNat_ofInt,-BitVec.toNat_and,id,w1,w2,w3,n0,g1,A,cB,B,Zex Zqe,Zex Zo,ld,cC,C,c3]
     obtain⟨l1,q0,q1,q2,q3,q4,q5,q6,q7,q8⟩:=step j1 (by omega) (by omega) (by omega) hm C s3 k3
     exact ih _ _ _ _ ⟨j1,l1,rfl,q1,q2,q3,q4,q5,q6,q7,q8,rfl⟩ q0 ⟨by rfl,by rfl,by rfl,by rfl,trivial⟩
    ·simp [-Int.natCast_add,-BitVec.toNat_or,-BitVec.toNat_ofInt,-BitVec.toNat_and,id,w1,w2,w3,n0,g1,A,cB,B,Zex Zqe,Zex Zo,ld,cC,C,c3]
     exact⟨fin (fun c h0 hc e=>Nat.le_trans (by omega) (hm c h0 hc e)),k2⟩
  ·have cC:=Zj8 (m:=m2) hN.less h2.sl (i:=j1) (j:=i) (by omega) (by omega) (by omega)
   obtain⟨v3,m3,c3,s3,k3⟩:=Zk (m:=m2) hN.swap h2.sl (i:=i) (j:=j1) (by omega) (by omega) (by omega)
   have hm:∀ c,0 < c→c < n→(c - 1) / 2=i→ku l' j1≤ku l' c:=fun c h0 hc e=>by
    have:c=j1:=by omega
    subst this;omega
   by_cases C:ku l' j1 < ku l' i
   ·simp [-Int.natCast_add,-BitVec.toNat_or,-BitVec.toNat_ofInt,-BitVec.toNat_and,id,w1,w2,w3,n0,g1,A,Zex Zqe,Zex Zo,ld,cC,C,c3]
    obtain⟨l1,q0,q1,q2,q3,q4,q5,q6,q7,q8⟩:=step j1 (by omega) (by omega) (by omega) hm C s3 k3
    exact ih _ _ _ _ ⟨j1,l1,rfl,q1,q2,q3,q4,q5,q6,q7,q8,rfl⟩ q0 ⟨by rfl,by rfl,by rfl,by rfl,trivial⟩
   ·simp [-Int.natCast_add,-BitVec.toNat_or,-BitVec.toNat_ofInt,-BitVec.toNat_and,id,w1,w2,w3,n0,g1,A,Zex Zqe,Zex Zo,ld,cC,C,c3]
    exact⟨fin (fun c h0 hc e=>Nat.le_trans (by omega) (hm c h0 hc e)),k2⟩
theorem Zxl {l1 l2:List Nat}{i:Nat}(h:l1.getD i 0=l2.getD i 0):ku l1 i=ku l2 i:=by simp only [ku,h]
theorem Zs0 {l1 l2:List Nat}{i:Nat}(h:i < l1.length):(l1++l2).getD i 0=l1.getD i 0:=by
 simp only [List.getD_eq_getElem?_getD,List.getElem?_append_left h]
set_option maxHeartbeats 1000000 in
theorem Zx8 (hN:Nc S)(h:HAt m wb pre a l fa)(hl:l.length≤90000)(x:Nat) :
  ∃ v m1,Zbi Tryz.prog TT S 221 [.pointer (some ⟨wb,11,none⟩),.iface 3 (nv x)] m=some (v,m1)∧(∃ a' fa',HAt m1 wb pre a' (l++[x]) fa'∧((a≠none∧fa'=fa)∨m.next≤fa')∧a'≠none)∧Zao m m1 (if a=none then [wb] else [wb,fa]):=by
 have ld:=h.ld
 have lnn:=(h.own.ln [nv x] 3 11 1).trans ld
 refine Zey 2 [] Z8o hN.push rfl ?_
 simp [-Int.natCast_add,-BitVec.toNat_or,-BitVec.toNat_ofInt,-BitVec.toNat_and,Zab Zhy,Zga ni3,Zad Zg5 bs3 rfl,Zax Zg5 sz3,Zaf Zxe,ld,lnn]
 generalize hra:Zcd _ _ _ _ _ _=ra
 obtain⟨m1,a1,fa',rfl,o1,k1,hf,hne1,hfe⟩:=Zt3 hra Zg5 ap3 h.sl (by omega) (by simp) (by simp [Zbk]) (by omega) (by omega)
 have hne:wb∉(if a=none then [] else [fa]):=by
  split
  ·simp
  ·rename_i ha;simpa using (h.ne ha).symm
 have o2:=h.own.keep k1 hne
 have ld1:loadRow m1 ⟨wb,11,none⟩ 1=some [.slice a l.length l.length]:=by
  refine o2.load1 ?_
  rw [← h.len,List.getElem?_append_right (Nat.le_refl _),Nat.sub_self];rfl
 simp [-Int.natCast_add,-BitVec.toNat_or,-BitVec.toNat_ofInt,-BitVec.toNat_and,Zab Zhy,Zga ni3,Zad Zg5 bs3 rfl,Zax Zg5 sz3,Zaf Zxe,ld,lnn,ld1]
 generalize hrb:Za8 _ _ _=rb
 obtain⟨m2,rfl,o3,k2⟩:=Za4 hrb o2 (by simp [h.len]) (by simp [Zbp])
 have e3:Zdh (pre++[.slice a l.length l.length]) 11 [.slice a1 (l.length+1) (l.length+1)]=pre++[.slice a1 (l.length+1) (l.length+1)]:=by
  rw [← h.len];simp [Zdh]
 rw [e3] at o3
 simp [-Int.natCast_add,-BitVec.toNat_or,-BitVec.toNat_ofInt,-BitVec.toNat_and,Zab Zhy,Zga ni3,Zad Zg5 bs3 rfl,Zax Zg5 sz3,Zaf Zxe,ld,lnn]
 have hfn:fa'≠wb:=by
  rcases hf with⟨h1,h2⟩ | h1
  ·rw [h2];exact h.ne h1
  ·have:=h.own.flt;omega
 have oa:=o1.keep k2 (fun _=>by simpa using hfn)
 have kk:Zao m m2 (if a=none then [wb] else [wb,fa]):=by
  split
  ·rename_i ha
   rw [if_pos ha] at k1
   exact k1.nil.trans k2
  ·rename_i ha
   rw [if_neg ha] at k1
   exact (k1.mono (by simp)).trans (k2.mono (by simp))
 exact⟨⟨a1,fa',⟨by simpa using o3,h.len,by simpa using oa,fun _=>hfn⟩,hf,hne1⟩,kk⟩
theorem Zwe (hN:Nc S)(h:HAt m wb pre a l fa)(hl:l.length≤90000)(hp0:Hp l.length (ku l))(x:Nat) :
  ∃ v m1,Zbi Tryz.prog TT S 79 [hif wb,.iface 3 (nv x)] m=some (v,m1)∧(∃ a' fa' l',l'.Perm (l++[x])∧HAt m1 wb pre a' l' fa'∧Hp l'.length (ku l')∧((a≠none∧fa'=fa)∨m.next≤fa'))∧Zao m m1 (if a=none then [wb] else [wb,fa]):=by
 obtain⟨v1,m1,c1,⟨a',fa',h1,hf,ha'⟩,k1⟩:=Zx8 hN h hl x
 have ld:=h1.ld
 have cl:=Zvr (m:=m1) (S:=S) hN.len (ao:=a') (n:=(l++[x]).length) (c:=(l++[x]).length)
 have hu:Up (l.length+1) (ku (l++[x])) l.length:=Z3g (Zxp hp0 fun c hc=>Zxl (Zs0 hc))
 obtain⟨v2,m2,c2,⟨l',hp,h2,hh2,_⟩,k2⟩:=Z4a hN h1 (j:=l.length) (n:=l.length+1) (by omega) (by simp) (by simp;omega) hu
 have e1:IntKind.i64.wrap (((l++[x]).length:Int) - 1)=l.length:=by
  have e0:(l++[x]).length=l.length+1:=by simp
  rw [e0,Zbh (by omega) (by omega)];omega
 refine Zey 2 [] k79 hN.hpush rfl ?_
 simp [-Int.natCast_add,-List.length_append,-BitVec.toNat_or,-BitVec.toNat_ofInt,-BitVec.toNat_and,id,Zx Z6m,Zex Z4o,c1,ld,cl,e1,c2]
 refine⟨⟨a',fa',l',hp,h2,by rw [hp.length_eq];simpa using hh2,hf⟩,?_⟩
 split
 ·rename_i ha
  rw [if_pos ha] at k1
  refine k1.mono2 (b:=fa') (k2.mono (by simp)) ?_
  rcases hf with hf | hf
  ·exact absurd ha hf.1
  ·exact hf
 ·rename_i ha
  rw [if_neg ha] at k1
  rcases hf with hf | hf
  ·exact k1.trans (k2.mono (by simp [hf.2]))
  ·exact k1.mono2 (b:=fa') (k2.mono (by simp)) hf
theorem Z0z (hN:Nc S){x:Nat}(h:HAt m wb pre a (l++[x]) fa)(hl:l.length≤90000) :
  ∃ v m1,Zbi Tryz.prog TT S 220 [.pointer (some ⟨wb,11,none⟩)] m=some (v,m1)∧v=.iface 3 (nv x)∧HAt m1 wb pre a l fa∧Zao m m1 [wb]:=by
 have ld:=h.ld
 obtain⟨b,rest,rfl,o⟩:=h.sl.own (by simp)
 have lx:=o.load1 (off:=l.length) (v:=nv x) (by simp)
 have e1:IntKind.i64.wrap (((l++[x]).length:Int) - 1)=l.length:=by
  have e0:(l++[x]).length=l.length+1:=by simp
  rw [e0,Zbh (by omega) (by omega)];omega
 refine Zey 5 [] Z8 hN.pop rfl ?_
 have hlt:l.length < (l++[x]).length:=by simp
 have hle:l.length≤(l++[x]).length:=by simp
 have hlt':(l.length:Int) < (l++[x]).length:=by omega
 have em:(l.length:Int)≤9223372036854775807:=by omega
 simp [-Int.natCast_add,-List.length_append,-BitVec.toNat_or,-BitVec.toNat_ofInt,-BitVec.toNat_and,Zab Zhy,Zac Zg5,Zaa Zg5 sz3,Zab ld3,Zbz Zg5 sz3,Zaf Zxe,Zdm ni3,ld,e1,lx,hlt,hlt',hle,em]
 generalize hra:Za8 _ _ _=ra
 obtain⟨m1,rfl,o1,k1⟩:=Za4 hra h.own (by simp [h.len]) (by simp [Zbp])
 have e3:Zdh (pre++[.slice (some ⟨b,0,none⟩) (l++[x]).length (l++[x]).length]) 11 [.slice (some ⟨b,0,none⟩) l.length l.length]=pre++[.slice (some ⟨b,0,none⟩) l.length l.length]:=by
  rw [← h.len];simp [Zdh]
 rw [e3] at o1
 simp [-Int.natCast_add,-List.length_append,-BitVec.toNat_or,-BitVec.toNat_ofInt,-BitVec.toNat_and,Zab Zhy,Zac Zg5,Zaa Zg5 sz3,Zab ld3,Zbz Zg5 sz3,Zaf Zxe,Zdm ni3,ld,e1,lx,hlt,hlt',hle,em]
 have s1:=h.sl.keep k1 (fun hn=>by simpa using h.ne hn)
 have s2:Sr m1 (some ⟨b,0,none⟩) l.length (pcs l) 3 1 fa:=Sr.cut (more:=[nv x]) (by simpa using s1) (by simp) (fun hn=>by simp at hn)
 exact⟨⟨o1,h.len,s2,h.ne⟩,k1⟩
theorem Zu5 {l2:List Nat}{x:Nat}{n:Nat}(hn:l2.length=n+1)(hx:l2.getD n 0=x):l2=l2.take n++[x]:=by
 have hlt:n < l2.length:=by omega
 have e:l2[n]=x:=by simpa [hlt] using hx
 rw [← e]
 exact (List.take_append_getElem hlt).trans (by rw [← hn,List.take_length]) |>.symm
set_option maxHeartbeats 1000000 in
theorem Zyd (hN:Nc S)(h:HAt m wb pre a l fa)(hl:l.length≤90000)(h0:0 < l.length)(hp0:Hp l.length (ku l)) :
  ∃ v m1,Zbi Tryz.prog TT S 42 [hif wb] m=some (v,m1)∧(∃ x l',v=.iface 3 (nv x)∧l.Perm (x::l')∧HAt m1 wb pre a l' fa∧Hp l'.length (ku l')∧∀ y∈l,x≤y)∧Zao m m1 [wb,fa]:=by
 have ld:=h.ld
 obtain⟨n,hn⟩:∃ n,n+1=l.length:=⟨l.length - 1,by omega⟩
 have cl:=Zvr (m:=m) (S:=S) hN.len (ao:=a) (n:=l.length) (c:=l.length)
 have e1:IntKind.i64.wrap ((l.length:Int) - 1)=n:=by rw [Zbh (by omega) (by omega)];omega
 obtain⟨v1,m1,c1,s1,k1⟩:=Zk (m:=m) hN.swap h.sl (i:=0) (j:=n) (by omega) (by omega) (by omega)
 have h1:=h.swp (by omega) (by omega) s1 k1
 have pm:=Zo1 (l:=l) (i:=0) (j:=n) (by omega) (by omega)
 have hd:Dn n (ku (swp l 0 n)) 0 0:=by
  rw [Zvl (by omega) (by omega)]
  by_cases hn0:n=0
  ·subst hn0;exact⟨fun c h0 hc=>by omega,fun c h0 hc=>by omega,fun h=>absurd rfl h⟩
  ·exact Z44 (by rw [hn];exact hp0) (by omega)
 have ql:=Zok l 0 n
 obtain⟨v2,m2,c2,⟨l2,c,rfl,hp2,h2,ht,hff,hr⟩,k2⟩:=Zzm hN h1 (i0:=0) (n:=n) (by omega) (by omega) (by omega) hd
 have hh2:Hp n (ku l2):=by
  cases c with
  | true=>exact ht rfl
  | false=>exact Zvc (hff rfl).2 (Or.inl rfl)
 have hl2:l2.length=n+1:=by rw [hp2.length_eq,Zok];omega
 have hx:l2.getD n 0=l.getD 0 0:=by
  rw [hr n (Nat.le_refl _),Zoi (by omega) (by omega),if_pos rfl]
 have e2:=Zu5 hl2 hx
 obtain⟨x,hxe⟩:∃ x,l.getD 0 0=x:=⟨_,rfl⟩
 obtain⟨p,hpe⟩:∃ p,l2.take n=p:=⟨_,rfl⟩
 rw [hxe,hpe] at e2
 have hpl:p.length=n:=by rw [← hpe,List.length_take];omega
 rw [e2] at h2 hp2
 obtain⟨v3,m3,c3,rfl,h3,k3⟩:=Z0z hN h2 (by omega)
 refine Zey 4 [] k42 hN.hpop rfl ?_
 have c1':Zbi Tryz.prog TT S 219 [.slice a l.length l.length,.int .i64 0,.int .i64 n] m=some (v1,m1):=c1
 have c2':Zbi Tryz.prog TT S 74 [hif wb,.int .i64 0,.int .i64 n] m1=some (.bool c,m2):=c2
 simp [-Int.natCast_add,-List.length_append,-BitVec.toNat_or,-BitVec.toNat_ofInt,-BitVec.toNat_and,id,Zx Z8b,Zex Z4o,Zex Zo,ld,cl,e1,c1',c2',c3]
 refine⟨⟨x,rfl,p,(pm.symm.trans hp2.symm).trans List.perm_append_comm,h3,?_,fun y hy=>?_⟩,((k1.mono (by simp)).trans (k2.mono (by simp))).trans (k3.mono (by simp))⟩
 ·rw [hpl]
  exact Zxp hh2 fun c hc=>Zxl (by rw [e2,Zs0 (by omega)])
 ·obtain⟨i,hi,rfl⟩:=List.getElem_of_mem hy
  have g:=Z3c hp0 i hi
  have hx0:ku l 0=x:=by simp only [ku,hxe]
  rw [Z1o hi,hx0] at g
  exact g
end Go.Proofs.YtbldiceiindbdaaGreatDoor.base
