/- This text proves what ssa.checker's 'dominates', 'seen', 'seenState' answer, Zbx the abstract run. Condition: nothing is known of the calls ahead ('S f = []'). -/
import Derived.Test.YtcgmchechmbmeaaDoorM5
set_option linter.unusedVariables false
set_option linter.unusedSimpArgs false
section
set_option maxRecDepth 100000
namespace Go.Proofs.YtcgmchechmbmeaaDoor.base
open Go.Sh gen
variable {S:Zb4}{m:Mem}
def Zk4 (I:List Int)(a:Int):Nat→Int→Option Bool
 | 0,b=>if b < 0 then some false else if a=b then some true else none
 | d+1,b=>if b < 0 then none else if a=b then none else Zk4 I a d (I.getD b.toNat 0)
def upF (I:List Int)(a:Int):Nat→Int→Bool
 | 0,_=>false
 | k+1,b=>if b < 0 then false else if a=b then true else upF I a k (I.getD b.toNat 0)
theorem Z64 {I:List Int}{a:Int}{D:Nat}{b:Int}{r:Bool}(h:Zk4 I a D b=some r){N:Nat}(hN:D < N):upF I a N b=r:=by
 induction D generalizing N b with
 | zero =>
  obtain⟨M,rfl⟩:∃ M,N=M+1:=⟨N - 1,by omega⟩
  rw [Zk4] at h
  rw [upF]
  split at h
  ·rename_i e;rw [if_pos e];simpa using h
  ·rename_i e
   rw [if_neg e]
   split at h
   ·rename_i e2;rw [if_pos e2];simpa using h
   ·cases h
 | succ D ih =>
  obtain⟨M,rfl⟩:∃ M,N=M+1:=⟨N - 1,by omega⟩
  rw [Zk4] at h
  rw [upF]
  split at h
  ·cases h
  ·rename_i e
   rw [if_neg e]
   split at h
   ·cases h
   ·rename_i e2;rw [if_neg e2];exact ih h (by omega)
structure Ck3 (m:Mem)(u:UnT.D)(vo bo so:Option Addr)(cb cf b1 b2 f1 f2 ix:Nat)(bl pl I:List Int):Prop where
 c:Znr m u vo bo so (.slice (some ⟨ix,0,none⟩) (nb u) (nb u)) cb cf b1 b2 f1 f2 bl pl
 o3:Own m ix (ints I) 3 ix
theorem Ck3.keep0 {m1:Mem}{u:UnT.D}{vo bo so:Option Addr}{cb cf b1 b2 f1 f2 ix:Nat}{bl pl I:List Int}(h:Ck3 m u vo bo so cb cf b1 b2 f1 f2 ix bl pl I)(k:Zaa m m1 []):Ck3 m1 u vo bo so cb cf b1 b2 f1 f2 ix bl pl I:=⟨h.c.keep0 k,h.o3.keep k (by simp)⟩
structure Rok (u:UnT.D)(bl pl I:List Int):Prop where
 lb:bl.length=nv u
 lp:pl.length=nv u
 li:I.length=nb u
 bb:∀ i < nv u,0≤bl.getD i 0∧bl.getD i 0 < nb u
 ii:∀ x < nb u,I.getD x 0 < nb u
 up:∀ (a:Int) (b:Nat),b < nb u→∃ d,d < nb u+2∧Zk4 I a d b=some (upF I a (nb u+2) b)
theorem Zoy (hS:S 70=[]){u:UnT.D}{vo bo so:Option Addr}{cb cf b1 b2 f1 f2 ix:Nat}{bl pl I:List Int}(hC:Ck3 m u vo bo so cb cf b1 b2 f1 f2 ix bl pl I)(hR:Rok u bl pl I)(hnb:nb u≤1000){a:Int}{b:Nat}(hb:b < nb u) :
  Zaq Tryd.prog TT S 70 [.pointer (some ⟨cb,0,none⟩),.int .i64 a,.int .i64 (b:Int)] m=some (.bool (upF I a (nb u+2) b),m):=by
 have c7:=hC.c.c.load1 (off:=7) rfl
 obtain⟨D,_,hD⟩:=hR.up a b hb
 obtain⟨R,hRe⟩:∃ R,upF I a (nb u+2) b=R:=⟨_,rfl⟩
 rw [hRe] at hD ⊢
 refine Zlm 7 [8,11] k70 hS rfl ?_
 simp [-Int.natCast_add]
 refine Zag 7 [8,11] (fun d E mF=>∃ (b:Int),mF=m∧b < nb u∧Zk4 I a d b=some R∧
  E=[(0,.pointer (some ⟨cb,0,none⟩)),(1,.int .i64 a),(2,.int .i64 b)]) D ⟨_,⟨(b:Int),rfl,by omega,hD,rfl⟩,⟨by rfl,by rfl,by rfl,trivial⟩⟩ ?_
 clear hD hRe hb
 rintro d E mF ih ⟨b,rfl,hb,hd,rfl⟩
 by_cases h0:b < 0
 ·have h0':¬ 0≤b:=by omega
  have:R=false:=by
   cases d with
   | zero=>rw [Zk4,if_pos h0] at hd;simpa using hd.symm
   | succ d=>rw [Zk4,if_pos h0] at hd;cases hd
  simp [-Int.natCast_add,h0',this]
 have h0':0≤b:=by omega
 by_cases hab:a=b
 ·have:R=true:=by
   cases d with
   | zero=>rw [Zk4,if_neg h0,if_pos hab] at hd;simpa using hd.symm
   | succ d=>rw [Zk4,if_neg h0,if_pos hab] at hd;cases hd
  simp [-Int.natCast_add,h0',hab,this]
 cases d with
 | zero=>rw [Zk4,if_neg h0,if_neg hab] at hd;cases hd
 | succ d =>
  rw [Zk4,if_neg h0,if_neg hab] at hd
  obtain⟨q,rfl⟩:∃ q:Nat,b=(q:Int):=⟨b.toNat,by omega⟩
  rw [Int.toNat_natCast] at hd
  have hq:q < nb u:=by omega
  have q2:(q:Int)≤9223372036854775807:=by omega
  have lq:=hC.o3.load1 (off:=q) (Zcp (by rw [hR.li];exact hq))
  simp [-Int.natCast_add,-List.getD_eq_getElem?_getD,h0',hab,c7,hq,q2,lq]
  exact ih _ _ _ _ ⟨_,rfl,hR.ii q hq,hd,rfl⟩ (by omega) ⟨by rfl,by rfl,by rfl,trivial⟩
def Zks (u:UnT.D)(bl pl I:List Int)(block place:Int)(v:Int):Bool:=
 !(decide (bl.getD v.toNat 0=block) && decide (place≤pl.getD v.toNat 0)) && upF I (bl.getD v.toNat 0) (nb u+2) block
def Zgt (u:UnT.D)(bl pl I:List Int)(block place:Int)(l:List Int):Bool:=l.all (Zks u bl pl I block place)
set_option maxHeartbeats 4000000 in
theorem Zj8 (hS:S 62=[])(hD:S 70=[]){u:UnT.D}{vo bo so:Option Addr}{cb cf b1 b2 f1 f2 ix:Nat}{bl pl I:List Int}(hC:Ck3 m u vo bo so cb cf b1 b2 f1 f2 ix bl pl I)(hR:Rok u bl pl I)(hnb:nb u≤1000)(hnv:nv u≤1000000)
  {Q:Nat→Prop} {l:List Int} {ao:Option Addr} (hl:Zah Q m ao l) (hll:l.length≤20000000000000) (hlv:∀ v∈l,(0:Int)≤v∧v < nv u) {block:Nat} (hb:block < nb u) {place:Int} :
  Zaq Tryd.prog TT S 62 [.pointer (some ⟨cb,0,none⟩),.slice ao l.length l.length,.int .i64 (block:Int),.int .i64 place] m=some (.bool (Zgt u bl pl I block place l),m):=by
 have c5:=hC.c.c.load1 (off:=5) rfl
 have c6:=hC.c.c.load1 (off:=6) rfl
 obtain⟨R,hRe⟩:∃ R,Zgt u bl pl I block place l=R:=⟨_,rfl⟩
 rw [hRe]
 refine Zlm 14 [14,49] k62 hS rfl ?_
 simp [-Int.natCast_add]
 refine Zag 14 [14,49] (fun d E mF=>∃ (i:Nat),l.length - i=d∧i≤l.length∧mF=m∧(l.drop i).all (Zks u bl pl I block place)=R∧
  E=[(0,.pointer (some ⟨cb,0,none⟩)),(2,.int .i64 (block:Int)),(3,.int .i64 place),(11,.slice ao l.length l.length),(12,.int .i64 l.length),(13,.int .i64 (i:Int))]) _ ⟨_,⟨0,rfl,by omega,rfl,by rw [List.drop_zero];exact hRe,rfl⟩,(by repeat' constructor)⟩ ?_
 rintro d E mF ih ⟨i,hd,hi,rfl,ha,rfl⟩
 have im:(i:Int)≤9223372036854775807:=by omega
 by_cases hlt:i < l.length
 ·have i1:(i:Int) < l.length:=by omega
  have wi:IntKind.i64.wrap ((i:Int)+1)=((i+1:Nat):Int):=by rw [Zab (by omega) (by omega)];omega
  obtain⟨lb,rfl,li⟩:=hl.get hlt
  rw [Za7 hlt,List.all_cons] at ha
  have hvb:=hlv _ (Za6 hlt)
  obtain⟨v,hv⟩:∃ k:Nat,l.getD i 0=(k:Int):=⟨(l.getD i 0).toNat,by omega⟩
  rw [hv] at li ha hvb
  have hvn:v < nv u:=by omega
  have v1:(v:Int) < nv u:=by omega
  have v2:(v:Int)≤9223372036854775807:=by omega
  have l1:=hC.c.o1.load1 (off:=v) (Zcp (by rw [hR.lb];exact hvn))
  have l2:=hC.c.o2.load1 (off:=v) (Zcp (by rw [hR.lp];exact hvn))
  have eV:Zks u bl pl I block place (v:Int)=(!(decide (bl.getD v 0=(block:Int)) && decide (place≤pl.getD v 0)) && upF I (bl.getD v 0) (nb u+2) block):=by unfold Zks;rw [Int.toNat_natCast]
  rw [eV] at ha
  have dr:=Zoy hD hC hR hnb (a:=bl.getD v 0) hb
  obtain⟨x,hx⟩:∃ x,bl.getD v 0=x:=⟨_,rfl⟩
  obtain⟨y,hy⟩:∃ x,pl.getD v 0=x:=⟨_,rfl⟩
  rw [hx] at l1 ha dr
  rw [hy] at l2 ha
  obtain⟨q,hq⟩:∃ q,upF I x (nb u+2) block=q:=⟨_,rfl⟩
  rw [hq] at dr ha
  by_cases h1:x=(block:Int)
  ·by_cases h2:place≤y
   ·have:R=false:=by rw [← ha];simp [h1,h2]
    simp [-Int.natCast_add,-List.getD_eq_getElem?_getD,i1,im,hlt,li,c5,c6,v2,hvn,l1,l2,h1,h2,this]
   ·subst h1
    cases q
    ·have:R=false:=by rw [← ha];simp
     simp [-Int.natCast_add,-List.getD_eq_getElem?_getD,i1,im,hlt,li,c5,c6,v2,hvn,l1,l2,h2,dr,this]
    ·simp [-Int.natCast_add,-List.getD_eq_getElem?_getD,i1,im,hlt,li,c5,c6,v2,hvn,l1,l2,h2,dr,wi]
     exact ih _ _ _ _ ⟨i+1,rfl,by omega,rfl,by rw [← ha];simp [h2],rfl⟩ (by omega) (by repeat' constructor)
  ·cases q
   ·have:R=false:=by rw [← ha];simp
    simp [-Int.natCast_add,-List.getD_eq_getElem?_getD,i1,im,hlt,li,c5,v2,hvn,l1,h1,dr,this]
   ·simp [-Int.natCast_add,-List.getD_eq_getElem?_getD,i1,im,hlt,li,c5,v2,hvn,l1,h1,dr,wi]
    exact ih _ _ _ _ ⟨i+1,rfl,by omega,rfl,by rw [← ha];simp [h1],rfl⟩ (by omega) (by repeat' constructor)
 clear ih
 have i1:¬ (i:Int) < l.length:=by omega
 rw [List.drop_of_length_le (by omega),List.all_nil] at ha
 simp [-Int.natCast_add,-List.getD_eq_getElem?_getD,i1,← ha]
end Go.Proofs.YtcgmchechmbmeaaDoor.base
end
section
set_option maxRecDepth 100000
namespace Go.Proofs.YtcgmchechmbmeaaDoor.base
open Go.Sh gen
variable {S:Zb4}{m:Mem}
def Zn6 (u:UnT.D)(bl pl I:List Int)(block place:Int)(f:Zeg.D):Bool:=Zgt u bl pl I block place f.2.2.1 && Zgt u bl pl I block place f.2.2.2.1
def Zfo (u:UnT.D)(bl pl I:List Int)(block place:Int)(fs:List Zeg.D):Bool:=fs.all (Zn6 u bl pl I block place)
def Z90 (u:UnT.D)(f:Zeg.D):Prop:=List.length f.2.2.1≤1000∧List.length f.2.2.2.1≤1000∧(∀ v∈(show List Int from f.2.2.1),(0:Int)≤v∧v < nv u)∧(∀ v∈(show List Int from f.2.2.2.1),(0:Int)≤v∧v < nv u)
set_option maxHeartbeats 4000000 in
theorem Zj6 (hS:S 63=[])(hE:S 62=[])(hD:S 70=[]){Q:Nat→Prop}{u:UnT.D}{vo bo so:Option Addr}(hU:UAt Q m u vo bo so){cb cf b1 b2 f1 f2 ix:Nat}{bl pl I:List Int}(hC:Ck3 m u vo bo so cb cf b1 b2 f1 f2 ix bl pl I)(hR:Rok u bl pl I)(hnb:nb u≤1000)(hnv:nv u≤1000000)
  {i:Nat} (hi:i < ns u) (hns:ns u≤1000000) {fs:List Zeg.D} (hfs:(u.2.2.2.2.1[i]).1=fs) (hfl:fs.length≤1000) (hfo:∀ f∈fs,Z90 u f) {block:Nat} (hb:block < nb u) {place:Int} :
  ∃ v m1,Zaq Tryd.prog TT S 63 [.pointer (some ⟨cb,0,none⟩),.int .i64 (i:Int),.int .i64 (block:Int),.int .i64 place] m=some (v,m1)∧v=.bool (Zfo u bl pl I block place fs)∧Zaa m m1 []:=by
 obtain⟨sb,fo,hso,lds,hfA⟩:=Zlw hU hi
 rw [hfs] at lds hfA
 have l4:=hC.c.c.load1 (off:=4) rfl
 rw [hso] at l4
 have s1:(i:Int) < ns u:=by omega
 have s2:(i:Int)≤9223372036854775807:=by omega
 have ld0:=lds m [] (Zaa.refl _ _) (by simp)
 obtain⟨R,hRe⟩:∃ R,Zfo u bl pl I block place fs=R:=⟨_,rfl⟩
 rw [hRe]
 refine Zhk 22 [22,40] k63 hS rfl ?_
 simp [-Int.natCast_add,l4,s2,hi,ld0]
 refine Zag 22 [22,40] (fun d E mF=>∃ (j:Nat),fs.length - j=d∧j≤fs.length∧(fs.drop j).all (Zn6 u bl pl I block place)=R∧Zaa m mF []∧
  E=[(0,.pointer (some ⟨cb,0,none⟩)),(2,.int .i64 (block:Int)),(3,.int .i64 place),(19,.slice fo fs.length fs.length),(20,.int .i64 fs.length),(21,.int .i64 (j:Int))]) _ ⟨_,⟨0,rfl,by omega,by rw [List.drop_zero];exact hRe,.refl _ _,rfl⟩,(by repeat' constructor)⟩ ?_
 rintro d E mF ih ⟨j,hd,hj,ha,kF,rfl⟩
 have jm:(j:Int)≤9223372036854775807:=by omega
 by_cases hlt:j < fs.length
 ·have j1:(j:Int) < fs.length:=by omega
  have wj:IntKind.i64.wrap ((j:Int)+1)=((j+1:Nat):Int):=by rw [Zab (by omega) (by omega)];omega
  obtain⟨fb,la,sa,hfb,ldf,hla,hsa⟩:=Zou (hfA.keep kF (by simp)) hlt
  have hmm:=hfo _ (List.getElem_mem hlt)
  rw [List.drop_eq_getElem_cons hlt,List.all_cons] at ha
  rw [hfb] at ih ⊢
  generalize fs[j]=F at *
  obtain⟨oY,kY,nY⟩:=Zar (m:=mF) (cs:=[.int .i64 0,.int .i64 0,.slice none 0 0,.slice none 0 0]) (e:=52) rfl
  obtain⟨zb,hzb⟩:∃ zb,mF.next=zb:=⟨_,rfl⟩
  obtain⟨mG,eG,oG,kG'⟩:=Zap (r:=_) rfl oY (off:=0) (vs:=frC F la sa) (by simp) (by simp [Zau,Zae])
  simp [Zbx] at oG
  have kG:=kY.fresh kG' (by simp)
  rw [hzb] at oG nY eG
  have K3:Zaa m mG []:=kF.trans kG
  have g2:=oG.load1 (off:=2) rfl
  have g3:=oG.load1 (off:=3) rfl
  have hC3:=hC.keep0 K3
  have t1:=Zj8 (place:=place) hE hD hC3 hR hnb hnv (hla.keep kG (by simp)) (by have:=hmm.1;omega) hmm.2.2.1 hb
  have t2:=Zj8 (place:=place) hE hD hC3 hR hnb hnv (hsa.keep kG (by simp)) (by have:=hmm.2.1;omega) hmm.2.2.2 hb
  obtain⟨n1,hn1⟩:∃ n1:Nat,List.length F.2.2.1=n1:=⟨_,rfl⟩
  obtain⟨n2,hn2⟩:∃ n2:Nat,List.length F.2.2.2.1=n2:=⟨_,rfl⟩
  obtain⟨q1,hq1⟩:∃ b1,Zgt u bl pl I block place F.2.2.1=b1:=⟨_,rfl⟩
  obtain⟨q2,hq2⟩:∃ b2,Zgt u bl pl I block place F.2.2.2.1=b2:=⟨_,rfl⟩
  have eF:Zn6 u bl pl I block place F=(q1 && q2):=by unfold Zn6;rw [hq1,hq2]
  rw [hq1] at t1
  rw [hq2] at t2
  rw [eF] at ha
  unfold frC at eG g2 g3 ldf
  rw [hn1] at t1 g2
  rw [hn2] at t2 g3
  rw [hn1,hn2] at ldf eG
  cases q1
  ·have:R=false:=by rw [← ha];simp
   rw [this]
   simp [-Int.natCast_add,j1,jm,hlt,ldf,hzb,eG,g2,t1]
   exact K3
  cases q2
  ·have:R=false:=by rw [← ha];simp
   rw [this]
   simp [-Int.natCast_add,j1,jm,hlt,ldf,hzb,eG,g2,g3,t1,t2]
   exact K3
  simp [-Int.natCast_add,j1,jm,hlt,ldf,hzb,eG,g2,g3,t1,t2,wj]
  exact ih _ _ _ _ ⟨j+1,rfl,by omega,by rw [← ha];simp,K3,rfl⟩ (by omega) (by repeat' constructor)
 have j1:¬ (j:Int) < fs.length:=by omega
 rw [List.drop_of_length_le (by omega),List.all_nil] at ha
 rw [← ha]
 simp [-Int.natCast_add,j1]
 exact kF
end Go.Proofs.YtcgmchechmbmeaaDoor.base
end
section
set_option maxRecDepth 100000
namespace Go.Proofs.YtcgmchechmbmeaaDoor.base
open Go.Sh gen
variable {S:Zb4}{m:Mem}
abbrev vlD (u:UnT.D)(i:Nat):List Int:=(Zda u i).1
def Zzr (u:UnT.D)(bl pl I:List Int):List Int→List Int→Bool
 | a::r,p::q=>Zgt u bl pl I p (vlD u p.toNat).length [a] && Zzr u bl pl I r q
 | _,_=>true
def Zn3 (u:UnT.D)(bl pl I:List Int)(i k:Nat)(n:Int):Bool:=
 if (Za3 u n).1=21 then Zzr u bl pl I (Za3 u n).2.2.2.2.1 (prD u i) else
 Zgt u bl pl I i k (Zfb (Za3 u n)) && (!lvs (Za3 u n).1 || Zfo u bl pl I i k (stD u (show Int from (Za3 u n).2.2.2.2.2.1).toNat))
def Zhz (u:UnT.D)(bl pl I:List Int)(i:Nat):Nat→List Int→Bool
 | _,[]=>true
 | k,n::r=>Zn3 u bl pl I i k n && Zhz u bl pl I i (k+1) r
def Zmm (u:UnT.D)(bl pl I:List Int)(i:Nat):Bool:=
 if (Zda u i).2.1=2 then Zgt u bl pl I i (vlD u i).length [(show Int from (Zda u i).2.2.1)] else
 if (Zda u i).2.1=3 then Zfo u bl pl I i (vlD u i).length (stD u (show Int from (Zda u i).2.2.2.2.2.1).toNat) else true
def Zhp (u:UnT.D)(bl pl I:List Int)(i:Nat):Bool:=Zhz u bl pl I i 0 (vlD u i) && Zmm u bl pl I i
structure Ya (u:UnT.D):Prop where
 bv:∀ i < nb u,(vlD u i).length≤20000000000000∧∀ n∈vlD u i,(0:Int)≤n∧n < nv u
 pr:∀ i < nb u,∀ p∈prD u i,(0:Int)≤p∧p < nb u
 us:∀ n < nv u,∀ z∈Zfb (Za3 u (n:Nat)),(0:Int)≤z∧z < nv u
 al:∀ n < nv u,(Za3 u (n:Nat)).2.2.2.2.1.length * 8≤140737488351232
 ph:∀ i < nb u,∀ n∈vlD u i,(Za3 u n).1=21→List.length (Za3 u n).2.2.2.2.1=(prD u i).length
 lv:∀ n < nv u,lvs (Za3 u (n:Nat)).1=true→(0:Int)≤(Za3 u (n:Nat)).2.2.2.2.2.1∧(show Int from (Za3 u (n:Nat)).2.2.2.2.2.1) < ns u
 st:∀ s < ns u,(stD u s).length≤1000∧∀ f∈stD u s,Z90 u f
 cd:∀ i < nb u,(Zda u i).2.1=2→(0:Int)≤(Zda u i).2.2.1∧(show Int from (Zda u i).2.2.1) < nv u
 os:∀ i < nb u,(Zda u i).2.1=3→(0:Int)≤(Zda u i).2.2.2.2.2.1∧(show Int from (Zda u i).2.2.2.2.2.1) < ns u
structure Nt (S:Zb4):Prop where
 taken:S 41=[]
 seen:S 62=[]
 seenState:S 63=[]
 dominates:S 70=[]
 uses:S 13=[]
 parts:S 42=[]
 leaves:S 55=[]
theorem Z0k {Q:Nat→Prop}{u:UnT.D}{vo bo so:Option Addr}(h:UAt Q m u vo bo so){i:Nat}(hi:i < nb u) :
  ∃ (b:Nat) (vl:Option Addr),bo=some ⟨b,0,none⟩∧∀ (m':Mem) (fs:List Nat),Zaa m m' fs→(∀ f∈fs,¬ Q f)→loadRow m' ⟨b,i * 6,none⟩ 1=some [.slice vl (vlD u i).length (vlD u i).length]:=by
 obtain⟨vb,c,e,hc,hl⟩:=Zfi h.b hi
 obtain⟨_,_,e1,h1,_⟩:=hc
 obtain⟨ao1,f1,rfl,hr1,hqf1⟩:=Zdv h1
 refine⟨vb,ao1,e,fun m' fs k hf=>?_⟩
 have:=Zbo (k:=0) (hl m' fs k hf) (by rw [e1];rfl)
 rw [Nat.add_zero] at this
 rw [show vlD u i=(u.2.2.2.1[i]).1 from congrArg (fun x:Zct.D=>x.1) (Zb2 hi)]
 exact this
theorem Zx2 {m:Mem}{Q:Nat→Prop}(v:Int):Zah (fun _=>True) (m.new [.int .i64 v] 3) (some ⟨m.next,0,none⟩) [v]:=⟨m.next,Zp1 ⟨by simp,Or.inr ⟨_,rfl,(Own.new m [.int .i64 v] 3).rdo⟩⟩,fun _=>trivial⟩
set_option maxHeartbeats 16000000 in
theorem Zwr (hN:Nt S){Q:Nat→Prop}{u:UnT.D}{vo bo so:Option Addr}(hU:UAt Q m u vo bo so){cb cf b1 b2 f1 f2 ix:Nat}{bl pl I:List Int}(hC:Ck3 m u vo bo so cb cf b1 b2 f1 f2 ix bl pl I)(hR:Rok u bl pl I)(hnb:nb u≤1000)(hnv:nv u≤1000000)(hns:ns u≤1000000)(hT:Ya u)
  {i:Nat} (hi:i < nb u) :
  ∃ v m1,Zaq Tryd.prog TT S 41 [.pointer (some ⟨cb,0,none⟩),.int .i64 (i:Int)] m=some (v,m1)∧v=.bool (Zhp u bl pl I i)∧Zaa m m1 []:=by
 obtain⟨bb,vo',no',po',hbo,ldb,hvo',_,hpo'⟩:=Zf0 hU hi
 have eb:u.2.2.2.1[i]=Zda u i:=(Zb2 hi).symm
 rw [eb] at ldb hvo' hpo'
 have hbv:=hT.bv i hi
 have hpr:=hT.pr i hi
 have hph:=hT.ph i hi
 have hcd:=hT.cd i hi
 have hos:=hT.os i hi
 have hE:Zmm u bl pl I i=if (Zda u i).2.1=2 then Zgt u bl pl I i (vlD u i).length [(show Int from (Zda u i).2.2.1)] else if (Zda u i).2.1=3 then Zfo u bl pl I i (vlD u i).length (stD u (show Int from (Zda u i).2.2.2.2.2.1).toNat) else true:=rfl
 have hF:Zhp u bl pl I i=(Zhz u bl pl I i 0 (vlD u i) && Zmm u bl pl I i):=rfl
 obtain⟨vl,hvl⟩:∃ vl,vlD u i=vl:=⟨_,rfl⟩
 obtain⟨en,hen⟩:∃ en:Int,(Zda u i).2.1=en:=⟨_,rfl⟩
 obtain⟨cd,hcde⟩:∃ cd:Int,(Zda u i).2.2.1=cd:=⟨_,rfl⟩
 obtain⟨st,hst⟩:∃ st:Int,(Zda u i).2.2.2.2.2.1=st:=⟨_,rfl⟩
 obtain⟨pr,hpre⟩:∃ pr,prD u i=pr:=⟨_,rfl⟩
 obtain⟨nl,hnl⟩:∃ nl,(Zda u i).2.2.2.1.length=nl:=⟨_,rfl⟩
 unfold Zwe at ldb
 rw [hnl] at ldb
 rw [hvl] at hbv hph hE hF
 rw [show (Zda u i).1=vl from hvl] at ldb hvo'
 rw [show (Zda u i).2.2.2.2.1=pr from hpre] at ldb hpo'
 rw [hpre] at hpr hph
 rw [hen] at ldb hcd hos hE
 rw [hcde] at ldb hcd hE
 rw [hst] at ldb hos hE
 obtain⟨R,hRe⟩:∃ R,Zhp u bl pl I i=R:=⟨_,rfl⟩
 obtain⟨RE,hREe⟩:∃ R,Zmm u bl pl I i=R:=⟨_,rfl⟩
 rw [hRe,hREe] at hF
 rw [hREe] at hE
 rw [hRe]
 have c3:=hC.c.c.load1 (off:=3) rfl
 rw [hbo] at c3
 have i1:(i:Int) < nb u:=by omega
 have i2:(i:Int)≤9223372036854775807:=by omega
 obtain⟨oZ,kZ,nZ⟩:=Zar (m:=m) (cs:=[.slice none 0 0,.int .i64 0,.int .i64 0,.slice none 0 0,.slice none 0 0,.int .i64 0]) (e:=36) rfl
 obtain⟨bx,hbx'⟩:∃ bx,m.next=bx:=⟨_,rfl⟩
 obtain⟨m3,e3,oX,kX3⟩:=Zap (r:=_) rfl oZ (off:=0) (vs:=[.slice vo' vl.length vl.length,.int .i64 en,.int .i64 cd,.slice no' nl nl,.slice po' pr.length pr.length,.int .i64 st]) (by simp) (by simp [Zau,Zae])
 simp [Zbx] at oX
 have k3:=kZ.fresh kX3 (by simp)
 rw [hbx'] at oX nZ e3
 have x0:=oX.load1 (off:=0) rfl
 refine Zhk 99 [99,108] k41 hN.taken rfl ?_
 simp [-Int.natCast_add,c3,i2,hi,ldb,hbx',e3,x0]
 obtain⟨RL,hRL⟩:∃ R,Zhz u bl pl I i 0 vl=R:=⟨_,rfl⟩
 rw [hRL] at hF
 clear ldb e3 c3 x0 oZ kZ kX3 nZ hbo
 have hU3:=hU.keep k3 (by simp)
 have hC3:=hC.keep0 k3
 have hvo3:=hvo'.keep k3 (by simp)
 have hpo3:=hpo'.keep k3 (by simp)
 refine Zag 99 [99,108] (fun d E mF=>∃ (k:Nat),vl.length - k=d∧k≤vl.length∧Zhz u bl pl I i k (vl.drop k)=RL∧Zaa m3 mF []∧
  E=[(0,.pointer (some ⟨cb,0,none⟩)),(1,.int .i64 (i:Int)),(5,.pointer (some ⟨bx,0,none⟩)),(6,.int .i64 vl.length),(24,.slice vo' vl.length vl.length),(25,.int .i64 vl.length),(26,.int .i64 (k:Int))]) _ ⟨_,⟨0,rfl,by omega,by rw [List.drop_zero];exact hRL,.refl _ _,rfl⟩,(by repeat' constructor)⟩ ?_
 rintro d E mF ih ⟨k,hd,hk,ha,kF,rfl⟩
 have km:(k:Int)≤9223372036854775807:=by omega
 by_cases hlt:k < vl.length
 ·have k1:(k:Int) < vl.length:=by omega
  have wk:IntKind.i64.wrap ((k:Int)+1)=((k+1:Nat):Int):=by rw [Zab (by omega) (by omega)];omega
  obtain⟨yb,hyb,lk0⟩:=(hvo3.keep kF (by simp)).get hlt
  rw [hyb] at ih ⊢
  rw [Za7 hlt,Zhz] at ha
  have hnb':=hbv.2 _ (Za6 hlt)
  have hphk:=hph _ (Za6 hlt)
  obtain⟨n,hn⟩:∃ n:Nat,vl.getD k 0=(n:Int):=⟨(vl.getD k 0).toNat,by omega⟩
  rw [hn] at lk0 hnb' ha hphk
  have hnn:n < nv u:=by omega
  have n1:(n:Int) < nv u:=by omega
  have n2:(n:Int)≤9223372036854775807:=by omega
  have hUF:=hU3.keep kF (by simp)
  have hCF:=hC3.keep0 kF
  obtain⟨xb,ao,fa,hxv,ldx,hra,_⟩:=Ziy hUF hnn
  rw [show u.2.2.1[n]=Za3 u (n:Int) from (Zc6 hnn).symm] at ldx hra
  have hus:=hT.us n hnn
  have hal:=hT.al n hnn
  have hlv:=hT.lv n hnn
  have eV:Zn3 u bl pl I i k (n:Int)=if (Za3 u n).1=21 then Zzr u bl pl I (Za3 u n).2.2.2.2.1 (prD u i) else
   Zgt u bl pl I i k (Zfb (Za3 u n)) && (!lvs (Za3 u n).1 || Zfo u bl pl I i k (stD u (show Int from (Za3 u n).2.2.2.2.2.1).toNat)):=rfl
  rw [eV,hpre] at ha
  obtain⟨X,hX⟩:∃ X,Za3 u (n:Int)=X:=⟨_,rfl⟩
  rw [hX] at ldx hra hus hal hlv ha hphk
  clear eV
  obtain⟨o,ho⟩:∃ o:Int,X.1=o:=⟨_,rfl⟩
  obtain⟨xa,hxa⟩:∃ o:Int,X.2.1=o:=⟨_,rfl⟩
  obtain⟨xbb,hxbb⟩:∃ o:Int,X.2.2.1=o:=⟨_,rfl⟩
  obtain⟨xn,hxn⟩:∃ o:Int,X.2.2.2.1=o:=⟨_,rfl⟩
  obtain⟨l,hl⟩:∃ o:List Int,X.2.2.2.2.1=o:=⟨_,rfl⟩
  obtain⟨xst,hxst⟩:∃ o:Int,X.2.2.2.2.2.1=o:=⟨_,rfl⟩
  have huse:Zfb X=Zcm o xa xbb l:=by unfold Zfb;rw [ho,hxa,hxbb,hl]
  rw [show List.length X.2.2.2.2.1=l.length by rw [hl]] at hphk hal
  rw [huse] at hus ha
  rw [show (show Int from X.2.2.2.2.2.1)=xst from hxst] at ha hlv
  rw [hxst] at hlv
  unfold Zlt at ldx
  rw [ho,hxa,hxbb,hxn,hl,hxst] at ldx
  rw [ho] at hlv ha hphk
  rw [hl] at hra ha
  clear hn
  have c2:=hCF.c.c.load1 (off:=2) rfl
  rw [hxv] at c2
  obtain⟨oZ,kZ,nZ⟩:=Zar (m:=mF) (cs:=[.int .i64 0,.int .i64 0,.int .i64 0,.int .i64 0,.slice none 0 0,.int .i64 0]) (e:=43) rfl
  obtain⟨vx,hvx⟩:∃ bx,mF.next=bx:=⟨_,rfl⟩
  obtain⟨m4,e4,oV,kV⟩:=Zap (r:=_) rfl oZ (off:=0) (vs:=[.int .i64 o,.int .i64 xa,.int .i64 xbb,.int .i64 xn,.slice ao l.length l.length,.int .i64 xst]) (by simp) (by simp [Zau,Zae])
  simp [Zbx] at oV
  have k4:=kZ.fresh kV (by simp)
  rw [hvx] at oV nZ e4
  have v0:=oV.load1 (off:=0) rfl
  have v4:=oV.load1 (off:=4) rfl
  have v5:=oV.load1 (off:=5) rfl
  have vw:=oV.load (off:=0) 6 (by simp)
  simp [Zao] at vw
  have k34:=kF.trans k4
  have hC4:=hCF.keep0 k4
  have hU4:=hUF.keep k4 (by simp)
  clear oZ kZ kV
  by_cases c21:o=21
  ·rw [if_pos c21] at ha
   have hlp:=hphk c21
   have husl:∀ z∈l,(0:Int)≤z∧z < nv u:=fun z hz=>hus z (by rw [Zpk,c21];simp [hz])
   have hra4:Zah (fun _=>True) m4 ao l:=⟨fa,hra.keep k4 (by simp),fun _=>trivial⟩
   have hlb:l.length≤20000000000000:=by omega
   obtain⟨RP,hRP⟩:∃ R,Zzr u bl pl I l pr=R:=⟨_,rfl⟩
   rw [hRP] at ha
   have o21:o=21↔True:=by simp [c21]
   simp [-Int.natCast_add,k1,km,hlt,lk0,c2,n2,hnn,ldx,hvx,e4,v0,v4,o21]
   refine Zag 99 [99,108] (fun d2 E mG=>∃ (j:Nat),l.length - j=d2∧j≤l.length∧Zzr u bl pl I (l.drop j) (pr.drop j)=RP∧Zaa m4 mG []∧
    E=[(0,.pointer (some ⟨cb,0,none⟩)),(1,.int .i64 (i:Int)),(5,.pointer (some ⟨bx,0,none⟩)),(6,.int .i64 vl.length),(24,.slice (some ⟨yb.1,yb.2,none⟩) vl.length vl.length),(25,.int .i64 vl.length),(26,.int .i64 (k:Int)),(43,.slice ao l.length l.length),(44,.int .i64 l.length),(45,.int .i64 (j:Int))]) _ ⟨_,⟨0,rfl,by omega,by rw [List.drop_zero,List.drop_zero];exact hRP,.refl _ _,rfl⟩,(by repeat' constructor)⟩ ?_
   rintro d2 E mG ih2 ⟨j,hd2,hj,hp,kG,rfl⟩
   have jm:(j:Int)≤9223372036854775807:=by omega
   by_cases hjt:j < l.length
   ·have j1:(j:Int) < l.length:=by omega
    have wj:IntKind.i64.wrap ((j:Int)+1)=((j+1:Nat):Int):=by rw [Zab (by omega) (by omega)];omega
    have hjp:j < pr.length:=by omega
    have jp1:(j:Int) < pr.length:=by omega
    obtain⟨zb,rfl,lj⟩:=(hra4.keep kG (by simp)).get hjt
    obtain⟨qb,hqb,lq⟩:=((hpo3.keep k34 (by simp)).keep kG (by simp)).get hjp
    have hap:=husl _ (Za6 hjt)
    have hqp:=hpr _ (Za6 hjp)
    rw [Za7 hjt,Za7 hjp,Zzr] at hp
    obtain⟨aa,haa⟩:∃ k:Int,l.getD j 0=k:=⟨_,rfl⟩
    obtain⟨q,hq⟩:∃ k:Nat,pr.getD j 0=(k:Int):=⟨(pr.getD j 0).toNat,by omega⟩
    rw [haa] at lj hap hp
    rw [hq] at lq hqp hp
    rw [Int.toNat_natCast] at hp
    have hqn:q < nb u:=by omega
    have q1:(q:Int) < nb u:=by omega
    have q2:(q:Int)≤9223372036854775807:=by omega
    obtain⟨oN,kN,nN⟩:=Zar (m:=mG) (cs:=[.int .i64 aa]) (e:=3) rfl
    have hUG:=(hU4.keep kG (by simp))
    obtain⟨bb2,vo2,hbo2,hld⟩:=Z0k hUG hqn
    have ldv:=hld mG [] (.refl _ _) (by simp)
    have ldv3:=hld _ [] kN (by simp)
    have hCG:=hC4.keep0 kG
    have c3:=hCG.c.c.load1 (off:=3) rfl
    have c3N:=(hCG.keep0 kN).c.c.load1 (off:=3) rfl
    have oXG:=((oX.keep k34 (by simp)).keep kG (by simp))
    have x4:=oXG.load1 (off:=4) rfl
    have x4N:=(oXG.keep kN (by simp)).load1 (off:=4) rfl
    have lqN:=(((hpo3.keep k34 (by simp)).keep kG (by simp)).keep kN (by simp)).get hjp
    rw [hq] at lqN
    obtain⟨qb',hqb',lqN⟩:=lqN
    have tN:=Zj8 (place:=((vlD u q).length:Int)) hN.seen hN.dominates (hCG.keep0 kN) hR hnb hnv (Zx2 (Q:=Q) (m:=mG) aa) (by simp) (by intro v hv;simp at hv;subst hv;exact hap) hqn
    simp only [List.length_cons,List.length_nil,Nat.zero_add] at tN
    obtain⟨Z,hZ⟩:∃ Z,Zgt u bl pl I q (vlD u q).length [aa]=Z:=⟨_,rfl⟩
    rw [hZ] at tN hp
    have hqe:qb'=qb:=by rw [hqb] at hqb';simp at hqb';exact Prod.ext hqb'.1.symm hqb'.2.symm
    rw [hqe] at lqN
    rw [hbo2] at c3 c3N
    rw [hqb] at x4 x4N
    have Kg:Zaa m (mG.new [.int .i64 aa] 3) []:=((k3.trans k34).trans kG).trans kN
    cases Z
    ·have hPf:RP=false:=by rw [← hp];rfl
     have hRf:R=false:=by rw [hF,← ha,hPf];simp
     rw [hRf]
     simp [-Int.natCast_add,-List.getD_eq_getElem?_getD,Za u22 bs3 rfl,j1,jm,hjt,lj,hjp,c3,c3N,x4,x4N,lq,lqN,q2,hqn,ldv,ldv3,tN]
     exact Kg
    ·simp [-Int.natCast_add,-List.getD_eq_getElem?_getD,Za u22 bs3 rfl,j1,jm,hjt,lj,hjp,c3,c3N,x4,x4N,lq,lqN,q2,hqn,ldv,ldv3,tN,wj]
     exact ih2 _ _ _ _ ⟨j+1,rfl,by omega,by rw [← hp];rfl,kG.trans kN,rfl⟩ (by omega) (by repeat' constructor)
   clear ih2
   have j1:¬ (j:Int) < l.length:=by omega
   have hPt:RP=true:=by
    rw [← hp,List.drop_of_length_le (show l.length≤j by omega)];rfl
   rw [hPt,Bool.true_and] at ha
   simp [-Int.natCast_add,-List.getD_eq_getElem?_getD,j1,wk]
   exact ih _ _ _ _ ⟨k+1,rfl,by omega,ha,k34.trans kG,rfl⟩ (by omega) (by repeat' constructor)
  ·rw [if_neg c21] at ha
   obtain⟨vU,m5,c5,⟨uo,uf,rfl,hru⟩,k5⟩:=Zuk (m:=m4) hN.uses hN.parts (op:=o) (a:=xa) (b:=xbb) (n:=xn) (st:=xst) hal (hra.keep k4 (by simp))
   have hul:=Zj5 o xa xbb l
   obtain⟨L,hL⟩:∃ L,Zcm o xa xbb l=L:=⟨_,rfl⟩
   rw [hL] at hul c5 hru hus ha
   have hC5:=hC4.keep0 k5
   have hU5:=hU4.keep k5 (by simp)
   have t5:=Zj8 (place:=(k:Int)) hN.seen hN.dominates hC5 hR hnb hnv ⟨uf,Zp1 hru,fun _=>trivial⟩ (Q:=fun _=>True) (by omega) hus hi
   have lv5:=Zov (m:=m5) hN.leaves o
   have lv4:=Zov (m:=m4) hN.leaves o
   have oV5:=oV.keep k5 (by simp)
   have y0:=oV5.load1 (off:=0) rfl
   have y5:=oV5.load1 (off:=5) rfl
   have yw:=oV5.load (off:=0) 6 (by simp)
   simp [Zao] at yw
   obtain⟨T,hTe⟩:∃ T,Zgt u bl pl I i k L=T:=⟨_,rfl⟩
   obtain⟨V,hV⟩:∃ V,lvs o=V:=⟨_,rfl⟩
   rw [hTe] at t5 ha
   rw [hV] at lv5 lv4 hlv ha
   have K5:Zaa m m5 []:=(k3.trans k34).trans k5
   simp [-Int.natCast_add,-w41_14,k1,km,hlt,lk0,c2,n2,hnn,ldx,hvx,e4,v0,c21]
   cases T
   ·have hRf:R=false:=by rw [hF,← ha];simp
    rw [hRf]
    simp [-Int.natCast_add,vw,c5,t5]
    exact K5
   cases V
   ·simp [-Int.natCast_add,vw,y0,c5,t5,lv5,wk]
    exact ih _ _ _ _ ⟨k+1,rfl,by omega,by rw [← ha];simp,k34.trans k5,rfl⟩ (by omega) (by repeat' constructor)
   ·have hst2:=hlv rfl
    obtain⟨s,rfl⟩:∃ s:Nat,xst=(s:Int):=⟨xst.toNat,by omega⟩
    have hsn:s < ns u:=by omega
    rw [Int.toNat_natCast] at ha
    have hsS:=hT.st s hsn
    obtain⟨_,m6,c6,rfl,k6⟩:=Zj6 (place:=(k:Int)) hN.seenState hN.seen hN.dominates hU5 hC5 hR hnb hnv hsn hns (Ziz hsn).symm hsS.1 hsS.2 hi
    obtain⟨Z,hZ⟩:∃ Z,Zfo u bl pl I i k (stD u s)=Z:=⟨_,rfl⟩
    rw [hZ] at c6 ha
    cases Z
    ·have hRf:R=false:=by rw [hF,← ha];simp
     rw [hRf]
     simp [-Int.natCast_add,vw,y0,y5,c5,t5,lv5,c6]
     exact K5.trans k6
    ·simp [-Int.natCast_add,vw,y0,y5,c5,t5,lv5,c6,wk]
     exact ih _ _ _ _ ⟨k+1,rfl,by omega,by rw [← ha];simp,(k34.trans k5).trans k6,rfl⟩ (by omega) (by repeat' constructor)
 ·clear ih
  have k1:¬ (k:Int) < vl.length:=by omega
  rw [List.drop_of_length_le (by omega),Zhz] at ha
  rw [← ha,Bool.true_and] at hF
  have hCF:=hC3.keep0 kF
  have hUF:=hU3.keep kF (by simp)
  have oXF:=oX.keep kF (by simp)
  have x1:=oXF.load1 (off:=1) rfl
  have x2:=oXF.load1 (off:=2) rfl
  have x5:=oXF.load1 (off:=5) rfl
  have KF:=k3.trans kF
  simp [-Int.natCast_add,-w41_18,k1,x1]
  by_cases e2:en=2
  ·rw [if_pos e2] at hE
   rw [hF,hE]
   obtain⟨oN,kN,nN⟩:=Zar (m:=mF) (cs:=[.int .i64 cd]) (e:=3) rfl
   have hCN:=hCF.keep0 kN
   have tN:=Zj8 (place:=(vl.length:Int)) hN.seen hN.dominates hCN hR hnb hnv (Zx2 (Q:=Q) (m:=mF) cd) (by simp) (by intro v hv;simp at hv;subst hv;exact hcd e2) hi
   simp only [List.length_cons,List.length_nil,Nat.zero_add] at tN
   simp [-Int.natCast_add,Za u22 bs3 rfl,e2,x2,tN]
   exact KF.trans kN
  rw [if_neg e2] at hE
  by_cases e4:en=3
  ·rw [if_pos e4] at hE
   have hst2:(0:Int)≤st∧st < ns u:=hos e4
   obtain⟨s,rfl⟩:∃ s:Nat,st=(s:Int):=⟨st.toNat,by omega⟩
   have hsn:s < ns u:=by omega
   rw [Int.toNat_natCast] at hE
   rw [hF,hE]
   have hsS:=hT.st s hsn
   obtain⟨_,m6,c6,rfl,k6⟩:=Zj6 (place:=(vl.length:Int)) hN.seenState hN.seen hN.dominates hUF hCF hR hnb hnv hsn hns (Ziz hsn).symm hsS.1 hsS.2 hi
   simp [-Int.natCast_add,e4,x5,c6]
   exact KF.trans k6
  rw [if_neg e4] at hE
  rw [hF,hE]
  simp [-Int.natCast_add,e2,e4]
  exact KF
end Go.Proofs.YtcgmchechmbmeaaDoor.base
end
