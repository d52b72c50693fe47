/- This text proves what the document's 'frames' answers, Zbx the abstract run. Condition: nothing is known of the calls ahead ('S f = []'). -/
import Derived.Test.YtcgmchechmbmeaaDoorM7
set_option linter.unusedVariables false
set_option linter.unusedSimpArgs false
section
set_option maxRecDepth 100000
namespace Go.Proofs.YtcgmchechmbmeaaDoor.base
open Go.Sh gen
section
variable {P:Program}{ρ:Operand→Value}{m:Mem}
def ldS (m:Mem)(v:Value)(z:Nat):Option (List Value × Nat):=match v with
 | .slice (some a) k _=>if k=0 then some ([],0) else (loadRow m a (k * z)).map fun l=>(l,k)
 | .slice none 0 0=>some ([],0)
 | _=>none
theorem Zc9 {ty tx e2:TypeId}{z:Nat}(htx:P.underlying tx=some (.slice e2))(hz:Zaj P e2=some z)(s x:Operand):Zer P ρ #[s,x] #[ty,tx] m=match ldS m (ρ x) z with
  | some (news,k)=>Zak P ty m (ρ s) news k
  | none=>apF P ρ #[s,x] #[ty,tx] m:=by
 cases h:ldS m (ρ x) z with
 | none=>rfl
 | some r =>
  obtain⟨news,k⟩:=r
  rw [Zbb htx hz]
  cases hx:ρ x with
  | slice a q c =>
   rw [hx] at h
   cases a with
   | some a =>
    by_cases hk:q=0
    ·subst hk;simp [ldS] at h;simp [← h.1,← h.2]
    ·simp only [ldS,if_neg hk] at h
     cases hl:loadRow m a (q * z) with
     | none=>rw [hl] at h;simp at h
     | some w=>rw [hl] at h;simp at h;obtain⟨rfl,rfl⟩:=h;simp [hk,hl]
   | none =>
    cases q with
    | zero =>
     cases c with
     | zero=>simp [ldS] at h;simp [← h.1,← h.2]
     | succ c=>simp [ldS] at h
    | succ q=>simp [ldS] at h
  | _=>rw [hx] at h;simp [ldS] at h
theorem Z2p {ao:Option Addr}{n:Nat}{cells:List Value}{e z fam:Nat}(h:Rs m ao n cells e z fam):ldS m (.slice ao n n) z=some (cells,n):=by
 by_cases hn:n=0
 ·subst hn
  have hc:cells=[]:=List.length_eq_zero_iff.1 (by rw [← h.1];simp)
  subst hc
  cases ao <;> simp [ldS]
 ·obtain⟨b,rfl,r⟩:=h.rdo hn
  simp only [ldS,if_neg hn]
  rw [r.load (n * z) (by rw [h.1];omega)]
  have e:Zao cells 0 (n * z)=cells:=by rw [h.1];simp [Zao]
  rw [e];rfl
theorem Zrq {ao:Option Addr}{n:Nat}{cells:List Value}{e fam:Nat}(h:RsI m ao n cells e fam):ldS m (.slice ao n n) 1=some (cells,n):=by
 have hlen:=h.1
 by_cases hn:n=0
 ·subst hn
  have hc:cells=[]:=List.length_eq_zero_iff.1 hlen.symm
  subst hc
  cases ao <;> simp [ldS]
 ·obtain⟨b,rfl,r⟩:=h.rdo hn
  simp only [ldS,if_neg hn,Nat.mul_one]
  rw [r n (Nat.le_refl _),List.take_of_length_le (by omega)]
  rfl
end
variable {S:Zb4}{m:Mem}
theorem Zxq {Q:Nat→Prop}{fs:List Zeg.D}{fo:Option Addr}(h:AtI Q m (Ty.slice 52 (Ty.pair (Ty.int .i64) (Ty.pair (Ty.int .i64) (Ty.pair (Ty.slice 3 (Ty.int .i64)) (Ty.pair (Ty.slice 3 (Ty.int .i64)) Ty.unit))))) fs [.slice fo fs.length fs.length]){i:Nat}(hi:i < fs.length) :
  ∃ (b:Nat) (lo so:Option Addr),fo=some ⟨b,0,none⟩∧∀ (m':Mem) (gs:List Nat),Zaa m m' gs→(∀ f∈gs,¬ Q f)→loadRow m' ⟨b,i * 4,none⟩ 4=some (frC fs[i] lo so)∧Zah Q m' lo (fs[i]).2.2.1∧Zah Q m' so (fs[i]).2.2.2.1:=by
 obtain⟨vb,c,e,hc,hl⟩:=Zfi h hi
 obtain⟨_,_,e1,rfl,_,_,e2,rfl,_,_,e3,h3,_,_,e4,h4,h5⟩:=hc
 simp only [AtI] at h5
 subst h5
 obtain⟨ao3,f3,rfl,hr3,hqf3⟩:=Zdv h3
 obtain⟨ao4,f4,rfl,hr4,hqf4⟩:=Zdv h4
 refine⟨vb,ao3,ao4,e,fun m' gs k hf=>?_⟩
 have hl':=hl m' gs k hf
 rw [e1,e2,e3,e4] at hl'
 have i3:Zah Q m ao3 (fs[i]).2.2.1:=⟨f3,hr3,hqf3⟩
 have i4:Zah Q m ao4 (fs[i]).2.2.2.1:=⟨f4,hr4,hqf4⟩
 exact⟨hl',i3.keep k hf,i4.keep k hf⟩
def Zs7 (f:Zeg.D):List Int:=(show List Int from f.2.2.1)++(show List Int from f.2.2.2.1)
def Zbh (fs:List Zeg.D):List Int:=fs.flatMap Zs7
theorem Zjg {fs:List Zeg.D}(h:∀ f∈fs,List.length f.2.2.1≤1000∧List.length f.2.2.2.1≤1000):(Zbh fs).length≤2000 * fs.length:=by
 induction fs with
 | nil=>simp [Zbh]
 | cons f r ih =>
  have h1:=h f (by simp)
  have h2:=ih (fun x hx=>h x (by simp [hx]))
  have h3:(Zs7 f).length=List.length f.2.2.1+List.length f.2.2.2.1:=by unfold Zs7;exact List.length_append
  unfold Zbh at h2 ⊢
  rw [List.flatMap_cons,List.length_append,h3,List.length_cons]
  omega
set_option maxHeartbeats 4000000 in
theorem Znw (hS:S 50=[]){Q:Nat→Prop}(hQ:∀ f,Q f→f < m.next){fs:List Zeg.D}{fo:Option Addr}(hA:AtI Q m (Ty.slice 52 (Ty.pair (Ty.int .i64) (Ty.pair (Ty.int .i64) (Ty.pair (Ty.slice 3 (Ty.int .i64)) (Ty.pair (Ty.slice 3 (Ty.int .i64)) Ty.unit))))) fs [.slice fo fs.length fs.length])(hl:fs.length≤1000)(hf:∀ f∈fs,List.length f.2.2.1≤1000∧List.length f.2.2.2.1≤1000) :
  ∃ v m1,Zaq Tryd.prog TT S 50 [.agg #[.slice fo fs.length fs.length]] m=some (v,m1)∧(∃ ao,v=.slice ao (Zbh fs).length (Zbh fs).length∧Zah (fun f=>m.next≤f) m1 ao (Zbh fs))∧Zaa m m1 []:=by
 obtain⟨oU,kU,nU⟩:=Zar (m:=m) (cs:=[.slice fo fs.length fs.length]) (e:=41) rfl
 obtain⟨mB,hmB⟩:∃ mB,m.new [.slice fo fs.length fs.length] 41=mB:=⟨_,rfl⟩
 obtain⟨pb,hpb⟩:∃ pb,m.next=pb:=⟨_,rfl⟩
 rw [hmB,hpb] at oU nU
 rw [hmB] at kU
 have hlen:=Zjg hf
 obtain⟨L,hL⟩:∃ L,Zbh fs=L:=⟨_,rfl⟩
 rw [hL] at hlen ⊢
 refine Zhk 5 [9] k50 hS rfl ?_
 simp [-Int.natCast_add,Zbn b41,hmB,hpb]
 refine Zag 5 [9] (fun d E mF=>∃ (j:Nat) (ao:Option Addr) (n:Nat) (l:List Int) (fam:Nat),fs.length - j=d∧j≤fs.length∧l++Zbh (fs.drop j)=L∧n=l.length∧Sl mF ao n (ints l) 3 1 fam∧pb < fam∧Zaa m mF []∧Own mF pb [.slice fo fs.length fs.length] 41 pb∧
  E=[(1,.pointer (some ⟨pb,0,none⟩)),(3,.slice ao n n),(4,.int .i64 (j:Int))]) _ ⟨_,⟨0,none,0,[],pb+1,rfl,by omega,by rw [List.drop_zero];exact hL,rfl,Sl.nil _ _ _ _,by omega,kU,oU,rfl⟩,⟨by rfl,by rfl,by rfl,trivial⟩⟩ ?_
 rintro d E mF ih ⟨j,ao,n,l,fam,hd,hj,hl',hn,hs,hfam,kF,oF,rfl⟩
 have jm:(j:Int)≤9223372036854775807:=by omega
 have l1:=oF.load1 (off:=0) rfl
 by_cases hlt:j < fs.length
 ·have j1:(j:Int) < fs.length:=by omega
  have wj:IntKind.i64.wrap ((j:Int)+1)=((j+1:Nat):Int):=by rw [Zab (by omega) (by omega)];omega
  have hlj:=hf _ (List.getElem_mem hlt)
  rw [List.drop_eq_getElem_cons hlt] at hl'
  have hFA:=hA.keep kF (by simp)
  obtain⟨fb,la,sa,hfb,rows⟩:=Zxq hFA hlt
  obtain⟨ldf,hla,hsa⟩:=rows mF [] (Zaa.refl _ _) (by simp)
  generalize fs[j]=F at *
  have q2:=Zbo (k:=2) ldf rfl
  have q3:=Zbo (k:=3) ldf rfl
  subst hfb
  obtain⟨f1,r1,_⟩:=hla
  have z1:=Zrq r1
  obtain⟨n1,hn1⟩:∃ n1:Nat,List.length F.2.2.1=n1:=⟨_,rfl⟩
  obtain⟨n2,hn2⟩:∃ n2:Nat,List.length F.2.2.2.1=n2:=⟨_,rfl⟩
  rw [hn1] at z1 q2
  rw [hn2] at q3
  have hlL:l.length≤2000 * fs.length:=by rw [← hl',List.length_append] at hlen;omega
  simp [-Int.natCast_add,Zc9 u22 sz3,j1,jm,hlt,l1,q2,z1]
  generalize hra:Zak _ _ _ _ _ _=ra
  obtain⟨mG,ao1,fam1,rfl,hs1,k1,c1⟩:=Z2g hra u22 ap3 hs (by simp;omega) (by simp [List.all_eq_true,Zau]) (by omega) (by omega)
  have oG:=oF.keep k1 (by simp;omega)
  have l1G:=oG.load1 (off:=0) rfl
  obtain⟨ldfG,hlaG,hsaG⟩:=rows mG [fam] k1 (fun g h hq=>by have:=hQ g hq;simp at h;omega)
  have q2G:=Zbo (k:=2) ldfG rfl
  have q3G:=Zbo (k:=3) ldfG rfl
  obtain⟨f1',r1',_⟩:=hlaG
  have z1G:=Zrq r1'
  obtain⟨f2,r2,_⟩:=hsaG
  have z2G:=Zrq r2
  obtain⟨f2',r2',_⟩:=hsa
  have z2:=Zrq r2'
  rw [hn1] at z1G q2G
  rw [hn2] at z2G q3G z2
  simp [-Int.natCast_add,Zc9 u22 sz3,jm,hlt,l1G,q3G,z2G]
  generalize hrb:Zak _ _ _ _ _ _=rb
  have fam1p:pb < fam1:=by have:=k1.1;have:=kF.1;have:=oF.flt;omega
  obtain⟨mH,ao2,fam2,rfl,hs2,k2,c2⟩:=Z2g hrb u22 ap3 hs1 (by simp;omega) (by simp [List.all_eq_true,Zau]) (by omega) (by omega)
  have oH:=oG.keep k2 (by simp;omega)
  have l1H:=oH.load1 (off:=0) rfl
  simp [-Int.natCast_add,l1,q2,q3,l1G,q3G,wj]
  have hc:ints l++F.2.2.1.map (Value.int .i64)++F.2.2.2.1.map (Value.int .i64)=ints (l++Zs7 F):=by unfold Zs7;simp
  have K2:Zaa m mH []:=(kF.fresh k1 (fun g h=>by simp at h;omega)).fresh k2 (fun g h=>by simp at h;omega)
  rw [hc] at hs2
  exact ih _ _ _ _ ⟨j+1,ao2,n+n1+n2,l++Zs7 F,fam2,rfl,by omega,by rw [← hl'];simp [Zbh],by rw [List.length_append,hn,← hn1,← hn2];unfold Zs7;rw [List.length_append];exact Nat.add_assoc _ _ _,hs2,by have:=k1.1;have:=oF.flt;omega,K2,oH,rfl⟩ (by omega) ⟨by rfl,by rfl,by rfl,trivial⟩
 have j1:¬ (j:Int) < fs.length:=by omega
 rw [List.drop_of_length_le (by omega)] at hl'
 have e:l=L:=by rw [← hl'];simp [Zbh]
 rw [e] at hs hn
 simp [-Int.natCast_add,j1,l1]
 exact⟨⟨ao,by rw [hn];exact⟨rfl,rfl⟩,fam,by rw [← hn];exact Zp1 hs.rs,fun _=>by omega⟩,kF⟩
end Go.Proofs.YtcgmchechmbmeaaDoor.base
end
section
set_option maxRecDepth 100000
namespace Go.Proofs.YtcgmchechmbmeaaDoor.base
open Go.Sh gen
variable {S:Zb4}{m:Mem}
inductive Wo (L:List (List Int)) (a:Nat):Nat→Prop
 | z:a≠0→Wo L a 0
 | s {p b:Nat}:Wo L a p→p < L.length→b < L.length→(b:Int)∈L.getD p []→b≠a→Wo L a b
structure Zro (Q:Nat→Prop)(m:Mem)(nx fx:Nat)(ao:Nat→Option Addr)(L:List (List Int)):Prop where
 own:Own m nx (Zha ao L) 22 fx
 row:∀ i < L.length,Zah Q m (ao i) (L.getD i [])
theorem Zro.keep {Q:Nat→Prop}{m1:Mem}{nx fx:Nat}{ao:Nat→Option Addr}{L:List (List Int)}{fs:List Nat}(h:Zro Q m nx fx ao L)(k:Zaa m m1 fs)(hf:∀ f∈fs,¬ Q f)(hx:fx∉fs):Zro Q m1 nx fx ao L:=
 ⟨h.own.keep k hx,fun i hi=>(h.row i hi).keep k hf⟩
structure WoI (L:List (List Int))(a:Nat)(but:Int)(sn:List Bool)(T:List Int):Prop where
 len:sn.length=L.length
 td:∀ t∈T,(0:Int)≤t∧t < L.length∧sn.getD t.toNat false=true
 wo:∀ k < L.length,sn.getD k false=true→Wo L a k
 z:sn.getD 0 false=true
def Cl (L:List (List Int))(but:Int)(sn:List Bool)(k:Nat):Prop:=∀ t∈L.getD k [],t≠but→sn.getD t.toNat false=true
theorem Zbr {sn:List Bool}{k i:Nat}(hk:k < sn.length):(sn.set k true).getD i false=(decide (i=k) || sn.getD i false):=by
 by_cases e:i=k
 ·subst e;simp [List.getD_eq_getElem?_getD,hk]
 ·simp [List.getD_eq_getElem?_getD,Ne.symm e,e]
theorem Cl.set {L:List (List Int)}{but:Int}{sn:List Bool}{k t:Nat}(ht:t < sn.length)(h:Cl L but sn k):Cl L but (sn.set t true) k:=fun x hx hb=>by
 rw [Zbr ht,h x hx hb,Bool.or_true]
theorem Zvc {l:List Bool}{k:Nat}(hk:k < l.length)(h:l.getD k false=false):(l.set k true).count false+1=l.count false:=by
 induction l generalizing k with
 | nil=>simp at hk
 | cons a r ih =>
  cases k with
  | zero=>simp at h;subst h;simp
  | succ k =>
   simp at hk h
   have:=ih (k:=k) hk (by simpa using h)
   simp only [List.set_cons_succ,List.count_cons]
   omega
theorem Zx1 (t:Int)(T:List Int):ints (t::T)=.int .i64 t::ints T:=rfl
theorem Zzv (T:List Int)(t:Int):ints (T++[t])=ints T++[.int .i64 t]:=by simp [ints]
def WoP (m m1:Mem)(L:List (List Int))(a:Nat)(v:Value):Prop:=∃ sb sn,v=.slice (some ⟨sb,0,none⟩) L.length L.length∧sn.length=L.length∧Own m1 sb (Zc8 sn) 4 sb∧m.next≤sb∧∀ k < L.length,sn.getD k false=true↔Wo L a k
set_option maxHeartbeats 8000000 in
theorem Zmv (hS:S 29=[]){Q:Nat→Prop}{nx fx:Nat}{ao:Nat→Option Addr}{L:List (List Int)}(hN:Zro Q m nx fx ao L)(hQ:∀ f,Q f→f < m.next)(hl0:0 < L.length)(hl:L.length≤1000000)
  (hrow:∀ i < L.length,(L.getD i []).length≤1000000∧∀ t∈L.getD i [],(0:Int)≤t∧t < L.length) {a:Nat} {but:Int} (hb:∀ t:Nat,t < L.length→((t:Int)=but↔t=a)) :
  ∃ v m1,Zaq Tryd.prog TT S 29 [.slice (some ⟨nx,0,none⟩) L.length L.length,.int .i64 0,.int .i64 but] m=some (v,m1)∧WoP m m1 L a v∧Zaa m m1 []:=by
 obtain⟨n,hn⟩:∃ n,L.length=n:=⟨_,rfl⟩
 rw [hn] at hl0 hl ⊢
 have fxl:=hN.own.flt
 obtain⟨oS,kS,nS⟩:=Zar (m:=m) (cs:=Zc8 (List.replicate n false)) (e:=4) rfl
 obtain⟨sb,hsb⟩:∃ sb,m.next=sb:=⟨_,rfl⟩
 obtain⟨mA,hmA⟩:∃ mA,m.new (Zc8 (List.replicate n false)) 4=mA:=⟨_,rfl⟩
 rw [hmA,hsb] at oS nS
 rw [hmA] at kS
 have hz:=Zid n (by omega)
 have hzb:List.replicate n (Value.bool false)=Zc8 (List.replicate n false):=by simp [Zc8]
 rw [hzb] at hz
 have n1:(n:Int)≤9223372036854775807:=by omega
 have n2:n≤281474976710656:=by omega
 refine Zhk 12 [17,26,38,57] k29 hS rfl ?_
 have h0b:=hb 0 (by omega)
 by_cases h0:(0:Int)=but
 ·have ha:a=0:=by have:=h0b.1 (by simpa using h0);omega
  subst h0
  simp [-Int.natCast_add,-List.map_replicate,Ze7 u60 ap4,hz,n1,n2,hmA,hsb]
  refine⟨⟨sb,List.replicate n false,by rw [hn],by simp [hn],oS,by omega,fun k hk=>?_⟩,kS⟩
  rw [hn] at hk
  have e1:(List.replicate n false).getD k false=false:=by simp [List.getD_eq_getElem?_getD,hk]
  rw [e1]
  refine⟨fun h=>by simp at h,fun h=>?_⟩
  exfalso
  have:∀ k,Wo L a k→False:=by
   intro k h
   induction h with
   | z hh=>exact hh ha
   | s _ _ _ _ _ ih=>exact ih
  exact this k h
 have ha:a≠0:=fun h=>h0 (h0b.2 (by omega))
 obtain⟨mB,eB,oB,kB⟩:=Zi oS (i:=0) (by simp;omega) true
 obtain⟨oT,kT,nT⟩:=Zar (m:=mB) (cs:=[.int .i64 0]) (e:=3) rfl
 obtain⟨tb,htb⟩:∃ tb,mB.next=tb:=⟨_,rfl⟩
 obtain⟨mC,hmC⟩:∃ mC,mB.new [.int .i64 0] 3=mC:=⟨_,rfl⟩
 rw [hmC,htb] at oT nT
 rw [hmC] at kT
 have hne:sb≠tb:=by have:=oB.flt;omega
 have oC:=oB.keep kT (by simp)
 have KC:Zaa m mC []:=(kS.fresh kB (by simp;omega)).trans kT
 have tbm:m.next≤tb:=by have:=kS.1;have:=kB.1;omega
 simp [-Int.natCast_add,-List.map_replicate,Ze7 u60 ap4,Za u22 bs3 rfl,hz,n1,n2,hmA,hsb,h0,eB,hmC,htb,hl0]
 have I0:WoI L a but ((List.replicate n false).set 0 true) [0]:=by
  refine⟨by simpa using hn.symm,?_,?_,?_⟩
  ·intro t ht
   simp at ht
   subst ht
   refine⟨by omega,by omega,?_⟩
   rw [Zbr (by simp;omega)];simp
  ·intro k hk h
   rw [Zbr (by simp;omega)] at h
   simp [List.getD_eq_getElem?_getD] at h
   rcases h with rfl | h
   ·exact .z ha
   ·rw [List.getElem?_replicate] at h;split at h <;> simp at h
  ·rw [Zbr (by simp;omega)];simp
 have C0:∀ k < n,((List.replicate n false).set 0 true).getD k false=true→(k:Int)∉[(0:Int)]→Cl L but ((List.replicate n false).set 0 true) k:=by
  intro k hk h hT
  exfalso
  rw [Zbr (by simp;omega)] at h
  simp [List.getD_eq_getElem?_getD] at h
  rcases h with rfl | h
  ·simp at hT
  ·rw [List.getElem?_replicate] at h;split at h <;> simp at h
 have D0:2 * ((List.replicate n false).set 0 true).count false+[(0:Int)].length≤2 * n+1:=by
  have:((List.replicate n false).set 0 true).count false≤((List.replicate n false).set 0 true).length:=List.count_le_length
  simp at this ⊢;omega
 have Q0:Qu mC tb 0 (ints [0]) 3 tb:=⟨[],rfl,by simpa [ints] using oT⟩
 refine Zag 12 [17,26,38,57] (fun d E mF=>∃ (sn:List Bool) (T:List Int) (b of N:Nat),2 * sn.count false+T.length=d∧d≤2 * n+1∧T.length=N∧WoI L a but sn T∧(∀ k < n,sn.getD k false=true→(k:Int)∉T→Cl L but sn k)∧Own mF sb (Zc8 sn) 4 sb∧Qu mF b of (ints T) 3 tb∧Zaa m mF []∧
  E=[(0,.slice (some ⟨nx,0,none⟩) n n),(2,.int .i64 but),(7,.slice (some ⟨sb,0,none⟩) n n),(8,.slice (some ⟨b,of,none⟩) N N)]) _
  ⟨_,⟨(List.replicate n false).set 0 true,[0],tb,0,1,rfl,D0,rfl,I0,C0,oC,Q0,KC,rfl⟩,(by repeat' constructor)⟩ ?_
 clear oT kT nT oC KC oB kB oS kS nS hz hzb
 rintro d E mF ih ⟨sn,T,b,of,N,hd,hdn,hTN,hI,hC,oF,qF,kF,rfl⟩
 have lsn:sn.length=n:=by rw [hI.len,hn]
 have hcn:sn.count false≤n:=by rw [← lsn];exact List.count_le_length
 cases T with
 | nil =>
  clear ih
  simp at hTN
  subst hTN
  simp [-Int.natCast_add]
  refine⟨⟨sb,sn,by rw [hn],hI.len,oF,by omega,fun k hk=>⟨hI.wo k (by omega),fun h=>?_⟩⟩,kF⟩
  have:∀ k,Wo L a k→sn.getD k false=true:=by
   intro k h
   induction h with
   | z _=>exact hI.z
   | s hp hpl hbl hm hne ih =>
    have:=hC _ (by omega) ih (by simp) _ hm (fun e=>hne ((hb _ (by omega)).1 e))
    simpa using this
  exact this k h
 | cons t T =>
  obtain⟨ht0,htl,hts⟩:=hI.td t (by simp)
  obtain⟨k,rfl⟩:∃ k:Nat,t=(k:Int):=⟨t.toNat,by omega⟩
  have hk:k < n:=by omega
  simp only [List.length_cons] at hTN hd
  subst hTN
  have hT1:T.length≤3 * n:=by omega
  rw [Zx1] at qF
  have ldh:=qF.head
  have el:Ze9 mF b 3=true:=by obtain⟨pre,_,o⟩:=qF;simp [Ze9,o.blk]
  have k1:(k:Int) < n:=by omega
  have k2:(k:Int)≤9223372036854775807:=by omega
  have t1:(0:Int) < ((T.length+1:Nat):Int):=by omega
  have t2:((T.length+1:Nat):Int)≤9223372036854775807:=by omega
  have hr:=hrow k (by omega)
  obtain⟨l,hle⟩:∃ l,L.getD k []=l:=⟨_,rfl⟩
  have hll:l.length≤1000000:=by rw [← hle];exact hr.1
  have I1:WoI L a but sn T:=⟨hI.len,fun t ht=>hI.td t (by simp [ht]),hI.wo,hI.z⟩
  have C1:∀ k' < n,sn.getD k' false=true→k'≠k→(k':Int)∉T→Cl L but sn k':=fun k' h1 h2 h3 h4=>hC k' h1 h2 (by simp;exact⟨by omega,h4⟩)
  simp [-Int.natCast_add,Zcc u22 sz3,ldh,el]
  have K1:Zro Q mF nx fx ao L:=hN.keep kF (by simp) (by simp)
  refine Zag 12 [17,26,38,57] (fun d2 E mG=>∃ (j:Nat) (sn:List Bool) (T:List Int) (b of N:Nat),l.length - j=d2∧j≤l.length∧2 * sn.count false+T.length < d∧T.length=N∧WoI L a but sn T∧(∀ k' < n,sn.getD k' false=true→k'≠k→(k':Int)∉T→Cl L but sn k')∧(∀ t∈l.take j,t≠but→sn.getD t.toNat false=true)∧sn.getD k false=true∧Own mG sb (Zc8 sn) 4 sb∧Qu mG b of (ints T) 3 tb∧Zaa m mG []∧
   E=[(0,.slice (some ⟨nx,0,none⟩) n n),(2,.int .i64 but),(7,.slice (some ⟨sb,0,none⟩) n n),(8,.slice (some ⟨b,of,none⟩) N N),(9,.int .i64 (k:Int)),(10,.int .i64 (j:Int))]) _
   ⟨_,⟨0,sn,T,b,of+1,T.length,rfl,by omega,by omega,rfl,I1,C1,by simp,by simpa using hts,oF,qF.tail,kF,rfl⟩,(by repeat' constructor)⟩ ?_
  clear hI hC hts ldh el qF oF I1 C1 hd
  rintro d2 E mG ih2 ⟨j,sn,T,b,of,N,hd2,hj,hdT,hTN,hI,hC,hJ,hsk,oG,qG,kG,rfl⟩
  have lsn:sn.length=n:=by rw [hI.len,hn]
  have jm:(j:Int)≤9223372036854775807:=by omega
  have KG:Zro Q mG nx fx ao L:=hN.keep kG (by simp) (by simp)
  have lrow:=KG.own.load1 (off:=k) (Zdr ao (by omega))
  have hrk:=KG.row k (by omega)
  rw [hle] at lrow hrk
  by_cases hjl:j < l.length
  ·have j1:(j:Int) < l.length:=by omega
   have wj:IntKind.i64.wrap ((j:Int)+1)=((j+1:Nat):Int):=by rw [Zab (by omega) (by omega)];omega
   obtain⟨rb,hao,lj⟩:=hrk.get hjl
   rw [hao] at lrow
   obtain⟨ht0,htl⟩:=hr.2 _ (by rw [hle];exact Za6 hjl)
   have hgl:l.take (j+1)=l.take j++[l.getD j 0]:=by rw [List.take_succ_eq_append_getElem hjl,List.getD_eq_getElem?_getD,List.getElem?_eq_getElem hjl];rfl
   have hmem:l.getD j 0∈L.getD k []:=by rw [hle];exact Za6 hjl
   obtain⟨t,ht⟩:∃ t:Nat,l.getD j 0=(t:Int):=⟨(l.getD j 0).toNat,by omega⟩
   rw [ht] at lj ht0 htl hgl hmem
   have t1:(t:Int) < n:=by omega
   have t2:(t:Int)≤9223372036854775807:=by omega
   have t3:t < n:=by omega
   have hbt:=hb t (by omega)
   have lsb:=oG.load1 (off:=t) (Zhf (by omega))
   by_cases hx:(t:Int)=but
   ·simp [-Int.natCast_add,-List.getD_eq_getElem?_getD,k2,hk,lrow,j1,jm,hjl,lj,hx,wj]
    exact ih2 _ _ _ _ ⟨j+1,sn,T,b,of,N,rfl,by omega,hdT,hTN,hI,hC,fun x hx' hxb=>by
     rw [hgl] at hx'
     rcases List.mem_append.1 hx' with h | h
     ·exact hJ x h hxb
     ·simp at h;subst h;exact absurd hx hxb,hsk,oG,qG,kG,rfl⟩ (by omega) (by repeat' constructor)
   by_cases hst:sn.getD t false=true
   ·simp [-Int.natCast_add,-List.getD_eq_getElem?_getD,k2,hk,lrow,j1,jm,hjl,lj,hx,t2,t3,lsb,hst,wj]
    exact ih2 _ _ _ _ ⟨j+1,sn,T,b,of,N,rfl,by omega,hdT,hTN,hI,hC,fun x hx' hxb=>by
     rw [hgl] at hx'
     rcases List.mem_append.1 hx' with h | h
     ·exact hJ x h hxb
     ·simp at h;subst h;rw [Int.toNat_natCast];exact hst,hsk,oG,qG,kG,rfl⟩ (by omega) (by repeat' constructor)
   have hst':sn.getD t false=false:=by simpa using hst
   obtain⟨mH,eH,oH,kH⟩:=Zi oG (i:=t) (by omega) true
   simp [-Int.natCast_add,-List.getD_eq_getElem?_getD,Za u22 bs3 rfl,Zbb u22 sz3,k2,hk,lrow,j1,jm,hjl,lj,hx,t2,t3,lsb,hst',eH]
   generalize hra:Zak _ _ _ _ _ _=ra
   have hcs:(sn.set t true).count false+1=sn.count false:=Zvc (by omega) hst'
   have hNb:N≤4000000:=by have:sn.count false≤sn.length:=List.count_le_length;omega
   obtain⟨m1,b',of',rfl,q1,kA⟩:=Z5t hra u22 ap3 (by kernel_rfl) ((qG.keep kH (by simp;exact Ne.symm hne)).keep (Za4 mH [.int .i64 (t:Int)] 3 []) (by simp)) (by simp [hTN]) (by simp [Zau]) (by omega) (by omega)
   have kB:=((Za4 mH [.int .i64 (t:Int)] 3 [tb])).trans kA
   rw [← Zzv] at q1
   simp [-Int.natCast_add,-List.getD_eq_getElem?_getD,wj]
   have hln:(sn.set t true).length=n:=by simpa using lsn
   refine ih2 _ _ _ _ ⟨j+1,sn.set t true,T++[(t:Int)],b',of',N+1,rfl,by omega,by rw [List.length_append];simp only [List.length_cons,List.length_nil];omega,by rw [List.length_append];simp only [List.length_cons,List.length_nil];omega,⟨by rw [hln,hn],?_,?_,?_⟩,?_,?_,?_,oH.keep kB (by simp;exact hne),q1,(kG.fresh kH (by simp;omega)).fresh kB (by simp;omega),rfl⟩ (by omega) (by repeat' constructor)
   ·intro x hx'
    rcases List.mem_append.1 hx' with h | h
    ·have:=hI.td x h
     refine⟨this.1,this.2.1,?_⟩
     rw [Zbr (by omega),this.2.2,Bool.or_true]
    ·simp at h
     subst h
     refine⟨by omega,by omega,?_⟩
     rw [Zbr (by omega)];simp
   ·intro x hx1 hx2
    rw [Zbr (by omega)] at hx2
    by_cases e:x=t
    ·subst e
     exact .s (hI.wo k (by omega) hsk) (by omega) hx1 hmem (fun e=>hx (hbt.2 e))
    ·simp [e] at hx2
     exact hI.wo x hx1 (by simpa using hx2)
   ·rw [Zbr (by omega),hI.z,Bool.or_true]
   ·intro x hx1 hx2 hx3 hx4
    rw [Zbr (by omega)] at hx2
    have e:x≠t:=fun e=>hx4 (by subst e;simp)
    simp [e] at hx2
    exact (hC x hx1 (by simpa using hx2) hx3 (fun h=>hx4 (by simp [h]))).set (by omega)
   ·intro x hx' hxb
    rw [hgl] at hx'
    rcases List.mem_append.1 hx' with h | h
    ·rw [Zbr (by omega),hJ x h hxb,Bool.or_true]
    ·simp at h;subst h;rw [Zbr (by omega)];simp
   ·rw [Zbr (by omega),hsk,Bool.or_true]
  clear ih2
  have j1:¬ (j:Int) < l.length:=by omega
  simp [-Int.natCast_add,-List.getD_eq_getElem?_getD,k2,hk,lrow,j1]
  refine ih _ _ _ _ ⟨sn,T,b,of,N,rfl,by omega,hTN,hI,fun x hx1 hx2 hx3=>?_,oG,qG,kG,rfl⟩ (by omega) (by repeat' constructor)
  by_cases e:x=k
  ·subst e
   intro y hy hyb
   rw [hle] at hy
   exact hJ y (by rw [List.take_of_length_le (by omega)];exact hy) hyb
  ·exact hC x hx1 hx2 e hx3
end Go.Proofs.YtcgmchechmbmeaaDoor.base
end
section
set_option maxRecDepth 100000
namespace Go.Proofs.YtcgmchechmbmeaaDoor.base
open Go.Sh gen
variable {S:Zb4}{m:Mem}
theorem Rows.base {m0 m1 m:Mem}{ob of:Nat}{ao:Nat→Option Addr}{fm:Nat→Nat}{L:List (List Int)}(h:Rows m1 m ob of ao fm L)(hk:m0.next≤m1.next):Rows m0 m ob of ao fm L:=
 ⟨h.own,h.row,fun i hi hn=>⟨by have:=(h.fr i hi hn).1;omega,(h.fr i hi hn).2⟩,h.inj,by have:=h.ofr;omega⟩
set_option maxHeartbeats 8000000 in
theorem Zyt (hS:S 27=[]){Q:Nat→Prop}{u:UnT.D}{vo bo so:Option Addr}(hU:UAt Q m u vo bo so)(hQ:∀ f,Q f→f < m.next)(hnb:nb u≤1000)(hnx:Zm4 u) :
  ∃ v m1,Zaq Tryd.prog TT S 27 [.agg (Za1 u vo bo so).toArray] m=some (v,m1)∧Z6s m m1 (Zal u) v∧Zaa m m1 []:=by
 obtain⟨oU,kU,nU⟩:=Zar (m:=m) (cs:=Za1 u vo bo so) (e:=29) rfl
 obtain⟨mB,hmB⟩:∃ mB,m.new (Za1 u vo bo so) 29=mB:=⟨_,rfl⟩
 obtain⟨ub,hub⟩:∃ ub,m.next=ub:=⟨_,rfl⟩
 rw [hmB,hub] at oU nU
 rw [hmB] at kU
 have u3:=oU.load1 (off:=3) rfl
 have hz:=Zkp (nb u) (by omega)
 rw [Zrs] at hz
 have n1:(nb u:Int)≤9223372036854775807:=by omega
 have n2:nb u * 24≤281474976710656:=by omega
 obtain⟨oW,kW,nW⟩:=Zar (m:=mB) (cs:=Zha (fun _=>none) (List.replicate (nb u) [])) (e:=22) rfl
 obtain⟨ob,hob⟩:∃ ob,mB.next=ob:=⟨_,rfl⟩
 obtain⟨mD,hmD⟩:∃ mD,mB.new (Zha (fun _=>none) (List.replicate (nb u) [])) 22=mD:=⟨_,rfl⟩
 rw [hmD,hob] at oW nW
 rw [hmD] at kW
 refine Zhk 7 [15,26] k27 hS rfl ?_
 simp [-Int.natCast_add,-List.map_replicate,Zbn b29,Ze7 u57 Z9h,hmB,hub,u3,hz,n1,n2,hmD,hob]
 have R0:Rows mB mD ob ob (fun _=>none) (fun _=>0) (List.replicate (nb u) []):=⟨oW,fun i hi=>by
   rw [List.length_replicate] at hi
   rw [List.getD_eq_getElem?_getD,List.getElem?_replicate,if_pos hi]
   exact Sl.nil _ _ _ _,fun i _ h=>absurd rfl h,fun i _ j _ _ h=>absurd rfl h,by omega⟩
 have K0:Zaa mB mD []:=kW
 have hgd0:∀ k,((List.replicate (nb u) ([]:List Int)).getD k []).length≤2 * 0:=by
  intro k
  rw [List.getD_eq_getElem?_getD,List.getElem?_replicate]
  split <;> simp
 obtain⟨L0,hL0⟩:∃ L0:List (List Int),L0=List.replicate (nb u) []:=⟨_,rfl⟩
 have hlen0:L0.length=nb u:=by rw [hL0];simp
 have hA:Zdm 0 u.2.2.2.1 L0=Zal u:=by rw [hL0];rfl
 rw [← hL0] at R0 hgd0
 obtain⟨A,hA'⟩:∃ A,Zal u=A:=⟨_,rfl⟩
 rw [hA'] at hA ⊢
 refine Zag 7 [15,26] (fun d E mF=>∃ (i:Nat) (ao:Nat→Option Addr) (fm:Nat→Nat) (L:List (List Int)),nb u - i=d∧i≤nb u∧Rows mB mF ob ob ao fm L∧L.length=nb u∧Zaa mB mF []∧(∀ k,(L.getD k []).length≤2 * i)∧Zdm i (u.2.2.2.1.drop i) L=A∧
  E=[(1,.pointer (some ⟨ub,0,none⟩)),(3,.slice (some ⟨ob,0,none⟩) (nb u) (nb u)),(4,.int .i64 (i:Int))]) _ ⟨_,⟨0,_,_,L0,rfl,by omega,R0,hlen0,K0,hgd0,by rw [List.drop_zero];exact hA,rfl⟩,⟨by rfl,by rfl,by rfl,trivial⟩⟩ ?_
 clear R0 K0 hgd0 hlen0 hA hL0
 rintro d E mF ih ⟨i,ao,fm,L,hd,hi,hF,hL,kF,hg,hr,rfl⟩
 have im:(i:Int)≤9223372036854775807:=by omega
 have u3F:=(oU.keep kF (by simp)).load1 (off:=3) rfl
 by_cases hlt:i < nb u
 ·have i1:(i:Int) < nb u:=by omega
  have wi:IntKind.i64.wrap ((i:Int)+1)=((i+1:Nat):Int):=by rw [Zab (by omega) (by omega)];omega
  have hbx:=hnx _ (List.getElem_mem hlt)
  rw [List.drop_eq_getElem_cons hlt,Zdm] at hr
  obtain⟨l,hl⟩:∃ l:List Int,(u.2.2.2.1[i]).2.2.2.1=l:=⟨_,rfl⟩
  rw [show (show List Int from (u.2.2.2.1[i]).2.2.2.1)=l from hl] at hr hbx
  rw [hl] at hbx
  simp [-Int.natCast_add,i1,u3F]
  refine Zag 7 [15,26] (fun d2 E mG=>∃ (j:Nat) (ao:Nat→Option Addr) (fm:Nat→Nat) (L:List (List Int)),l.length - j=d2∧j≤l.length∧Rows mB mG ob ob ao fm L∧L.length=nb u∧Zaa mB mG []∧(∀ k,(L.getD k []).length≤2 * i+j)∧Zdm (i+1) (u.2.2.2.1.drop (i+1)) ((l.drop j).foldl (Zd4 i) L)=A∧
   E=[(1,.pointer (some ⟨ub,0,none⟩)),(3,.slice (some ⟨ob,0,none⟩) (nb u) (nb u)),(4,.int .i64 (i:Int)),(5,.int .i64 (j:Int))]) _ ⟨_,⟨0,ao,fm,L,rfl,by omega,hF,hL,kF,by simpa using hg,by rw [List.drop_zero];exact hr,rfl⟩,(by repeat' constructor)⟩ ?_
  clear hF hL hg hr u3F
  rintro d2 E mG ih2 ⟨j,ao,fm,L,hd2,hj,hG,hL,kG,hg,hr,rfl⟩
  have jm:(j:Int)≤9223372036854775807:=by omega
  have u3G:=(oU.keep kG (by simp)).load1 (off:=3) rfl
  obtain⟨bb,vo',no',po',hbo,ldb,_,hno',_⟩:=Zf0 ((hU.keep kU (by simp)).keep kG (by simp)) hlt
  unfold Zwe at ldb
  rw [hl] at ldb hno'
  have b3:=Zbo (k:=3) ldb rfl
  rw [hbo] at u3G
  by_cases hjt:j < l.length
  ·have j1:(j:Int) < l.length:=by omega
   have wj:IntKind.i64.wrap ((j:Int)+1)=((j+1:Nat):Int):=by rw [Zab (by omega) (by omega)];omega
   obtain⟨xb,rfl,lj⟩:=hno'.get hjt
   rw [Za7 hjt,List.foldl_cons] at hr
   have hkb:=hbx.2 _ (Za6 hjt)
   obtain⟨k,hk⟩:∃ k:Nat,l.getD j 0=(k:Int):=⟨(l.getD j 0).toNat,by omega⟩
   rw [hk] at lj hr hkb
   have hkn:k < nb u:=by omega
   have hkL:k < L.length:=by omega
   have k1:(k:Int) < nb u:=by omega
   have k2:(k:Int)≤9223372036854775807:=by omega
   have lrow:=hG.own.load1 (off:=k) (Zdr ao hkL)
   have lrow2:=(hG.own.new_other [.int .i64 (i:Int)] 3).load1 (off:=k) (Zdr ao hkL)
   have hgk:=hg k
   have eS:Zd4 i L (k:Int)=L.set k (L.getD k []++[(i:Int)]):=by unfold Zd4;rw [Int.toNat_natCast]
   rw [eS] at hr
   have hap:=fun r=>hG.app kG hkL (by omega) (i:Int) (r:=r)
   have hgS:∀ k',((L.set k (L.getD k []++[(i:Int)])).getD k' []).length≤2 * i+(j+1):=by
    intro k'
    by_cases e:k'=k
    ·subst e
     rw [Zdt hkL,List.length_append];simp only [List.length_cons,List.length_nil];omega
    ·rw [Zdw e];have:=hg k';omega
   obtain⟨row,hrow⟩:∃ row,L.getD k []=row:=⟨_,rfl⟩
   rw [hrow] at lrow lrow2 hap hgk hgS hr
   simp [-Int.natCast_add,-List.getD_eq_getElem?_getD,Za u22 bs3 rfl,Zbb u22 sz3,im,hlt,u3G,b3,j1,jm,hjt,lj,k2,hkn,lrow]
   generalize hra:Zak _ _ _ _ _ _=ra
   obtain⟨m1,b',m2,fm',rfl,e2,R2,K2,fs,hfs,kfs⟩:=hap ra hra
   simp [-Int.natCast_add,-List.getD_eq_getElem?_getD,k2,hkn,e2,wj]
   exact ih2 _ _ _ _ ⟨j+1,_,fm',_,rfl,by omega,R2,by simpa using hL,K2,hgS,hr,rfl⟩ (by omega) (by repeat' constructor)
  clear ih2
  have j1:¬ (j:Int) < l.length:=by omega
  rw [List.drop_of_length_le (show l.length≤j by omega),List.foldl_nil] at hr
  simp [-Int.natCast_add,-List.getD_eq_getElem?_getD,j1,wi,u3G,b3,im,hlt]
  exact ih _ _ _ _ ⟨i+1,ao,fm,L,rfl,by omega,hG,hL,kG,fun k=>by have:=hg k;have:=hbx.1;omega,hr,rfl⟩ (by omega) ⟨by rfl,by rfl,by rfl,trivial⟩
 clear ih
 have i1:¬ (i:Int) < nb u:=by omega
 rw [List.drop_of_length_le (Nat.not_lt.1 hlt),Zdm] at hr
 simp [-Int.natCast_add,-List.getD_eq_getElem?_getD,i1,u3F]
 rw [← hr]
 exact⟨⟨ob,ob,ao,fm,by rw [hL],hF.base kU.1⟩,kU.trans kF⟩
def Yag (m:Mem)(db:Nat)(L:List (List Int))(C:List Value)(a:Nat):Prop:=∃ r bl,C[a]?=some (.slice (some ⟨r,0,none⟩) L.length L.length)∧Own m r (Zc8 bl) 4 r∧bl.length=L.length∧db < r∧∀ b < L.length,(bl.getD b false=true↔¬ Wo L a b)
structure Zmd (m0 m:Mem)(db:Nat)(L:List (List Int))(C:List Value)(k:Nat):Prop where
 own:Own m db C 60 db
 len:C.length=L.length
 fr:m0.next≤db
 row:∀ a < k,Yag m db L C a
def Z8p (m m1:Mem)(L:List (List Int))(v:Value):Prop:=∃ db C,v=.slice (some ⟨db,0,none⟩) L.length L.length∧Zmd m m1 db L C L.length
theorem Zr4 (k:Nat)(hk:k≤1000000):Zdx Tryd.prog 60 k=some (List.replicate k (Value.slice none 0 0)):=Zlv (bt:=24) (by kernel_rfl) k (by omega)
set_option maxHeartbeats 8000000 in
theorem Z1c (hS:S 30=[])(hW:S 29=[]){Q:Nat→Prop}{nx fx:Nat}{ao:Nat→Option Addr}{L:List (List Int)}(hN:Zro Q m nx fx ao L)(hQ:∀ f,Q f→f < m.next)(hl0:0 < L.length)(hl:L.length≤1000)
  (hrow:∀ i < L.length,(L.getD i []).length≤1000000∧∀ t∈L.getD i [],(0:Int)≤t∧t < L.length) :
  ∃ v m1,Zaq Tryd.prog TT S 30 [.slice (some ⟨nx,0,none⟩) L.length L.length,.int .i64 0] m=some (v,m1)∧Z8p m m1 L v∧Zaa m m1 []:=by
 obtain⟨n,hn⟩:∃ n,L.length=n:=⟨_,rfl⟩
 have hz:=Zr4 n (by omega)
 have hzb:=Zid n (by omega)
 have hzc:List.replicate n (Value.bool false)=Zc8 (List.replicate n false):=by simp [Zc8]
 rw [hzc] at hzb
 obtain⟨C0,hC0⟩:∃ C0,List.replicate n (Value.slice none 0 0)=C0:=⟨_,rfl⟩
 have hCl:C0.length=n:=by rw [← hC0];simp
 rw [hC0] at hz
 obtain⟨oD,kD,nD⟩:=Zar (m:=m) (cs:=C0) (e:=60) rfl
 obtain⟨db,hdb⟩:∃ db,m.next=db:=⟨_,rfl⟩
 obtain⟨mA,hmA⟩:∃ mA,m.new C0 60=mA:=⟨_,rfl⟩
 rw [hmA,hdb] at oD nD
 rw [hmA] at kD
 have n1:(n:Int)≤9223372036854775807:=by omega
 have n2:n * 24≤281474976710656:=by omega
 have n3:n≤281474976710656:=by omega
 have D0:Zmd m mA db L C0 0:=⟨oD,by omega,by omega,fun a h=>by omega⟩
 refine Zhk 9 [15,31] k30 hS rfl ?_
 rw [hn]
 simp [-Int.natCast_add,-List.map_replicate,Ze7 u63 Ybz,hz,n1,n2,hmA,hdb]
 refine Zag 9 [15,31] (fun d E mF=>∃ (a:Nat) (C:List Value),n - a=d∧a≤n∧Zmd m mF db L C a∧Zaa m mF []∧
  E=[(0,.slice (some ⟨nx,0,none⟩) n n),(1,.int .i64 0),(5,.slice (some ⟨db,0,none⟩) n n),(6,.int .i64 (a:Int))]) _ ⟨_,⟨0,C0,rfl,by omega,D0,kD,rfl⟩,(by repeat' constructor)⟩ ?_
 clear D0 oD
 rintro d E mF ih ⟨a,C,hd,ha,hD,kF,rfl⟩
 have am:(a:Int)≤9223372036854775807:=by omega
 by_cases hlt:a < n
 ·have a1:(a:Int) < n:=by omega
  have wa:IntKind.i64.wrap ((a:Int)+1)=((a+1:Nat):Int):=by rw [Zab (by omega) (by omega)];omega
  obtain⟨v,mW,ew,⟨sb,sn,rfl,lsn,oS,nS,hsn⟩,kW⟩:=Zmv (a:=a) (but:=(a:Int)) hW (hN.keep kF (by simp) (by simp)) (fun f h=>by have:=hQ f h;have:=kF.1;omega) hl0 (by omega) hrow (fun t ht=>by omega)
  rw [hn] at ew lsn hsn
  obtain⟨oR,kR,nR⟩:=Zar (m:=mW) (cs:=Zc8 (List.replicate n false)) (e:=4) rfl
  obtain⟨rb,hrb⟩:∃ rb,mW.next=rb:=⟨_,rfl⟩
  obtain⟨mR,hmR⟩:∃ mR,mW.new (Zc8 (List.replicate n false)) 4=mR:=⟨_,rfl⟩
  rw [hmR,hrb] at oR nR
  rw [hmR] at kR
  have hdbl:=hD.own.flt
  have fW:=kW.1
  have oDR:=(hD.own.keep kW (by simp)).keep kR (by simp)
  obtain⟨mS,eS,oDS,kS⟩:=Zap (r:=_) rfl oDR (off:=a) (vs:=[.slice (some ⟨rb,0,none⟩) n n]) (by simp [hD.len,hn];omega) (by simp [Zae])
  simp [-Int.natCast_add,-List.map_replicate,Ze7 u60 ap4,a1,am,hlt,ew,hzb,n1,n3,hmR,hrb,eS]
  have hCS:Zbx C a [.slice (some ⟨rb,0,none⟩) n n]=C.set a (.slice (some ⟨rb,0,none⟩) n n):=by simp [Zbx,List.set_eq_take_append_cons_drop,hD.len,hn,hlt]
  rw [hCS] at oDS
  have hrd:db < rb:=by omega
  have fS:mW.next≤mS.next:=by have:=kR.1;have:=kS.1;omega
  have oRS:=oR.keep kS (by simp;omega)
  have hsr:sb < rb:=by have:=oS.flt;omega
  have oSS:=((oS.keep kR (by simp))).keep kS (by simp;omega)
  obtain⟨C1,hC1⟩:∃ C1,C.set a (.slice (some ⟨rb,0,none⟩) n n)=C1:=⟨_,rfl⟩
  have hC1a:C1[a]?=some (.slice (some ⟨rb,0,none⟩) n n):=by rw [← hC1];simp [hD.len,hn,hlt]
  have hC1l:C1.length=L.length:=by rw [← hC1];simpa using hD.len
  have hR:∀ b < a,∃ r bl,C1[b]?=some (.slice (some ⟨r,0,none⟩) L.length L.length)∧Own mS r (Zc8 bl) 4 r∧bl.length=L.length∧db < r∧r < rb∧∀ y < L.length,(bl.getD y false=true↔¬ Wo L b y):=fun b hb=>by
   obtain⟨r,bl,h1,h2,h3,h4,h5⟩:=hD.row b hb
   have:=h2.flt
   exact⟨r,bl,by rw [← hC1,List.getElem?_set_ne (by omega)];exact h1,(((h2.keep kW (by simp)).keep kR (by simp)).keep kS (by simp;omega)),h3,h4,by omega,h5⟩
  have KS:Zaa m mS []:=((kF.trans kW).trans kR).fresh kS (by simp;omega)
  have hB0:∀ b < 0,((List.replicate n false).getD b false=true↔¬ Wo L a b):=fun b h=>by omega
  rw [hC1] at oDS
  have hmf:mF.next≤rb:=by omega
  have hfr:=hD.fr
  clear hD hCS oDR eS hC1 ew
  refine Zag 9 [15,31] (fun d2 E mG=>∃ (b:Nat) (bl:List Bool),n - b=d2∧b≤n∧bl.length=n∧Own mG rb (Zc8 bl) 4 rb∧(∀ x < b,(bl.getD x false=true↔¬ Wo L a x))∧Zaa mS mG [rb]∧
   E=[(0,.slice (some ⟨nx,0,none⟩) n n),(1,.int .i64 0),(5,.slice (some ⟨db,0,none⟩) n n),(6,.int .i64 (a:Int)),(7,.slice (some ⟨sb,0,none⟩) n n),(8,.int .i64 (b:Int))]) _ ⟨_,⟨0,List.replicate n false,rfl,by omega,by simp,oRS,hB0,.refl _ _,rfl⟩,(by repeat' constructor)⟩ ?_
  rintro d2 E mG ih2 ⟨b,bl,hd2,hb,hbl,oRG,hbv,kG,rfl⟩
  have bm:(b:Int)≤9223372036854775807:=by omega
  by_cases hbt:b < n
  ·have b1:(b:Int) < n:=by omega
   have wb:IntKind.i64.wrap ((b:Int)+1)=((b+1:Nat):Int):=by rw [Zab (by omega) (by omega)];omega
   have l1:=(oDS.keep kG (by simp;omega)).load1 (off:=a) hC1a
   have l2:=(oSS.keep kG (by simp;omega)).load1 (off:=b) (Zhf (by omega))
   obtain⟨mH,eH,oH,kH⟩:=Zi oRG (i:=b) (by omega) (!sn.getD b false)
   have hsb:=hsn b (by omega)
   obtain⟨x,hx⟩:∃ x,sn.getD b false=x:=⟨_,rfl⟩
   rw [hx] at l2 eH oH hsb
   simp [-Int.natCast_add,-List.getD_eq_getElem?_getD,b1,bm,hbt,am,hlt,l1,l2,eH,wb]
   refine ih2 _ _ _ _ ⟨b+1,bl.set b (!x),rfl,by omega,by simpa using hbl,oH,fun y hy=>?_,kG.trans (kH.mono (by simp)),rfl⟩ (by omega) (by repeat' constructor)
   by_cases e:y=b
   ·subst e
    rw [List.getD_eq_getElem?_getD,List.getElem?_set_self (by omega)]
    simp only [Option.getD_some]
    rw [← hsb];cases x <;> simp
   ·rw [List.getD_eq_getElem?_getD,List.getElem?_set_ne (Ne.symm e),← List.getD_eq_getElem?_getD]
    exact hbv y (by omega)
  clear ih2
  have b1:¬ (b:Int) < n:=by omega
  have:b=n:=by omega
  subst this
  simp [-Int.natCast_add,-List.getD_eq_getElem?_getD,b1,wa]
  refine ih _ _ _ _ ⟨a+1,C1,rfl,by omega,⟨oDS.keep kG (by simp;omega),hC1l,hfr,fun y hy=>?_⟩,KS.fresh kG (by simp;omega),rfl⟩ (by omega) (by repeat' constructor)
  by_cases e:y=a
  ·subst e
   exact⟨rb,bl,by rw [hn];exact hC1a,oRG,by rw [hn];exact hbl,hrd,fun z hz=>hbv z (by omega)⟩
  ·obtain⟨r,bl',h1,h2,h3,h4,h6,h5⟩:=hR y (by omega)
   exact⟨r,bl',h1,h2.keep kG (by simp;omega),h3,h4,h5⟩
 clear ih
 have a1:¬ (a:Int) < n:=by omega
 have:a=n:=by omega
 subst this
 simp [-Int.natCast_add,-List.getD_eq_getElem?_getD,a1]
 exact⟨⟨db,C,by rw [hn],by rw [hn];exact hD⟩,kF⟩
end Go.Proofs.YtcgmchechmbmeaaDoor.base
end
