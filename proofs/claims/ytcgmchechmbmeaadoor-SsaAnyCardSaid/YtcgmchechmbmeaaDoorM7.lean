/- This text proves, in plain Lean, what it says of a unit that its values stand, and that all that was asked of them holds. No condition. -/
import Derived.Test.YtcgmchechmbmeaaDoorM6
set_option linter.unusedVariables false
set_option linter.unusedSimpArgs false
section
set_option maxRecDepth 100000
namespace Go.Proofs.YtcgmchechmbmeaaDoor.base
open Go.Sh gen
def Z2r (l:List Int):Nat:=l.countP fun x=>decide (0≤x)
theorem Z0p {l:List Int}{k:Nat}{b:Int}(hk:k < l.length)(h:l.getD k 0 < 0)(hb:0≤b):Z2r (l.set k b)=Z2r l+1:=by
 unfold Z2r
 induction l generalizing k with
 | nil=>simp at hk
 | cons a r ih =>
  cases k with
  | zero =>
   simp at h
   rw [List.set_cons_zero,List.countP_cons,List.countP_cons,if_pos (by simpa using hb),if_neg (by simpa using h)]
  | succ k =>
   rw [List.set_cons_succ,List.countP_cons,List.countP_cons,ih (by simpa using hk) (by simpa using h)]
   omega
structure Z0y (u:UnT.D)(n:Nat)(s:StS):Prop where
 lb:s.1.length=nv u
 lp:s.2.1.length=nv u
 ct:s.2.2.2=Z2r s.1
 le:∀ i < nv u,s.1.getD i 0 < n
theorem Zhe {u:UnT.D}{b k:Nat}{s s':StS}{v:Int}(h:Zey u b k s v=some s'):∃ n:Nat,v=(n:Int)∧n < nv u∧s.1.getD n 0 < 0∧s'=(s.1.set n b,s.2.1.set n k,Zay (Za3 u v).1,s.2.2.2+1)∧
  ¬ (Zay (Za3 u v).1 && !s.2.2.1=true∨(decide ((Za3 u v).1=1) != decide (b=0)) && Zay (Za3 u v).1=true):=by
 unfold Zey at h
 split at h
 ·cases h
 ·rename_i h1
  split at h
  ·cases h
  ·rename_i h2
   simp only [Bool.or_eq_true,Bool.not_eq_true',decide_eq_true_eq,not_or] at h1
   obtain⟨h1,h3⟩:=h1
   have h1':Zas v (nv u)=true:=by simpa using h1
   unfold Zas at h1'
   simp only [Bool.and_eq_true,decide_eq_true_eq] at h1'
   refine⟨v.toNat,by omega,by omega,by omega,?_,by simpa using h2⟩
   simpa using h.symm
theorem Z0y.step {u:UnT.D}{N b k:Nat}{s s':StS}{v:Int}(hi:Z0y u N s)(hb:b < N)(h:Zey u b k s v=some s'):Z0y u N s':=by
 obtain⟨n,rfl,hn,hneg,rfl,_⟩:=Zhe h
 refine⟨by simpa using hi.lb,by simpa using hi.lp,?_,?_⟩
 ·dsimp only
  rw [Z0p (by rw [hi.lb];exact hn) hneg (by omega),hi.ct]
 ·intro i hiv
  dsimp only
  rw [Zbd _ _ _ _ (by rw [hi.lb];exact hn)]
  split
  ·omega
  ·exact hi.le i hiv
theorem Zsp {u:UnT.D}{b k:Nat}{s s':StS}{v:Int}(hl:s.1.length=nv u∧s.2.1.length=nv u)(h:Zey u b k s v=some s'){i:Nat}(h0:0≤s.1.getD i 0):s'.1.getD i 0=s.1.getD i 0∧s'.2.1.getD i 0=s.2.1.getD i 0:=by
 obtain⟨n,rfl,hn,hneg,rfl,_⟩:=Zhe h
 dsimp only
 have hne:n≠i:=by intro e;rw [e] at hneg;omega
 rw [Zbd _ _ _ _ (by rw [hl.1];exact hn),if_neg hne,Zbd _ _ _ _ (by rw [hl.2];exact hn),if_neg hne]
 exact⟨rfl,rfl⟩
theorem Zv9 {u:UnT.D}{N b:Nat}(hb:b < N){l:List Int}{k:Nat}{s s':StS}(hi:Z0y u N s)(h:Zci u b k l s=some s') :
  Z0y u N s'∧(∀ i,0≤s.1.getD i 0→s'.1.getD i 0=s.1.getD i 0∧s'.2.1.getD i 0=s.2.1.getD i 0)∧
  (∀ j < l.length,∃ n:Nat,l.getD j 0=(n:Int)∧n < nv u∧s'.1.getD n 0=b∧s'.2.1.getD n 0=((k+j:Nat):Int)):=by
 induction l generalizing k s with
 | nil =>
  rw [Zci,Option.some.injEq] at h
  subst h
  exact⟨hi,fun i _=>⟨rfl,rfl⟩,fun j hj=>by simp at hj⟩
 | cons v r ih =>
  rw [Zci] at h
  cases hv:Zey u b k s v with
  | none=>rw [hv] at h;cases h
  | some s1 =>
   rw [hv,Option.bind_some] at h
   have i1:=hi.step hb hv
   obtain⟨a1,a2,a3⟩:=ih i1 h
   have kp:=fun {i:Nat}=>Zsp (i:=i) ⟨hi.lb,hi.lp⟩ hv
   refine⟨a1,fun i h0=>?_,fun j hj=>?_⟩
   ·have k1:=kp h0
    have k2:=a2 i (by rw [k1.1];exact h0)
    exact⟨k2.1.trans k1.1,k2.2.trans k1.2⟩
   ·cases j with
    | zero =>
     obtain⟨n,rfl,hn,hneg,e1,_⟩:=Zhe hv
     have e2:s1.1.getD n 0=b:=by rw [e1];dsimp only;rw [Zbd _ _ _ _ (by rw [hi.lb];exact hn),if_pos rfl]
     have e3:s1.2.1.getD n 0=k:=by rw [e1];dsimp only;rw [Zbd _ _ _ _ (by rw [hi.lp];exact hn),if_pos rfl]
     have k2:=a2 n (by rw [e2];omega)
     exact⟨n,rfl,hn,k2.1.trans e2,k2.2.trans e3⟩
    | succ j =>
     obtain⟨n,g1,g2,g3,g4⟩:=a3 j (by simpa using hj)
     exact⟨n,by simpa using g1,g2,g3,by rw [g4];omega⟩
theorem Zn7 {u:UnT.D}{N:Nat}{bs:List Zct.D}{b:Nat}{s s':StS}(hN:b+bs.length≤N)(hi:Z0y u N s)(h:Zcg u b bs s=some s') :
  Z0y u N s'∧(∀ i,0≤s.1.getD i 0→s'.1.getD i 0=s.1.getD i 0∧s'.2.1.getD i 0=s.2.1.getD i 0)∧
  (∀ (j:Nat) (x:Zct.D),bs[j]?=some x→∀ q < List.length x.1,∃ n:Nat,(show List Int from x.1).getD q 0=(n:Int)∧n < nv u∧s'.1.getD n 0=((b+j:Nat):Int)∧s'.2.1.getD n 0=(q:Int)):=by
 induction bs generalizing b s with
 | nil =>
  rw [Zcg,Option.some.injEq] at h
  subst h
  exact⟨hi,fun i _=>⟨rfl,rfl⟩,fun j x hj=>by simp at hj⟩
 | cons y r ih =>
  rw [Zcg] at h
  cases hv:Zci u b 0 y.1 (s.1,s.2.1,true,s.2.2.2) with
  | none=>rw [hv] at h;cases h
  | some s1 =>
   rw [hv,Option.bind_some] at h
   rw [List.length_cons] at hN
   obtain⟨i1,i2,i3⟩:=Zv9 (N:=N) (by omega) (s:=(s.1,s.2.1,true,s.2.2.2)) ⟨hi.lb,hi.lp,hi.ct,hi.le⟩ hv
   obtain⟨a1,a2,a3⟩:=ih (by omega) i1 h
   refine⟨a1,fun i h0=>?_,fun j x hj q hq=>?_⟩
   ·have k1:=i2 i h0
    have k2:=a2 i (by rw [k1.1];exact h0)
    exact⟨k2.1.trans k1.1,k2.2.trans k1.2⟩
   ·cases j with
    | zero =>
     simp at hj
     subst hj
     obtain⟨n,g1,g2,g3,g4⟩:=i3 q hq
     have k2:=a2 n (by rw [g3];omega)
     exact⟨n,g1,g2,k2.1.trans (by rw [g3,Nat.add_zero]),k2.2.trans (by rw [g4,Nat.zero_add])⟩
    | succ j =>
     obtain⟨n,g1,g2,g3,g4⟩:=a3 j x (by simpa using hj) q hq
     exact⟨n,g1,g2,by rw [g3];omega,g4⟩
structure Zg7 (u:UnT.D)(bl pl:List Int):Prop where
 lb:bl.length=nv u
 lp:pl.length=nv u
 bb:∀ i < nv u,0≤bl.getD i 0∧bl.getD i 0 < nb u
 at_:∀ b < nb u,∀ q < (vlD u b).length,∃ n:Nat,(vlD u b).getD q 0=(n:Int)∧n < nv u∧bl.getD n 0=(b:Int)∧pl.getD n 0=(q:Int)
theorem Zex {u:UnT.D}{s:StS}(h:Zcd u=some s):Zg7 u s.1 s.2.1:=by
 unfold Zcd at h
 cases hB:Zcg u 0 u.2.2.2.1 (List.replicate (nv u) (-1),List.replicate (nv u) 0,true,0) with
 | none=>rw [hB] at h;cases h
 | some s1 =>
  rw [hB] at h
  have h2:=(Option.filter_eq_some_iff.1 h)
  obtain⟨h3,h4⟩:=h2
  simp only [Option.some.injEq] at h3
  subst h3
  have i0:Z0y u (nb u) (List.replicate (nv u) (-1),List.replicate (nv u) 0,true,0):=by
   refine⟨by simp,by simp,?_,fun i hi=>?_⟩
   ·simp [Z2r,List.countP_replicate]
   ·dsimp only
    rw [List.getD_eq_getElem?_getD,List.getElem?_replicate,if_pos hi]
    simp
    omega
  obtain⟨a1,_,a3⟩:=Zn7 (N:=nb u) (by rw [Nat.zero_add];exact Nat.le_refl _) i0 hB
  have hc:Z2r s1.1=s1.1.length:=by rw [a1.lb,← a1.ct];simpa using h4
  refine⟨a1.lb,a1.lp,fun i hi=>⟨?_,a1.le i hi⟩,fun b hb q hq=>?_⟩
  ·have:=List.countP_eq_length.1 hc
   have:=this (s1.1.getD i 0) (Za6 (by rw [a1.lb];exact hi))
   simpa using this
  ·have e:vlD u b=(u.2.2.2.1[b]).1:=congrArg (fun x:Zct.D=>x.1) (Zb2 hb)
   rw [e] at hq ⊢
   have:=a3 b _ (List.getElem?_eq_getElem hb) q hq
   rw [Nat.zero_add] at this
   exact this
end Go.Proofs.YtcgmchechmbmeaaDoor.base
end
section
set_option maxRecDepth 100000
namespace Go.Proofs.YtcgmchechmbmeaaDoor.base
open Go.Sh gen
structure Zli (u:UnT.D):Prop where
 b:∀ b∈u.2.2.2.1,List.length b.1≤20000000000000∧List.length b.2.2.2.1≤20000000000000∧List.length b.2.2.2.2.1≤20000000000000
 s:∀ s∈u.2.2.2.2.1,List.length s.1≤20000000000000∧∀ f∈s.1,List.length f.2.2.1≤20000000000000∧List.length f.2.2.2.1≤20000000000000
 v:∀ v∈u.2.2.1,List.length v.2.2.2.2.1 * 8≤140737488351232
def Zj (u:UnT.D):Bool:=!decide (3000 < nv u) && !decide (300 < nb u) && !decide (1000 < ns u) && !decide (nb u=0)
def Zsm (u:UnT.D):Bool:=Zdo (fun i=>Zee u (stD u i)) 0 (ns u)
def Zp4 (u:UnT.D)(bl:List Int):Bool:=Zdo (Zve u bl) 0 (nv u)
def Zm1 (u:UnT.D):Bool:=Zdo (fun i=>Zhn u (Zda u i)) 0 (nb u)
def Zni (u:UnT.D):Bool:=Zdo (Zwi u) 0 (nb u)
theorem Zz3 {p:Nat→Bool}{i d:Nat}:Zdo p i d=true↔∀ k,i≤k→k < i+d→p k=true:=by
 induction d generalizing i with
 | zero=>simp [Zdo];intro k h1 h2;omega
 | succ d ih =>
  rw [Zdo,Bool.and_eq_true,ih]
  constructor
  ·rintro⟨h1,h2⟩ k hk1 hk2
   by_cases e:k=i
   ·rw [e];exact h1
   ·exact h2 k (by omega) (by omega)
  ·intro h
   exact⟨h i (by omega) (by omega),fun k h1 h2=>h k (by omega) (by omega)⟩
theorem Zcj {p:Nat→Bool}{n:Nat}:Zdo p 0 n=true↔∀ k < n,p k=true:=by
 rw [Zz3]
 exact⟨fun h k hk=>h k (by omega) (by omega),fun h k _ hk=>h k (by omega)⟩
theorem Zbe {k n:Int}:Zas k n=true↔0≤k∧k < n:=by
 unfold Zas;simp only [Bool.and_eq_true,decide_eq_true_eq]
theorem Zgi {u:UnT.D}{l:List Int}(h:Zcb u l=true):∀ z∈l,(0:Int)≤z∧z < nv u:=by
 intro z hz
 unfold Zcb at h
 have:=List.all_eq_true.1 h z hz
 rw [Bool.and_eq_true] at this
 exact Zbe.1 this.1
theorem Zfy {u:UnT.D}{i:Nat}(h:i < nb u):Zda u i∈u.2.2.2.1:=by rw [Zb2 h];exact List.getElem_mem h
theorem Zhc {u:UnT.D}{i:Nat}(h:i < nv u):Za3 u (i:Int)∈u.2.2.1:=by rw [Zc6 h];exact List.getElem_mem h
theorem Zjm {u:UnT.D}{b:Zct.D}(h:Zhn u b=true):(∀ k∈(show List Int from b.2.2.2.1),(0:Int)≤k∧k < nb u)∧
  ((b.2.1=1∧List.length b.2.2.2.1=1)∨(b.2.1=2∧List.length b.2.2.2.1=2∧Zcb u [(show Int from b.2.2.1)]=true)∨(b.2.1=3∧List.length b.2.2.2.1=0∧(0:Int)≤b.2.2.2.2.2.1∧(show Int from b.2.2.2.2.2.1) < ns u)):=by
 unfold Zhn at h
 rw [Bool.and_eq_true] at h
 obtain⟨h1,h2⟩:=h
 refine⟨fun k hk=>Zbe.1 (List.all_eq_true.1 h1 k hk),?_⟩
 split at h2
 ·rename_i e;exact Or.inl ⟨e,of_decide_eq_true h2⟩
 ·split at h2
  ·rename_i e
   rw [Bool.and_eq_true] at h2
   exact Or.inr (Or.inl ⟨e,of_decide_eq_true h2.1,h2.2⟩)
  ·split at h2
   ·rename_i e
    rw [Bool.and_eq_true] at h2
    exact Or.inr (Or.inr ⟨e,of_decide_eq_true h2.1,Zbe.1 h2.2⟩)
   ·cases h2
theorem Zpy {u:UnT.D}(h:Zm1 u=true):Zm4 u:=by
 intro b hb
 obtain⟨i,hi,rfl⟩:=List.mem_iff_getElem.1 hb
 have:=Zcj.1 h i hi
 rw [Zb2 hi] at this
 obtain⟨h1,h2⟩:=Zjm this
 refine⟨?_,h1⟩
 rcases h2 with h2 | h2 | h2 <;> omega
theorem Zyq {u:UnT.D}(h:Zni u=true)(hb:0 < nb u):∀ k < nb u,(Zal u).getD k []=prD u k∧(k=0→prD u k=[]):=by
 intro k hk
 have h0:=Zcj.1 h 0 hb
 unfold Zwi at h0
 rw [Bool.and_eq_true] at h0
 have h1:Zdo (Zzs u) 0 (nb u)=true:=by simpa using h0.1
 have h2:=Zcj.1 h1 k hk
 unfold Zzs at h2
 rw [Bool.and_eq_true] at h2
 have e:(Zal u).getD k []=prD u k:=by
  have:=h2.1
  unfold eqF at this
  exact of_decide_eq_true this
 refine⟨e,fun k0=>?_⟩
 have h3:=h2.2
 rw [e] at h3
 simp [k0] at h3
 rw [k0];exact h3
theorem Zqi {u:UnT.D}(h:Zj u=true):nv u≤3000∧nb u≤300∧ns u≤1000∧0 < nb u:=by
 unfold Zj at h
 rw [Bool.and_eq_true,Bool.and_eq_true,Bool.and_eq_true] at h
 obtain⟨⟨⟨h1,h2⟩,h3⟩,h4⟩:=h
 have g1:¬ 3000 < nv u:=fun e=>by rw [decide_eq_true e] at h1;cases h1
 have g2:¬ 300 < nb u:=fun e=>by rw [decide_eq_true e] at h2;cases h2
 have g3:¬ 1000 < ns u:=fun e=>by rw [decide_eq_true e] at h3;cases h3
 have g4:¬ nb u=0:=fun e=>by rw [decide_eq_true e] at h4;cases h4
 exact⟨Nat.not_lt.1 g1,Nat.not_lt.1 g2,Nat.not_lt.1 g3,Nat.pos_of_ne_zero g4⟩
theorem Zk {u:UnT.D}(h:Zj u=true):0 < nb u:=(Zqi h).2.2.2
theorem Z3b {u:UnT.D}(hz:Zli u)(hsb:Zj u=true)(hst:Zsm u=true){s:StS}(hs:Zcd u=some s)(hv:Zp4 u s.1=true)(he:Zm1 u=true)(hl:Zni u=true):Ya u:=by
 have hS:=Zex hs
 have hb0:0 < nb u:=Zk hsb
 have hvv:∀ n < nv u,Zve u s.1 n=true:=Zcj.1 hv
 refine⟨fun i hi=>⟨(hz.b _ (Zfy hi)).1,fun n hn=>?_⟩,fun i hi p hp=>?_,fun n hn=>?_,fun n hn=>hz.v _ (Zhc hn),fun i hi n hn h21=>?_,fun n hn hlv=>?_,fun k hk=>?_,fun i hi h2=>?_,fun i hi h3=>?_⟩
 ·obtain⟨q,hq,rfl⟩:=List.mem_iff_getElem.1 hn
  obtain⟨x,h1,h2,_⟩:=hS.at_ i hi q hq
  rw [List.getD_eq_getElem?_getD,List.getElem?_eq_getElem hq] at h1
  have h1':(vlD u i)[q]=(x:Int):=h1
  rw [h1'];omega
 ·rw [← (Zyq hl hb0 i hi).1] at hp
  exact Zge u i p hp
 ·have:=hvv n hn
  unfold Zve at this
  rw [Bool.and_eq_true,Bool.and_eq_true,Bool.and_eq_true] at this
  exact Zgi this.1.1.2
 ·obtain⟨q,hq,rfl⟩:=List.mem_iff_getElem.1 hn
  obtain⟨x,h1,h2,h4,_⟩:=hS.at_ i hi q hq
  rw [List.getD_eq_getElem?_getD,List.getElem?_eq_getElem hq] at h1
  have h1':(vlD u i)[q]=(x:Int):=h1
  rw [h1'] at h21 ⊢
  have:=hvv x h2
  unfold Zve at this
  rw [Bool.and_eq_true,if_neg (by rw [h21];decide),if_pos h21,h4] at this
  have:=of_decide_eq_true this.2
  rw [this]
  unfold Zlg
  rw [Int.toNat_natCast]
 ·have:=hvv n hn
  unfold Zve at this
  rw [Bool.and_eq_true,Bool.and_eq_true,hlv] at this
  exact Zbe.1 (by simpa using this.1.2)
 ·have:=Zcj.1 hst k hk
  unfold Zee at this
  simp only [Bool.and_eq_true,Bool.not_eq_true',decide_eq_false_iff_not] at this
  obtain⟨⟨h1,h2⟩,h3⟩:=this
  refine⟨by omega,fun f hf=>?_⟩
  have:=List.all_eq_true.1 h3 f hf
  unfold Zh5 at this
  simp only [Bool.and_eq_true,Bool.not_eq_true',decide_eq_false_iff_not] at this
  obtain⟨⟨⟨g1,g2⟩,g3⟩,g4⟩:=this
  exact⟨by omega,by omega,Zgi g3,Zgi g4⟩
 ·obtain⟨_,g⟩:=Zjm (Zcj.1 he i hi)
  rcases g with⟨g1,_⟩ | ⟨_,_,g⟩ | ⟨g1,_⟩
  ·rw [g1] at h2;exact absurd h2 (by decide)
  ·exact Zgi g _ (by simp)
  ·rw [g1] at h2;exact absurd h2 (by decide)
 ·obtain⟨_,g⟩:=Zjm (Zcj.1 he i hi)
  rcases g with⟨g1,_⟩ | ⟨g1,_⟩ | ⟨_,_,g⟩
  ·rw [g1] at h3;exact absurd h3 (by decide)
  ·rw [g1] at h3;exact absurd h3 (by decide)
  ·exact g
end Go.Proofs.YtcgmchechmbmeaaDoor.base
end
section
set_option maxRecDepth 100000
namespace Go.Proofs.YtcgmchechmbmeaaDoor.base
open Go.Sh gen
variable {S:Zb4}{m:Mem}
def Zjj (u:UnT.D):Option StS:=
 if Zj u && Zsm u then (Zcd u).filter fun s=>Zp4 u s.1 && Zm1 u && Zni u else none
def Zht (u:UnT.D)(O I:List Int):Bool:=match Zjj u with
 | none=>false
 | some s=>decide (O.length=nb u) && Zdo (Zhp u s.1 s.2.1 I) 0 (nb u)
structure Zw0 (u:UnT.D)(O I:List Int):Prop where
 ord:∃ D O',Zln u D (Zp2 u)=some O'∧O'.reverse=O
 on:O.length=nb u→∀ x∈O,(0:Int)≤x∧x < nb u
 dom:O.length=nb u→∃ J D2 I',Z82 u (Zgl (nb u) O) (O.drop 1) J∧J 0 ((List.replicate (nb u) (-1)).set 0 0)∧Zgr u (Zgl (nb u) O) (O.drop 1) D2 ((List.replicate (nb u) (-1)).set 0 0,true)=some I'∧I=I'.set 0 (-1)
 ii:O.length=nb u→I.length=nb u∧∀ x < nb u,I.getD x 0 < nb u
 up:O.length=nb u→∀ (a:Int) (b:Nat),b < nb u→∃ d,d < nb u+2∧Zk4 I a d b=some (upF I a (nb u+2) b)
structure Nk (S:Zb4):Prop where
 check:S 11=[]
 all:S 33=[]
 state:S 34=[]
 stand:S 35=[]
 ends:S 37=[]
 om:S 39=[]
 c:Nc S
 l:Nl S
 d:Nd S
 t:Nt S
theorem Z59 (hN:Nk S){Q:Nat→Prop}{u:UnT.D}{vo bo so:Option Addr}(hU:UAt Q m u vo bo so)(hQ:∀ f,Q f→f < m.next)(hb0:0 < nb u)(hnb:nb u≤1000)(hnx:Zm4 u)
  {D:Nat} {O:List Int} (hO:Zln u D (Zp2 u)=some O) {cb cf:Nat} {r1 r2 r3:Value} (hC:Own m cb (ckC u vo bo so r1 r2 r3) 70 cf) :
  ∃ v m1,Zaq Tryd.prog TT S 39 [.pointer (some ⟨cb,0,none⟩)] m=some (v,m1)∧Z9u m m1 O.reverse v∧Zaa m m1 []:=by
 have lu:=hC.load (off:=0) 5 (by simp)
 simp [Zao] at lu
 have hcu:(Za1 u vo bo so).toArray=#[.int .i64 u.1,.int .i64 u.2.1,.slice vo (nv u) (nv u),.slice bo (nb u) (nb u),.slice so (ns u) (ns u)]:=rfl
 obtain⟨v,m1,c1,p1,k1⟩:=Zqj hN.d.order hN.d.below hN.d.rev hU hQ hb0 hnb hnx hO
 rw [hcu] at c1
 refine Zhk 3 [] k39 hN.om rfl ?_
 simp [-Int.natCast_add,-List.map_reverse,lu,c1]
 exact⟨p1,k1⟩
set_option maxHeartbeats 16000000 in
theorem Zxt (hN:Nk S){Q:Nat→Prop}{u:UnT.D}{vo bo so:Option Addr}(hU:UAt Q m u vo bo so)(hQ:∀ f,Q f→f < m.next)(hz:Zli u)(hzv:nv u≤20000000000000)(hzb:nb u≤20000000000000)(hzs:ns u≤20000000000000){O I:List Int}(hT:∀ s,Zjj u=some s→Zw0 u O I) :
  ∃ v m1,Zaq Tryd.prog TT S 11 [.agg (Za1 u vo bo so).toArray] m=some (v,m1)∧v=.bool (Zht u O I)∧Zaa m m1 []:=by
 obtain⟨oU,kU,nU⟩:=Zar (m:=m) (cs:=Za1 u vo bo so) (e:=29) rfl
 obtain⟨mB,hmB⟩:∃ mB,m.new (Za1 u vo bo so) 29=mB:=⟨_,rfl⟩
 obtain⟨ub,hub⟩:∃ ub,m.next=ub:=⟨_,rfl⟩
 rw [hmB,hub] at oU nU
 rw [hmB] at kU
 have u2:=oU.load1 (off:=2) rfl
 have u3:=oU.load1 (off:=3) rfl
 have u4:=oU.load1 (off:=4) rfl
 have lu:=oU.load (off:=0) 5 (by simp)
 simp [Zao] at lu
 obtain⟨R,hR⟩:∃ R,Zht u O I=R:=⟨_,rfl⟩
 rw [hR]
 have hno:Zjj u=none→R=false:=fun h=>by rw [← hR];unfold Zht;rw [h]
 refine Zhk 5 [26,72,80] k11 hN.check rfl ?_
 have hcu:(Za1 u vo bo so).toArray=#[.int .i64 u.1,.int .i64 u.2.1,.slice vo (nv u) (nv u),.slice bo (nb u) (nb u),.slice so (ns u) (ns u)]:=rfl
 by_cases q1:3000 < nv u
 ·have q1':(3000:Int) < nv u:=by omega
  have:R=false:=hno (by unfold Zjj Zj;simp [q1])
  rw [this]
  simp [-Int.natCast_add,Zbn b29,hmB,hub,u2,q1']
  exact kU
 have q1':¬ (3000:Int) < nv u:=by omega
 by_cases q2:300 < nb u
 ·have q2':(300:Int) < nb u:=by omega
  have:R=false:=hno (by unfold Zjj Zj;simp [q2])
  rw [this]
  simp [-Int.natCast_add,Zbn b29,hmB,hub,u2,u3,q1',q2']
  exact kU
 have q2':¬ (300:Int) < nb u:=by omega
 by_cases q3:1000 < ns u
 ·have q3':(1000:Int) < ns u:=by omega
  have:R=false:=hno (by unfold Zjj Zj;simp [q3])
  rw [this]
  simp [-Int.natCast_add,Zbn b29,hmB,hub,u2,u3,u4,q1',q2',q3']
  exact kU
 have q3':¬ (1000:Int) < ns u:=by omega
 by_cases q4:nb u=0
 ·have:R=false:=hno (by unfold Zjj Zj;simp [q4])
  rw [this]
  simp [-Int.natCast_add,Zbn b29,hmB,hub,u2,u3,u4,q1',q3',q4]
  exact kU
 have q4':¬ (nb u:Int)=0:=by omega
 have hsz:Zj u=true:=by unfold Zj;rw [decide_eq_false q1,decide_eq_false q2,decide_eq_false q3,decide_eq_false q4];rfl
 obtain⟨oK,kK,nK⟩:=Zar (m:=mB) (cs:=ckC u vo bo so (.slice none 0 0) (.slice none 0 0) (.slice none 0 0)) (e:=70) rfl
 obtain⟨mK,hmK⟩:∃ mZ,mB.new (ckC u vo bo so (.slice none 0 0) (.slice none 0 0) (.slice none 0 0)) 70=mZ:=⟨_,rfl⟩
 obtain⟨cb,hcb⟩:∃ ub,mB.next=ub:=⟨_,rfl⟩
 rw [hmK,hcb] at oK nK
 rw [hmK] at kK
 have KK:=kU.trans kK
 have hUK:=hU.keep KK (by simp)
 have hQK:∀ f,Q f→f < cb:=fun f hf=>by have:=hQ f hf;omega
 have hqc:¬ Q cb:=fun h=>by have:=hQK _ h;omega
 have oUK:=oU.keep kK (by simp)
 have uK4:=oUK.load1 (off:=4) rfl
 simp [-Int.natCast_add,-w11_4,Zbn b29,Zax Ybe,Zbn b70,hmB,hub,u2,u3,u4,q1',q2',q3',q4,lu,hmK,hcb]
 clear u2 u3 u4 lu
 have ubc:ub≠cb:=by omega
 obtain⟨_,m1,c1,rfl,k1⟩:=Zm (m:=mK) (g:=34) (cb:=cb) (n:=ns u) hN.all (by omega) (fun i=>Zee u (stD u i)) (fun i mF hi kF=>by
  obtain⟨_,mG,cG,rfl,kG⟩:=Zy9 hN.state hN.c.there hN.c.below (hUK.keep kF (by simp)) (by omega) (oK.keep kF (by simp)) hi (by omega) (Ziz hi).symm (by rw [Ziz hi];exact (hz.s _ (List.getElem_mem hi)).1) (by rw [Ziz hi];exact (hz.s _ (List.getElem_mem hi)).2)
  exact⟨mG,cG,kG⟩)
 have hst:Zsm u=Zdo (fun i=>Zee u (stD u i)) 0 (ns u):=rfl
 rw [← hst] at c1
 have K1:=KK.trans k1
 cases hsa:Zsm u
 ·rw [hsa] at c1
  have:R=false:=hno (by unfold Zjj;rw [hsa];simp)
  rw [this]
  simp [-Int.natCast_add,uK4,c1]
  exact K1
 rw [hsa] at c1
 have o1:=oK.keep k1 (by simp)
 have hU1:=hU.keep K1 (by simp)
 obtain⟨_,m2,c2,⟨rfl,hst2⟩,k2⟩:=Zx5 hN.stand hN.c.below hU1 (fun f hf=>by have:=hQ f hf;have:=K1.1;omega) (by omega) (by omega) o1 hqc (fun b hb=>(hz.b b hb).1)
 have K2:Zaa m m2 []:=K1.fresh k2 (by simp;omega)
 cases hsf:Zcd u with
 | none =>
  rw [hsf] at c2
  have:R=false:=hno (by unfold Zjj;rw [hsf];simp)
  rw [this]
  simp [-Int.natCast_add,uK4,c1,c2]
  exact K2
 | some s =>
  rw [hsf] at c2
  obtain⟨b1,b2,f1,f2,C2,hf1,hf2⟩:=hst2 s hsf
  have hSo:=Zex hsf
  have oU2:=(oUK.keep k1 (by simp)).keep k2 (by simp;omega)
  have uu2:=oU2.load1 (off:=2) rfl
  have hU2:=hU.keep K2 (by simp)
  obtain⟨_,m3,c3,rfl,k3⟩:=Zm (m:=m2) (g:=36) (cb:=cb) (n:=nv u) hN.all (by omega) (Zve u s.1) (fun i mF hi kF=>by
   obtain⟨_,mG,cG,rfl,kG⟩:=Z31 hN.c (hU2.keep kF (by simp)) (by omega) (by omega) (by omega) (C2.keep0 kF) hSo.lb hSo.bb hi (hz.v _ (Zhc hi))
   exact⟨mG,cG,kG⟩)
  have hvl:Zp4 u s.1=Zdo (Zve u s.1) 0 (nv u):=rfl
  rw [← hvl] at c3
  have K3:=K2.trans k3
  cases hva:Zp4 u s.1
  ·rw [hva] at c3
   have:R=false:=hno (by unfold Zjj;rw [hsf,hsz,hsa];simp [Option.filter,hva])
   rw [this]
   simp [-Int.natCast_add,uK4,c1,c2,uu2,c3]
   exact K3
  rw [hva] at c3
  have oU3:=oU2.keep k3 (by simp)
  have uu3:=oU3.load1 (off:=3) rfl
  have hU3:=hU.keep K3 (by simp)
  have C3:=C2.keep0 k3
  obtain⟨_,m4,c4,rfl,k4⟩:=Zm (m:=m3) (g:=37) (cb:=cb) (n:=nb u) hN.all (by omega) (fun i=>Zhn u (Zda u i)) (fun i mF hi kF=>by
   obtain⟨_,mG,cG,rfl,kG⟩:=Z0u hN.ends hN.c.there hN.c.below (hU3.keep kF (by simp)) (by omega) (by omega) ((C3.keep0 kF).c) hi (Zb2 hi).symm (hz.b _ (Zfy hi)).2.1
   exact⟨mG,cG,kG⟩)
  have hel:Zm1 u=Zdo (fun i=>Zhn u (Zda u i)) 0 (nb u):=rfl
  rw [← hel] at c4
  have K4:=K3.trans k4
  cases hea:Zm1 u
  ·rw [hea] at c4
   have:R=false:=hno (by unfold Zjj;rw [hsf,hsz,hsa];simp [Option.filter,hva,hea])
   rw [this]
   simp [-Int.natCast_add,uK4,c1,c2,uu2,c3,uu3,c4]
   exact K4
  rw [hea] at c4
  have oU4:=oU3.keep k4 (by simp)
  have vv3:=oU4.load1 (off:=3) rfl
  have hU4:=hU.keep K4 (by simp)
  have C4:=C3.keep0 k4
  have hnx:=Zpy hea
  obtain⟨_,m5,c5,rfl,k5⟩:=Zm (m:=m4) (g:=38) (cb:=cb) (n:=nb u) hN.all (by omega) (Zwi u) (fun i mF hi kF=>by
   obtain⟨_,mG,cG,rfl,kG⟩:=Z3t hN.l (hU4.keep kF (by simp)) (fun f hf=>by have:=hQ f hf;have:=K4.1;have:=kF.1;omega) (by omega) hnx (fun b hb=>(hz.b b hb).2.2) ((C4.keep0 kF).c) hi
   exact⟨mG,cG,kG⟩)
  have hll:Zni u=Zdo (Zwi u) 0 (nb u):=rfl
  rw [← hll] at c5
  have K5:=K4.trans k5
  cases hla:Zni u
  ·rw [hla] at c5
   have:R=false:=hno (by unfold Zjj;rw [hsf,hsz,hsa];simp [Option.filter,hva,hea,hla])
   rw [this]
   simp [-Int.natCast_add,uK4,c1,c2,uu2,c3,uu3,c4,vv3,c5]
   exact K5
  rw [hla] at c5
  have hpre:Zjj u=some s:=by unfold Zjj;rw [hsf,hsz,hsa];simp [Option.filter,hva,hea,hla]
  simp [-Int.natCast_add,-w11_6,uK4,c1,c2,uu2,c3,uu3,c4,vv3,c5]
  clear c1 c2 c3 c4 c5 uK4 uu2 uu3 vv3
  have oU5:=oU4.keep k5 (by simp)
  have hU5:=hU.keep K5 (by simp)
  have C5:=C4.keep0 k5
  have hTm:=hT s hpre
  obtain⟨D,O',hO',hOO⟩:=hTm.ord
  obtain⟨vO,m6,c6,⟨po,pf,rfl,_,_⟩,k6⟩:=Z59 (O:=O') hN hU5 (fun f hf=>by have:=hQ f hf;have:=K5.1;omega) (by omega) (by omega) hnx hO' C5.c
  rw [hOO] at c6
  have oU6:=oU5.keep k6 (by simp)
  have w3:=oU6.load1 (off:=3) rfl
  have wu:=oU6.load (off:=0) 5 (by simp)
  simp [Zao] at wu
  have hU6:=hU5.keep k6 (by simp)
  have C6:=C5.keep0 k6
  have K6:=K5.trans k6
  by_cases hOl:O.length=nb u
  case neg =>
   have hOl':¬ (O.length:Int)=nb u:=by omega
   have:R=false:=by rw [← hR];unfold Zht;rw [hpre];simp [hOl]
   rw [this]
   simp [-Int.natCast_add,c6,w3,hOl']
   exact K6
  have hOl':(O.length:Int)=nb u:=by omega
  have hOle:((O.length:Int)=nb u)↔True:=by simp [hOl']
  obtain⟨J,D2,I',hJ,hJ0,hD,hI⟩:=hTm.dom hOl
  obtain⟨hIl,hIi⟩:=hTm.ii hOl
  obtain⟨vD,m7,c7,⟨ix,rfl,hix,hixm⟩,k7⟩:=Z48 hN.d hU6 (fun f hf=>by have:=hQ f hf;have:=K6.1;omega) (by omega) (by omega) hnx hO' hOO (hTm.on hOl) (fun e=>by rw [e] at hOl;simp at hOl;omega) (by omega) rfl hJ hJ0 hD
  rw [← hI] at hix
  rw [hcu] at c7
  have K7:=K6.trans k7
  have C7:=C6.keep0 k7
  have cb6:cb < m6.next:=C6.c.flt
  obtain⟨m8,e8,o8,k8⟩:=Zap (r:=_) rfl C7.c (off:=7) (vs:=[.slice (some ⟨ix,0,none⟩) (nb u) (nb u)]) (by simp) (by simp [Zae])
  simp [Zbx] at o8
  have K8:Zaa m m8 []:=K7.fresh k8 (by simp;omega)
  have C8:Ck3 m8 u vo bo so cb cb b1 b2 f1 f2 ix s.1 s.2.1 I:=⟨⟨C7.o1.keep k8 (by simpa using C7.n2),C7.o2.keep k8 (by simpa using C7.n3),o8,C7.n1,C7.n2,C7.n3⟩,hix.keep k8 (by simp;omega)⟩
  have hU8:=hU.keep K8 (by simp)
  have oU8:=(oU6.keep k7 (by simp)).keep k8 (by simp;omega)
  have x3:=oU8.load1 (off:=3) rfl
  have hRk:Rok u s.1 s.2.1 I:=⟨hSo.lb,hSo.lp,hIl,hSo.bb,hIi,hTm.up hOl⟩
  have hTk:=Z3b hz hsz hsa hsf hva hea hla
  obtain⟨_,m9,c9,rfl,k9⟩:=Zm (m:=m8) (g:=41) (cb:=cb) (n:=nb u) hN.all (by omega) (Zhp u s.1 s.2.1 I) (fun i mF hi kF=>by
   obtain⟨_,mG,cG,rfl,kG⟩:=Zwr hN.t (hU8.keep kF (by simp)) (C8.keep0 kF) hRk (by omega) (by omega) (by omega) hTk hi
   exact⟨mG,cG,kG⟩)
  have hfin:R=Zdo (Zhp u s.1 s.2.1 I) 0 (nb u):=by rw [← hR];unfold Zht;rw [hpre];simp [hOl]
  rw [← hfin] at c9
  simp [-Int.natCast_add,c6,w3,hOle,wu,c7,e8,x3,c9]
  exact K8.trans k9
end Go.Proofs.YtcgmchechmbmeaaDoor.base
end
section
set_option maxRecDepth 100000
namespace Go.Proofs.YtcgmchechmbmeaaDoor.base
open Go.Sh gen
variable {S:Zb4}{m:Mem}
theorem Zhs (hS:S 51=[])(k n:Int):Zaq Tryd.prog TT S 51 [.int .i64 k,.int .i64 n] m=some (.bool (Zas k n),m):=by
 refine Zlm 5 [] k51 hS rfl ?_
 by_cases h1:0≤k
 ·simp [h1,Zas]
 ·simp [h1,Zas]
def Zgj (op:Int):Bool:=decide (op < 19) || decide (op=21)
theorem Zmu (hS:S 52=[])(op:Int):Zaq Tryd.prog TT S 52 [.int .i64 op] m=some (.bool (Zgj op),m):=by
 refine Zlm 3 [] k52 hS rfl ?_
 by_cases h1:op < 19
 ·simp [h1,Zgj]
 ·simp [h1,Zgj]
theorem Z5s {op:Int}(h:Zc5 op=true)(h20:op≠20):op=3∨op=4∨op=5∨op=6∨op=7∨op=10∨op=11∨op=12∨op=13∨op=14∨op=18∨op=19:=by
 simp [Zc5] at h;omega
theorem Z7t {op:Int}(h:Zgd op=true):op=8∨op=9∨op=15∨op=16∨op=17∨op=22:=by
 simp [Zgd] at h;omega
theorem Zo6 {m:Mem}{Q:Nat→Prop}(l:List Int)(hQ:Q m.next):Zah Q (m.new (ints l) 3) (some ⟨m.next,0,none⟩) l:=⟨m.next,Zp1 (Z6l l l.length rfl),fun _=>hQ⟩
theorem Zah.mono {Q Q':Nat→Prop}{ao:Option Addr}{l:List Int}(h:Zah Q m ao l)(hq:∀ f,Q f→Q' f):Zah Q' m ao l:=by
 obtain⟨f,h1,h2⟩:=h
 exact⟨f,h1,fun hn=>hq _ (h2 hn)⟩
theorem Zah.nil {Q:Nat→Prop}:Zah Q m none []:=⟨0,Zp1 (Sl.nil m 3 1 0).rs,fun h=>absurd rfl h⟩
def Ybc (Q:Nat→Prop)(m m1:Mem)(l:List Int)(v:Value):Prop:=∃ ao,v=.slice ao l.length l.length∧Zah (fun f=>Q f∨m.next≤f) m1 ao l
set_option maxHeartbeats 4000000 in
theorem Zp7 (hS:S 17=[]){Q:Nat→Prop}{op a b n st:Int}{l:List Int}{ao:Option Addr}(hl:l.length≤9223372036854775807)(hr:Zah Q m ao l) :
  ∃ v m1,Zaq Tryd.prog TT S 17 [.agg #[.int .i64 op,.int .i64 a,.int .i64 b,.int .i64 n,.slice ao l.length l.length,.int .i64 st]] m=some (v,m1)∧Ybc Q m m1 (Zcm op a b l) v∧Zaa m m1 []:=by
 obtain⟨N,hN⟩:∃ N,l.length=N:=⟨_,rfl⟩
 rw [hN] at hl ⊢
 obtain⟨o1,k1,n1⟩:=Zar (m:=m) (cs:=[.int .i64 op,.int .i64 a,.int .i64 b,.int .i64 n,.slice ao N N,.int .i64 st]) (e:=43) rfl
 obtain⟨m1,hm1⟩:∃ m1,m.new [.int .i64 op,.int .i64 a,.int .i64 b,.int .i64 n,.slice ao N N,.int .i64 st] 43=m1:=⟨_,rfl⟩
 obtain⟨vb,hvb⟩:∃ vb,m.next=vb:=⟨_,rfl⟩
 rw [hm1] at k1
 rw [hm1,hvb] at o1 n1
 have l0:=o1.load1 (off:=0) rfl
 have l1:=o1.load1 (off:=1) rfl
 have l2:=o1.load1 (off:=2) rfl
 have l4:=o1.load1 (off:=4) rfl
 have kn:=k1.1
 have two:∃ m2,m1.new (ints [a,b]) 3=m2∧Zah (fun f=>Q f∨m.next≤f) m2 (some ⟨m1.next,0,none⟩) [a,b]∧Zaa m m2 []:=by
  obtain⟨o2,k2,n2⟩:=Zar (m:=m1) (cs:=ints [a,b]) (e:=3) rfl
  exact⟨_,rfl,Zo6 [a,b] (Or.inr (by omega)),k1.trans k2⟩
 obtain⟨m2,hm2,i2,k2⟩:=two
 have one:∃ m3,m1.new (ints [a]) 3=m3∧Zah (fun f=>Q f∨m.next≤f) m3 (some ⟨m1.next,0,none⟩) [a]∧Zaa m m3 []:=by
  obtain⟨o2,k2,n2⟩:=Zar (m:=m1) (cs:=ints [a]) (e:=3) rfl
  exact⟨_,rfl,Zo6 [a] (Or.inr (by omega)),k1.trans k2⟩
 obtain⟨m3,hm3,i3,k3⟩:=one
 obtain⟨bb,hbb⟩:∃ bb,m1.next=bb:=⟨_,rfl⟩
 rw [hbb] at i2 i3
 simp only [ints,List.map_cons,List.map_nil] at hm2 hm3
 refine Zhk 5 [5,5,5,5,5,5,5,5,5,5,5,5,23,23,23,23,23,23,33,38,53] k17 hS rfl ?_
 by_cases h20:op=20
 ·subst h20
  by_cases hl0:N=0
  ·subst hl0
   have el:l=[]:=List.length_eq_zero_iff.1 hN
   have eu:Zcm 20 a b l=[a,b]:=by rw [el];rfl
   rw [eu]
   simp [-Int.natCast_add,Zbn b43,Za u22 bs3 rfl,hm1,hvb,l0,l1,l2,l4,hm2,hbb]
   exact⟨⟨_,rfl,i2⟩,k2⟩
  ·have hl0':¬ (N:Int)=0:=by omega
   have hl1:(0:Int) < N:=by omega
   have hl2:0 < N:=by omega
   obtain⟨rb,rfl,ld⟩:=(hr.keep k1 (by simp)).get (show 0 < l.length by omega)
   obtain⟨x,r,hxr⟩:∃ x r,l=x::r:=by
    cases l with
    | nil=>exact absurd hN.symm hl0
    | cons x r=>exact⟨x,r,rfl⟩
   have ex:l.getD 0 0=x:=by rw [hxr];rfl
   rw [ex,Nat.add_zero] at ld
   have eu:Zcm 20 a b l=[a,b,x]:=by rw [hxr];rfl
   rw [eu]
   obtain⟨o4,k4,n4⟩:=Zar (m:=m1) (cs:=ints [a,b,x]) (e:=3) rfl
   have i4:Zah (fun f=>Q f∨m.next≤f) (m1.new (ints [a,b,x]) 3) (some ⟨m1.next,0,none⟩) [a,b,x]:=Zo6 [a,b,x] (Or.inr (by omega))
   obtain⟨m4,hm4⟩:∃ m4,m1.new (ints [a,b,x]) 3=m4:=⟨_,rfl⟩
   rw [hm4,hbb] at i4
   rw [hm4] at k4
   simp only [ints,List.map_cons,List.map_nil] at hm4
   have hl3:(N:Int)≤9223372036854775807:=by omega
   simp [-Int.natCast_add,Zbn b43,Za u22 bs3 rfl,hm1,hvb,l0,l1,l2,l4,hl2,hm4,hbb,ld,hl0]
   exact⟨⟨_,rfl,i4⟩,k1.trans k4⟩
 by_cases h2:Zc5 op=true
 ·have eu:Zcm op a b l=[a,b]:=by
   unfold Zcm;rw [if_pos h2,if_neg h20,if_neg (fun h=>by subst h;simp [Zc5] at h2)];rfl
  rw [eu]
  rcases Z5s h2 h20 with h | h | h | h | h | h | h | h | h | h | h | h
  all_goals
   subst h
   simp [-Int.natCast_add,Zbn b43,Za u22 bs3 rfl,hm1,hvb,l0,l1,l2,hm2,hbb]
   exact⟨⟨_,rfl,i2⟩,k2⟩
 by_cases h1:Zgd op=true
 ·have eu:Zcm op a b l=[a]:=by
   unfold Zcm;rw [if_neg h2,if_pos h1,if_neg h20,if_neg (fun h=>by subst h;simp [Zgd] at h1)];rfl
  rw [eu]
  rcases Z7t h1 with h | h | h | h | h | h
  all_goals
   subst h
   simp [-Int.natCast_add,Zbn b43,Za u22 bs3 rfl,hm1,hvb,l0,l1,hm3,hbb]
   exact⟨⟨_,rfl,i3⟩,k3⟩
 have t1:op≠3∧op≠4∧op≠5∧op≠6∧op≠7∧op≠10∧op≠11∧op≠12∧op≠13∧op≠14∧op≠18∧op≠19:=by
  simp [Zc5] at h2;omega
 have t2:op≠8∧op≠9∧op≠15∧op≠16∧op≠17∧op≠22:=by
  simp [Zgd] at h1;omega
 obtain⟨a1,a2,a3,a4,a5,a6,a7,a8,a9,a10,a11,a12⟩:=t1
 obtain⟨c1,c2,c3,c4,c5,c6⟩:=t2
 by_cases h21:op=21
 ·subst h21
  have eu:Zcm 21 a b l=l:=rfl
  rw [eu]
  simp [-Int.natCast_add,Zbn b43,hm1,hvb,l0,l4]
  exact⟨⟨_,by rw [hN],(hr.keep k1 (by simp)).mono (fun f h=>Or.inl h)⟩,k1⟩
 have eu:Zcm op a b l=[]:=by
  unfold Zcm;rw [if_neg h2,if_neg h1,if_neg h20,if_neg h21];rfl
 rw [eu]
 simp [-Int.natCast_add,Zbn b43,hm1,hvb,l0,a1,a2,a3,a4,a5,a6,a7,a8,a9,a10,a11,a12,c1,c2,c3,c4,c5,c6,h20,h21]
 exact⟨⟨none,rfl,Zah.nil⟩,k1⟩
def Zgq (a b:List Int):Bool:=decide (a=b)
set_option maxHeartbeats 4000000 in
theorem Zwz (hS:S 28=[]){Q Q2:Nat→Prop}{a b:List Int}{ao bo:Option Addr}(ha:Zah Q m ao a)(hb:Zah Q2 m bo b)(hl:a.length≤9000000000000000000)(hl2:b.length≤9000000000000000000) :
  Zaq Tryd.prog TT S 28 [.slice ao a.length a.length,.slice bo b.length b.length] m=some (.bool (Zgq a b),m):=by
 refine Zlm 6 [10,14,25] k28 hS rfl ?_
 by_cases hn:a.length=b.length
 case neg =>
  have hn':¬ (a.length:Int)=b.length:=by omega
  have e:Zgq a b=false:=by
   unfold Zgq;rw [decide_eq_false_iff_not];intro h;exact hn (by rw [h])
  rw [e]
  simp [-Int.natCast_add,hn']
 have hn':(a.length:Int)=b.length:=by omega
 obtain⟨R,hRe⟩:∃ R,Zgq a b=R:=⟨_,rfl⟩
 rw [hRe]
 simp [-Int.natCast_add,hn]
 refine Zag 6 [10,14,25] (fun d E mF=>∃ (i:Nat),a.length - i=d∧i≤a.length∧mF=m∧Zgq (a.drop i) (b.drop i)=R∧
  E=[(0,.slice ao a.length a.length),(1,.slice bo b.length b.length),(5,.int .i64 (i:Int))]) _ ⟨_,⟨0,rfl,by omega,rfl,by rw [List.drop_zero,List.drop_zero];exact hRe,rfl⟩,⟨by simp [Zbv,hn],by rfl,by rfl,trivial⟩⟩ ?_
 rintro d E mF ih ⟨i,hd,hi,rfl,hr,rfl⟩
 have im:(i:Int)≤9223372036854775807:=by omega
 by_cases hlt:i < a.length
 ·have i1:(i:Int) < a.length:=by omega
  have i2:i < b.length:=by omega
  have i3:(i:Int) < b.length:=by omega
  have wi:IntKind.i64.wrap ((i:Int)+1)=((i+1:Nat):Int):=by rw [Zab (by omega) (by omega)];omega
  obtain⟨ab,rfl,la⟩:=ha.get hlt
  obtain⟨bb,rfl,lb⟩:=hb.get i2
  rw [Za7 hlt,Za7 i2] at hr
  generalize a.getD i 0=x at *
  generalize b.getD i 0=y at *
  by_cases hxy:x=y
  ·subst hxy
   simp [-Int.natCast_add,i1,i2,im,hlt,la,lb,wi]
   exact ih _ _ _ _ ⟨i+1,rfl,by omega,rfl,by rw [← hr];simp [Zgq],rfl⟩ (by omega) ⟨by rfl,by rfl,by rfl,trivial⟩
  ·have:R=false:=by rw [← hr];simp [Zgq,hxy]
   rw [this]
   simp [-Int.natCast_add,i1,i2,im,hlt,la,lb,hxy]
 have i1:¬ (i:Int) < a.length:=by omega
 have:R=true:=by rw [← hr,List.drop_of_length_le (by omega),List.drop_of_length_le (by omega)];rfl
 rw [this]
 simp [-Int.natCast_add,i1]
end Go.Proofs.YtcgmchechmbmeaaDoor.base
end
