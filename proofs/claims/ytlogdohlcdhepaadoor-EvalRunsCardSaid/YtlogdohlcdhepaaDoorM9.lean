/- This text proves, in plain Lean, what it says of a unit that its values stand, and that all that was asked of them holds. No condition. -/
import Derived.Test.YtlogdohlcdhepaaDoorM8
set_option linter.unusedVariables false
set_option linter.unusedSimpArgs false
section
set_option maxRecDepth 100000
namespace Go.Proofs.YtlogdohlcdhepaaDoor.base
open Go.Sh gen
def Z26 (l:List Int):Nat:=l.countP fun x=>decide (0≤x)
theorem Z02 {l:List Int}{k:Nat}{b:Int}(hk:k < l.length)(h:l.getD k 0 < 0)(hb:0≤b):Z26 (l.set k b)=Z26 l+1:=by
 unfold Z26
 induction l generalizing k with
 | nil=>simp at hk
 | cons a r ih =>
  cases k with
  | zero =>
   simp at h
   rw [List.set_cons_zero,List.countP_cons,List.countP_cons,if_pos (by simpa using hb),if_neg (by simpa using h)]
  | succ k =>
   rw [List.set_cons_succ,List.countP_cons,List.countP_cons,ih (by simpa using hk) (by simpa using h)]
   omega
structure Z1p (u:UnT.D)(n:Nat)(s:StS):Prop where
 lb:s.1.length=nv u
 lp:s.2.1.length=nv u
 ct:s.2.2.2=Z26 s.1
 le:∀ i < nv u,s.1.getD i 0 < n
theorem Zg3 {u:UnT.D}{b k:Nat}{s s':StS}{v:Int}(h:Zgd u b k s v=some s'):∃ n:Nat,v=(n:Int)∧n < nv u∧s.1.getD n 0 < 0∧s'=(s.1.set n b,s.2.1.set n k,Zaq (Za1 u v).1,s.2.2.2+1)∧
  ¬ (Zaq (Za1 u v).1 && !s.2.2.1=true∨(decide ((Za1 u v).1=1) != decide (b=0)) && Zaq (Za1 u v).1=true):=by
 unfold Zgd at h
 split at h
 ·cases h
 ·rename_i h1
  split at h
  ·cases h
  ·rename_i h2
   simp only [Bool.or_eq_true,Bool.not_eq_true',decide_eq_true_eq,not_or] at h1
   obtain⟨h1,h3⟩:=h1
   have h1':Zc v (nv u)=true:=by simpa using h1
   unfold Zc at h1'
   simp only [Bool.and_eq_true,decide_eq_true_eq] at h1'
   refine⟨v.toNat,by omega,by omega,by omega,?_,by simpa using h2⟩
   simpa using h.symm
theorem Z1p.step {u:UnT.D}{N b k:Nat}{s s':StS}{v:Int}(hi:Z1p u N s)(hb:b < N)(h:Zgd u b k s v=some s'):Z1p u N s':=by
 obtain⟨n,rfl,hn,hneg,rfl,_⟩:=Zg3 h
 refine⟨by simpa using hi.lb,by simpa using hi.lp,?_,?_⟩
 ·dsimp only
  rw [Z02 (by rw [hi.lb];exact hn) hneg (by omega),hi.ct]
 ·intro i hiv
  dsimp only
  rw [Zbe _ _ _ _ (by rw [hi.lb];exact hn)]
  split
  ·omega
  ·exact hi.le i hiv
theorem Zss {u:UnT.D}{b k:Nat}{s s':StS}{v:Int}(hl:s.1.length=nv u∧s.2.1.length=nv u)(h:Zgd u b k s v=some s'){i:Nat}(h0:0≤s.1.getD i 0):s'.1.getD i 0=s.1.getD i 0∧s'.2.1.getD i 0=s.2.1.getD i 0:=by
 obtain⟨n,rfl,hn,hneg,rfl,_⟩:=Zg3 h
 dsimp only
 have hne:n≠i:=by intro e;rw [e] at hneg;omega
 rw [Zbe _ _ _ _ (by rw [hl.1];exact hn),if_neg hne,Zbe _ _ _ _ (by rw [hl.2];exact hn),if_neg hne]
 exact⟨rfl,rfl⟩
theorem Zve {u:UnT.D}{N b:Nat}(hb:b < N){l:List Int}{k:Nat}{s s':StS}(hi:Z1p u N s)(h:Zek u b k l s=some s') :
  Z1p u N s'∧(∀ i,0≤s.1.getD i 0→s'.1.getD i 0=s.1.getD i 0∧s'.2.1.getD i 0=s.2.1.getD i 0)∧
  (∀ j < l.length,∃ n:Nat,l.getD j 0=(n:Int)∧n < nv u∧s'.1.getD n 0=b∧s'.2.1.getD n 0=((k+j:Nat):Int)):=by
 induction l generalizing k s with
 | nil =>
  rw [Zek,Option.some.injEq] at h
  subst h
  exact⟨hi,fun i _=>⟨rfl,rfl⟩,fun j hj=>by simp at hj⟩
 | cons v r ih =>
  rw [Zek] at h
  cases hv:Zgd u b k s v with
  | none=>rw [hv] at h;cases h
  | some s1 =>
   rw [hv,Option.bind_some] at h
   have i1:=hi.step hb hv
   obtain⟨a1,a2,a3⟩:=ih i1 h
   have kp:=fun {i:Nat}=>Zss (i:=i) ⟨hi.lb,hi.lp⟩ hv
   refine⟨a1,fun i h0=>?_,fun j hj=>?_⟩
   ·have k1:=kp h0
    have k2:=a2 i (by rw [k1.1];exact h0)
    exact⟨k2.1.trans k1.1,k2.2.trans k1.2⟩
   ·cases j with
    | zero =>
     obtain⟨n,rfl,hn,hneg,e1,_⟩:=Zg3 hv
     have e2:s1.1.getD n 0=b:=by rw [e1];dsimp only;rw [Zbe _ _ _ _ (by rw [hi.lb];exact hn),if_pos rfl]
     have e3:s1.2.1.getD n 0=k:=by rw [e1];dsimp only;rw [Zbe _ _ _ _ (by rw [hi.lp];exact hn),if_pos rfl]
     have k2:=a2 n (by rw [e2];omega)
     exact⟨n,rfl,hn,k2.1.trans e2,k2.2.trans e3⟩
    | succ j =>
     obtain⟨n,g1,g2,g3,g4⟩:=a3 j (by simpa using hj)
     exact⟨n,by simpa using g1,g2,g3,by rw [g4];omega⟩
theorem Znz {u:UnT.D}{N:Nat}{bs:List Zfk.D}{b:Nat}{s s':StS}(hN:b+bs.length≤N)(hi:Z1p u N s)(h:Zdl u b bs s=some s') :
  Z1p u N s'∧(∀ i,0≤s.1.getD i 0→s'.1.getD i 0=s.1.getD i 0∧s'.2.1.getD i 0=s.2.1.getD i 0)∧
  (∀ (j:Nat) (x:Zfk.D),bs[j]?=some x→∀ q < List.length x.1,∃ n:Nat,(show List Int from x.1).getD q 0=(n:Int)∧n < nv u∧s'.1.getD n 0=((b+j:Nat):Int)∧s'.2.1.getD n 0=(q:Int)):=by
 induction bs generalizing b s with
 | nil =>
  rw [Zdl,Option.some.injEq] at h
  subst h
  exact⟨hi,fun i _=>⟨rfl,rfl⟩,fun j x hj=>by simp at hj⟩
 | cons y r ih =>
  rw [Zdl] at h
  cases hv:Zek u b 0 y.1 (s.1,s.2.1,true,s.2.2.2) with
  | none=>rw [hv] at h;cases h
  | some s1 =>
   rw [hv,Option.bind_some] at h
   rw [List.length_cons] at hN
   obtain⟨i1,i2,i3⟩:=Zve (N:=N) (by omega) (s:=(s.1,s.2.1,true,s.2.2.2)) ⟨hi.lb,hi.lp,hi.ct,hi.le⟩ hv
   obtain⟨a1,a2,a3⟩:=ih (by omega) i1 h
   refine⟨a1,fun i h0=>?_,fun j x hj q hq=>?_⟩
   ·have k1:=i2 i h0
    have k2:=a2 i (by rw [k1.1];exact h0)
    exact⟨k2.1.trans k1.1,k2.2.trans k1.2⟩
   ·cases j with
    | zero =>
     simp at hj
     subst hj
     obtain⟨n,g1,g2,g3,g4⟩:=i3 q hq
     have k2:=a2 n (by rw [g3];omega)
     exact⟨n,g1,g2,k2.1.trans (by rw [g3,Nat.add_zero]),k2.2.trans (by rw [g4,Nat.zero_add])⟩
    | succ j =>
     obtain⟨n,g1,g2,g3,g4⟩:=a3 j x (by simpa using hj) q hq
     exact⟨n,g1,g2,by rw [g3];omega,g4⟩
structure Zj8 (u:UnT.D)(bl pl:List Int):Prop where
 lb:bl.length=nv u
 lp:pl.length=nv u
 bb:∀ i < nv u,0≤bl.getD i 0∧bl.getD i 0 < nb u
 at_:∀ b < nb u,∀ q < (vlD u b).length,∃ n:Nat,(vlD u b).getD q 0=(n:Int)∧n < nv u∧bl.getD n 0=(b:Int)∧pl.getD n 0=(q:Int)
theorem Zho {u:UnT.D}{s:StS}(h:Zdm u=some s):Zj8 u s.1 s.2.1:=by
 unfold Zdm at h
 cases hB:Zdl u 0 u.2.2.2.1 (List.replicate (nv u) (-1),List.replicate (nv u) 0,true,0) with
 | none=>rw [hB] at h;cases h
 | some s1 =>
  rw [hB] at h
  have h2:=(Option.filter_eq_some_iff.1 h)
  obtain⟨h3,h4⟩:=h2
  simp only [Option.some.injEq] at h3
  subst h3
  have i0:Z1p u (nb u) (List.replicate (nv u) (-1),List.replicate (nv u) 0,true,0):=by
   refine⟨by simp,by simp,?_,fun i hi=>?_⟩
   ·simp [Z26,List.countP_replicate]
   ·dsimp only
    rw [List.getD_eq_getElem?_getD,List.getElem?_replicate,if_pos hi]
    simp
    omega
  obtain⟨a1,_,a3⟩:=Znz (N:=nb u) (by rw [Nat.zero_add];exact Nat.le_refl _) i0 hB
  have hc:Z26 s1.1=s1.1.length:=by rw [a1.lb,← a1.ct];simpa using h4
  refine⟨a1.lb,a1.lp,fun i hi=>⟨?_,a1.le i hi⟩,fun b hb q hq=>?_⟩
  ·have:=List.countP_eq_length.1 hc
   have:=this (s1.1.getD i 0) (Zas (by rw [a1.lb];exact hi))
   simpa using this
  ·have e:vlD u b=(u.2.2.2.1[b]).1:=congrArg (fun x:Zfk.D=>x.1) (Zci hb)
   rw [e] at hq ⊢
   have:=a3 b _ (List.getElem?_eq_getElem hb) q hq
   rw [Nat.zero_add] at this
   exact this
end Go.Proofs.YtlogdohlcdhepaaDoor.base
end
section
set_option maxRecDepth 100000
namespace Go.Proofs.YtlogdohlcdhepaaDoor.base
open Go.Sh gen
structure Ztn (u:UnT.D):Prop where
 b:∀ b∈u.2.2.2.1,List.length b.1≤20000000000000∧List.length b.2.2.2.1≤20000000000000∧List.length b.2.2.2.2.1≤20000000000000
 s:∀ s∈u.2.2.2.2.1,List.length s.1≤20000000000000∧∀ f∈s.1,List.length f.2.2.1≤20000000000000∧List.length f.2.2.2.1≤20000000000000
 v:∀ v∈u.2.2.1,List.length v.2.2.2.2.1 * 8≤140737488351232
def Zis (u:UnT.D):Bool:=!decide (3000 < nv u) && !decide (300 < nb u) && !decide (1000 < ns u) && !decide (nb u=0)
def Zv0 (u:UnT.D):Bool:=Zfd (fun i=>Ze2 u (stD u i)) 0 (ns u)
def Zr8 (u:UnT.D)(bl:List Int):Bool:=Zfd (Zwy u bl) 0 (nv u)
def Zrf (u:UnT.D):Bool:=Zfd (fun i=>Zm3 u (Zbt u i)) 0 (nb u)
def Zp0 (u:UnT.D):Bool:=Zfd (Z2n u) 0 (nb u)
theorem Z09 {p:Nat→Bool}{i d:Nat}:Zfd p i d=true↔∀ k,i≤k→k < i+d→p k=true:=by
 induction d generalizing i with
 | zero=>simp [Zfd];intro k h1 h2;omega
 | succ d ih =>
  rw [Zfd,Bool.and_eq_true,ih]
  constructor
  ·rintro⟨h1,h2⟩ k hk1 hk2
   by_cases e:k=i
   ·rw [e];exact h1
   ·exact h2 k (by omega) (by omega)
  ·intro h
   exact⟨h i (by omega) (by omega),fun k h1 h2=>h k (by omega) (by omega)⟩
theorem Zfp {p:Nat→Bool}{n:Nat}:Zfd p 0 n=true↔∀ k < n,p k=true:=by
 rw [Z09]
 exact⟨fun h k hk=>h k (by omega) (by omega),fun h k _ hk=>h k (by omega)⟩
theorem Zcy {k n:Int}:Zc k n=true↔0≤k∧k < n:=by
 unfold Zc;simp only [Bool.and_eq_true,decide_eq_true_eq]
theorem Zgj {u:UnT.D}{l:List Int}(h:Zcf u l=true):∀ z∈l,(0:Int)≤z∧z < nv u:=by
 intro z hz
 unfold Zcf at h
 have:=List.all_eq_true.1 h z hz
 rw [Bool.and_eq_true] at this
 exact Zcy.1 this.1
theorem Zjr {u:UnT.D}{i:Nat}(h:i < nb u):Zbt u i∈u.2.2.2.1:=by rw [Zci h];exact List.getElem_mem h
theorem Zto {u:UnT.D}{i:Nat}(h:i < nv u):Za1 u (i:Int)∈u.2.2.1:=by rw [Zeg h];exact List.getElem_mem h
theorem Zji {u:UnT.D}{b:Zfk.D}(h:Zm3 u b=true):(∀ k∈(show List Int from b.2.2.2.1),(0:Int)≤k∧k < nb u)∧
  ((b.2.1=1∧List.length b.2.2.2.1=1)∨(b.2.1=2∧List.length b.2.2.2.1=2∧Zcf u [(show Int from b.2.2.1)]=true)∨(b.2.1=3∧List.length b.2.2.2.1=0∧(0:Int)≤b.2.2.2.2.2.1∧(show Int from b.2.2.2.2.2.1) < ns u)):=by
 unfold Zm3 at h
 rw [Bool.and_eq_true] at h
 obtain⟨h1,h2⟩:=h
 refine⟨fun k hk=>Zcy.1 (List.all_eq_true.1 h1 k hk),?_⟩
 split at h2
 ·rename_i e;exact Or.inl ⟨e,of_decide_eq_true h2⟩
 ·split at h2
  ·rename_i e
   rw [Bool.and_eq_true] at h2
   exact Or.inr (Or.inl ⟨e,of_decide_eq_true h2.1,h2.2⟩)
  ·split at h2
   ·rename_i e
    rw [Bool.and_eq_true] at h2
    exact Or.inr (Or.inr ⟨e,of_decide_eq_true h2.1,Zcy.1 h2.2⟩)
   ·cases h2
theorem Zl1 {u:UnT.D}(h:Zrf u=true):Ztg u:=by
 intro b hb
 obtain⟨i,hi,rfl⟩:=List.mem_iff_getElem.1 hb
 have:=Zfp.1 h i hi
 rw [Zci hi] at this
 obtain⟨h1,h2⟩:=Zji this
 refine⟨?_,h1⟩
 rcases h2 with h2 | h2 | h2 <;> omega
theorem Zz4 {u:UnT.D}(h:Zp0 u=true)(hb:0 < nb u):∀ k < nb u,(Zaw u).getD k []=prD u k∧(k=0→prD u k=[]):=by
 intro k hk
 have h0:=Zfp.1 h 0 hb
 unfold Z2n at h0
 rw [Bool.and_eq_true] at h0
 have h1:Zfd (Z2m u) 0 (nb u)=true:=by simpa using h0.1
 have h2:=Zfp.1 h1 k hk
 unfold Z2m at h2
 rw [Bool.and_eq_true] at h2
 have e:(Zaw u).getD k []=prD u k:=by
  have:=h2.1
  unfold eqF at this
  exact of_decide_eq_true this
 refine⟨e,fun k0=>?_⟩
 have h3:=h2.2
 rw [e] at h3
 simp [k0] at h3
 rw [k0];exact h3
theorem Zqe {u:UnT.D}(h:Zis u=true):nv u≤3000∧nb u≤300∧ns u≤1000∧0 < nb u:=by
 unfold Zis at h
 rw [Bool.and_eq_true,Bool.and_eq_true,Bool.and_eq_true] at h
 obtain⟨⟨⟨h1,h2⟩,h3⟩,h4⟩:=h
 have g1:¬ 3000 < nv u:=fun e=>by rw [decide_eq_true e] at h1;cases h1
 have g2:¬ 300 < nb u:=fun e=>by rw [decide_eq_true e] at h2;cases h2
 have g3:¬ 1000 < ns u:=fun e=>by rw [decide_eq_true e] at h3;cases h3
 have g4:¬ nb u=0:=fun e=>by rw [decide_eq_true e] at h4;cases h4
 exact⟨Nat.not_lt.1 g1,Nat.not_lt.1 g2,Nat.not_lt.1 g3,Nat.pos_of_ne_zero g4⟩
theorem Zq4 {u:UnT.D}(h:Zis u=true):0 < nb u:=(Zqe h).2.2.2
theorem Zyc {u:UnT.D}(hz:Ztn u)(hsb:Zis u=true)(hst:Zv0 u=true){s:StS}(hs:Zdm u=some s)(hv:Zr8 u s.1=true)(he:Zrf u=true)(hl:Zp0 u=true):Ya9 u:=by
 have hS:=Zho hs
 have hb0:0 < nb u:=Zq4 hsb
 have hvv:∀ n < nv u,Zwy u s.1 n=true:=Zfp.1 hv
 refine⟨fun i hi=>⟨(hz.b _ (Zjr hi)).1,fun n hn=>?_⟩,fun i hi p hp=>?_,fun n hn=>?_,fun n hn=>hz.v _ (Zto hn),fun i hi n hn h21=>?_,fun n hn hlv=>?_,fun k hk=>?_,fun i hi h2=>?_,fun i hi h3=>?_⟩
 ·obtain⟨q,hq,rfl⟩:=List.mem_iff_getElem.1 hn
  obtain⟨x,h1,h2,_⟩:=hS.at_ i hi q hq
  rw [List.getD_eq_getElem?_getD,List.getElem?_eq_getElem hq] at h1
  have h1':(vlD u i)[q]=(x:Int):=h1
  rw [h1'];omega
 ·rw [← (Zz4 hl hb0 i hi).1] at hp
  exact Zj3 u i p hp
 ·have:=hvv n hn
  unfold Zwy at this
  rw [Bool.and_eq_true,Bool.and_eq_true,Bool.and_eq_true] at this
  exact Zgj this.1.1.2
 ·obtain⟨q,hq,rfl⟩:=List.mem_iff_getElem.1 hn
  obtain⟨x,h1,h2,h4,_⟩:=hS.at_ i hi q hq
  rw [List.getD_eq_getElem?_getD,List.getElem?_eq_getElem hq] at h1
  have h1':(vlD u i)[q]=(x:Int):=h1
  rw [h1'] at h21 ⊢
  have:=hvv x h2
  unfold Zwy at this
  rw [Bool.and_eq_true,if_neg (by rw [h21];decide),if_pos h21,h4] at this
  have:=of_decide_eq_true this.2
  rw [this]
  unfold Zrb
  rw [Int.toNat_natCast]
 ·have:=hvv n hn
  unfold Zwy at this
  rw [Bool.and_eq_true,Bool.and_eq_true,hlv] at this
  exact Zcy.1 (by simpa using this.1.2)
 ·have:=Zfp.1 hst k hk
  unfold Ze2 at this
  simp only [Bool.and_eq_true,Bool.not_eq_true',decide_eq_false_iff_not] at this
  obtain⟨⟨h1,h2⟩,h3⟩:=this
  refine⟨by omega,fun f hf=>?_⟩
  have:=List.all_eq_true.1 h3 f hf
  unfold Zk9 at this
  simp only [Bool.and_eq_true,Bool.not_eq_true',decide_eq_false_iff_not] at this
  obtain⟨⟨⟨g1,g2⟩,g3⟩,g4⟩:=this
  exact⟨by omega,by omega,Zgj g3,Zgj g4⟩
 ·obtain⟨_,g⟩:=Zji (Zfp.1 he i hi)
  rcases g with⟨g1,_⟩ | ⟨_,_,g⟩ | ⟨g1,_⟩
  ·rw [g1] at h2;exact absurd h2 (by decide)
  ·exact Zgj g _ (by simp)
  ·rw [g1] at h2;exact absurd h2 (by decide)
 ·obtain⟨_,g⟩:=Zji (Zfp.1 he i hi)
  rcases g with⟨g1,_⟩ | ⟨g1,_⟩ | ⟨_,_,g⟩
  ·rw [g1] at h3;exact absurd h3 (by decide)
  ·rw [g1] at h3;exact absurd h3 (by decide)
  ·exact g
end Go.Proofs.YtlogdohlcdhepaaDoor.base
end
section
set_option maxRecDepth 100000
namespace Go.Proofs.YtlogdohlcdhepaaDoor.base
open Go.Sh gen
variable {S:Zb2}{m:Mem}
def Znf (u:UnT.D):Option StS:=
 if Zis u && Zv0 u then (Zdm u).filter fun s=>Zr8 u s.1 && Zrf u && Zp0 u else none
def Zjm (u:UnT.D)(O I:List Int):Bool:=match Znf u with
 | none=>false
 | some s=>decide (O.length=nb u) && Zfd (Zk6 u s.1 s.2.1 I) 0 (nb u)
structure Z2g (u:UnT.D)(O I:List Int):Prop where
 ord:∃ D O',Zlg u D (Zpq u)=some O'∧O'.reverse=O
 on:O.length=nb u→∀ x∈O,(0:Int)≤x∧x < nb u
 dom:O.length=nb u→∃ J D2 I',Z98 u (Zgk (nb u) O) (O.drop 1) J∧J 0 ((List.replicate (nb u) (-1)).set 0 0)∧Zgc u (Zgk (nb u) O) (O.drop 1) D2 ((List.replicate (nb u) (-1)).set 0 0,true)=some I'∧I=I'.set 0 (-1)
 ii:O.length=nb u→I.length=nb u∧∀ x < nb u,I.getD x 0 < nb u
 up:O.length=nb u→∀ (a:Int) (b:Nat),b < nb u→∃ d,d < nb u+2∧Zkz I a d b=some (upF I a (nb u+2) b)
structure Nk (S:Zb2):Prop where
 check:S 22=[]
 all:S 46=[]
 state:S 47=[]
 stand:S 48=[]
 ends:S 50=[]
 om:S 52=[]
 c:Nc S
 l:Nl S
 d:Nd S
 t:Nt S
theorem Z7t (hN:Nk S){Q:Nat→Prop}{u:UnT.D}{vo bo so:Option Addr}(hU:UAt Q m u vo bo so)(hQ:∀ f,Q f→f < m.next)(hb0:0 < nb u)(hnb:nb u≤1000)(hnx:Ztg u)
  {D:Nat} {O:List Int} (hO:Zlg u D (Zpq u)=some O) {cb cf:Nat} {r1 r2 r3:Value} (hC:Own m cb (ckC u vo bo so r1 r2 r3) 99 cf) :
  ∃ v m1,Zag Tryd.prog TT S 52 [.pointer (some ⟨cb,0,none⟩)] m=some (v,m1)∧Ya8 m m1 O.reverse v∧Zaa m m1 []:=by
 have lu:=hC.load (off:=0) 5 (by simp)
 simp [Zao] at lu
 have hcu:(Zbw u vo bo so).toArray=#[.int .i64 u.1,.int .i64 u.2.1,.slice vo (nv u) (nv u),.slice bo (nb u) (nb u),.slice so (ns u) (ns u)]:=rfl
 obtain⟨v,m1,c1,p1,k1⟩:=Zrd hN.d.order hN.d.below hN.d.rev hU hQ hb0 hnb hnx hO
 rw [hcu] at c1
 refine Zfi 3 [] k52 hN.om rfl ?_
 simp [-Int.natCast_add,-List.map_reverse,lu,c1]
 exact⟨p1,k1⟩
set_option maxHeartbeats 16000000 in
theorem Zx8 (hN:Nk S){Q:Nat→Prop}{u:UnT.D}{vo bo so:Option Addr}(hU:UAt Q m u vo bo so)(hQ:∀ f,Q f→f < m.next)(hz:Ztn u)(hzv:nv u≤20000000000000)(hzb:nb u≤20000000000000)(hzs:ns u≤20000000000000){O I:List Int}(hT:∀ s,Znf u=some s→Z2g u O I) :
  ∃ v m1,Zag Tryd.prog TT S 22 [.agg (Zbw u vo bo so).toArray] m=some (v,m1)∧v=.bool (Zjm u O I)∧Zaa m m1 []:=by
 obtain⟨oU,kU,nU⟩:=Zat (m:=m) (cs:=Zbw u vo bo so) (e:=34) rfl
 obtain⟨mB,hmB⟩:∃ mB,m.new (Zbw u vo bo so) 34=mB:=⟨_,rfl⟩
 obtain⟨ub,hub⟩:∃ ub,m.next=ub:=⟨_,rfl⟩
 rw [hmB,hub] at oU nU
 rw [hmB] at kU
 have u2:=oU.load1 (off:=2) rfl
 have u3:=oU.load1 (off:=3) rfl
 have u4:=oU.load1 (off:=4) rfl
 have lu:=oU.load (off:=0) 5 (by simp)
 simp [Zao] at lu
 obtain⟨R,hR⟩:∃ R,Zjm u O I=R:=⟨_,rfl⟩
 rw [hR]
 have hno:Znf u=none→R=false:=fun h=>by rw [← hR];unfold Zjm;rw [h]
 refine Zfi 5 [26,72,80] k22 hN.check rfl ?_
 have hcu:(Zbw u vo bo so).toArray=#[.int .i64 u.1,.int .i64 u.2.1,.slice vo (nv u) (nv u),.slice bo (nb u) (nb u),.slice so (ns u) (ns u)]:=rfl
 by_cases q1:3000 < nv u
 ·have q1':(3000:Int) < nv u:=by omega
  have:R=false:=hno (by unfold Znf Zis;simp [q1])
  rw [this]
  simp [-Int.natCast_add,Zcu b34,hmB,hub,u2,q1']
  exact kU
 have q1':¬ (3000:Int) < nv u:=by omega
 by_cases q2:300 < nb u
 ·have q2':(300:Int) < nb u:=by omega
  have:R=false:=hno (by unfold Znf Zis;simp [q2])
  rw [this]
  simp [-Int.natCast_add,Zcu b34,hmB,hub,u2,u3,q1',q2']
  exact kU
 have q2':¬ (300:Int) < nb u:=by omega
 by_cases q3:1000 < ns u
 ·have q3':(1000:Int) < ns u:=by omega
  have:R=false:=hno (by unfold Znf Zis;simp [q3])
  rw [this]
  simp [-Int.natCast_add,Zcu b34,hmB,hub,u2,u3,u4,q1',q2',q3']
  exact kU
 have q3':¬ (1000:Int) < ns u:=by omega
 by_cases q4:nb u=0
 ·have:R=false:=hno (by unfold Znf Zis;simp [q4])
  rw [this]
  simp [-Int.natCast_add,Zcu b34,hmB,hub,u2,u3,u4,q1',q3',q4]
  exact kU
 have q4':¬ (nb u:Int)=0:=by omega
 have hsz:Zis u=true:=by unfold Zis;rw [decide_eq_false q1,decide_eq_false q2,decide_eq_false q3,decide_eq_false q4];rfl
 obtain⟨oK,kK,nK⟩:=Zat (m:=mB) (cs:=ckC u vo bo so (.slice none 0 0) (.slice none 0 0) (.slice none 0 0)) (e:=99) rfl
 obtain⟨mK,hmK⟩:∃ mZ,mB.new (ckC u vo bo so (.slice none 0 0) (.slice none 0 0) (.slice none 0 0)) 99=mZ:=⟨_,rfl⟩
 obtain⟨cb,hcb⟩:∃ ub,mB.next=ub:=⟨_,rfl⟩
 rw [hmK,hcb] at oK nK
 rw [hmK] at kK
 have KK:=kU.trans kK
 have hUK:=hU.keep KK (by simp)
 have hQK:∀ f,Q f→f < cb:=fun f hf=>by have:=hQ f hf;omega
 have hqc:¬ Q cb:=fun h=>by have:=hQK _ h;omega
 have oUK:=oU.keep kK (by simp)
 have uK4:=oUK.load1 (off:=4) rfl
 simp [-Int.natCast_add,-w22_4,Zcu b34,Zau Yda,Zcu b99,hmB,hub,u2,u3,u4,q1',q2',q3',q4,lu,hmK,hcb]
 clear u2 u3 u4 lu
 have ubc:ub≠cb:=by omega
 obtain⟨_,m1,c1,rfl,k1⟩:=Zl8 (m:=mK) (g:=47) (cb:=cb) (n:=ns u) hN.all (by omega) (fun i=>Ze2 u (stD u i)) (fun i mF hi kF=>by
  obtain⟨_,mG,cG,rfl,kG⟩:=Zx6 hN.state hN.c.there hN.c.below (hUK.keep kF (by simp)) (by omega) (oK.keep kF (by simp)) hi (by omega) (Zhc hi).symm (by rw [Zhc hi];exact (hz.s _ (List.getElem_mem hi)).1) (by rw [Zhc hi];exact (hz.s _ (List.getElem_mem hi)).2)
  exact⟨mG,cG,kG⟩)
 have hst:Zv0 u=Zfd (fun i=>Ze2 u (stD u i)) 0 (ns u):=rfl
 rw [← hst] at c1
 have K1:=KK.trans k1
 cases hsa:Zv0 u
 ·rw [hsa] at c1
  have:R=false:=hno (by unfold Znf;rw [hsa];simp)
  rw [this]
  simp [-Int.natCast_add,uK4,c1]
  exact K1
 rw [hsa] at c1
 have o1:=oK.keep k1 (by simp)
 have hU1:=hU.keep K1 (by simp)
 obtain⟨_,m2,c2,⟨rfl,hst2⟩,k2⟩:=Zyj hN.stand hN.c.below hU1 (fun f hf=>by have:=hQ f hf;have:=K1.1;omega) (by omega) (by omega) o1 hqc (fun b hb=>(hz.b b hb).1)
 have K2:Zaa m m2 []:=K1.fresh k2 (by simp;omega)
 cases hsf:Zdm u with
 | none =>
  rw [hsf] at c2
  have:R=false:=hno (by unfold Znf;rw [hsf];simp)
  rw [this]
  simp [-Int.natCast_add,uK4,c1,c2]
  exact K2
 | some s =>
  rw [hsf] at c2
  obtain⟨b1,b2,f1,f2,C2,hf1,hf2⟩:=hst2 s hsf
  have hSo:=Zho hsf
  have oU2:=(oUK.keep k1 (by simp)).keep k2 (by simp;omega)
  have uu2:=oU2.load1 (off:=2) rfl
  have hU2:=hU.keep K2 (by simp)
  obtain⟨_,m3,c3,rfl,k3⟩:=Zl8 (m:=m2) (g:=49) (cb:=cb) (n:=nv u) hN.all (by omega) (Zwy u s.1) (fun i mF hi kF=>by
   obtain⟨_,mG,cG,rfl,kG⟩:=Z4w hN.c (hU2.keep kF (by simp)) (by omega) (by omega) (by omega) (C2.keep0 kF) hSo.lb hSo.bb hi (hz.v _ (Zto hi))
   exact⟨mG,cG,kG⟩)
  have hvl:Zr8 u s.1=Zfd (Zwy u s.1) 0 (nv u):=rfl
  rw [← hvl] at c3
  have K3:=K2.trans k3
  cases hva:Zr8 u s.1
  ·rw [hva] at c3
   have:R=false:=hno (by unfold Znf;rw [hsf,hsz,hsa];simp [Option.filter,hva])
   rw [this]
   simp [-Int.natCast_add,uK4,c1,c2,uu2,c3]
   exact K3
  rw [hva] at c3
  have oU3:=oU2.keep k3 (by simp)
  have uu3:=oU3.load1 (off:=3) rfl
  have hU3:=hU.keep K3 (by simp)
  have C3:=C2.keep0 k3
  obtain⟨_,m4,c4,rfl,k4⟩:=Zl8 (m:=m3) (g:=50) (cb:=cb) (n:=nb u) hN.all (by omega) (fun i=>Zm3 u (Zbt u i)) (fun i mF hi kF=>by
   obtain⟨_,mG,cG,rfl,kG⟩:=Z2r hN.ends hN.c.there hN.c.below (hU3.keep kF (by simp)) (by omega) (by omega) ((C3.keep0 kF).c) hi (Zci hi).symm (hz.b _ (Zjr hi)).2.1
   exact⟨mG,cG,kG⟩)
  have hel:Zrf u=Zfd (fun i=>Zm3 u (Zbt u i)) 0 (nb u):=rfl
  rw [← hel] at c4
  have K4:=K3.trans k4
  cases hea:Zrf u
  ·rw [hea] at c4
   have:R=false:=hno (by unfold Znf;rw [hsf,hsz,hsa];simp [Option.filter,hva,hea])
   rw [this]
   simp [-Int.natCast_add,uK4,c1,c2,uu2,c3,uu3,c4]
   exact K4
  rw [hea] at c4
  have oU4:=oU3.keep k4 (by simp)
  have vv3:=oU4.load1 (off:=3) rfl
  have hU4:=hU.keep K4 (by simp)
  have C4:=C3.keep0 k4
  have hnx:=Zl1 hea
  obtain⟨_,m5,c5,rfl,k5⟩:=Zl8 (m:=m4) (g:=51) (cb:=cb) (n:=nb u) hN.all (by omega) (Z2n u) (fun i mF hi kF=>by
   obtain⟨_,mG,cG,rfl,kG⟩:=Z3p hN.l (hU4.keep kF (by simp)) (fun f hf=>by have:=hQ f hf;have:=K4.1;have:=kF.1;omega) (by omega) hnx (fun b hb=>(hz.b b hb).2.2) ((C4.keep0 kF).c) hi
   exact⟨mG,cG,kG⟩)
  have hll:Zp0 u=Zfd (Z2n u) 0 (nb u):=rfl
  rw [← hll] at c5
  have K5:=K4.trans k5
  cases hla:Zp0 u
  ·rw [hla] at c5
   have:R=false:=hno (by unfold Znf;rw [hsf,hsz,hsa];simp [Option.filter,hva,hea,hla])
   rw [this]
   simp [-Int.natCast_add,uK4,c1,c2,uu2,c3,uu3,c4,vv3,c5]
   exact K5
  rw [hla] at c5
  have hpre:Znf u=some s:=by unfold Znf;rw [hsf,hsz,hsa];simp [Option.filter,hva,hea,hla]
  simp [-Int.natCast_add,-w22_6,uK4,c1,c2,uu2,c3,uu3,c4,vv3,c5]
  clear c1 c2 c3 c4 c5 uK4 uu2 uu3 vv3
  have oU5:=oU4.keep k5 (by simp)
  have hU5:=hU.keep K5 (by simp)
  have C5:=C4.keep0 k5
  have hTm:=hT s hpre
  obtain⟨D,O',hO',hOO⟩:=hTm.ord
  obtain⟨vO,m6,c6,⟨po,pf,rfl,_,_⟩,k6⟩:=Z7t (O:=O') hN hU5 (fun f hf=>by have:=hQ f hf;have:=K5.1;omega) (by omega) (by omega) hnx hO' C5.c
  rw [hOO] at c6
  have oU6:=oU5.keep k6 (by simp)
  have w3:=oU6.load1 (off:=3) rfl
  have wu:=oU6.load (off:=0) 5 (by simp)
  simp [Zao] at wu
  have hU6:=hU5.keep k6 (by simp)
  have C6:=C5.keep0 k6
  have K6:=K5.trans k6
  by_cases hOl:O.length=nb u
  case neg =>
   have hOl':¬ (O.length:Int)=nb u:=by omega
   have:R=false:=by rw [← hR];unfold Zjm;rw [hpre];simp [hOl]
   rw [this]
   simp [-Int.natCast_add,c6,w3,hOl']
   exact K6
  have hOl':(O.length:Int)=nb u:=by omega
  have hOle:((O.length:Int)=nb u)↔True:=by simp [hOl']
  obtain⟨J,D2,I',hJ,hJ0,hD,hI⟩:=hTm.dom hOl
  obtain⟨hIl,hIi⟩:=hTm.ii hOl
  obtain⟨vD,m7,c7,⟨ix,rfl,hix,hixm⟩,k7⟩:=Z40 hN.d hU6 (fun f hf=>by have:=hQ f hf;have:=K6.1;omega) (by omega) (by omega) hnx hO' hOO (hTm.on hOl) (fun e=>by rw [e] at hOl;simp at hOl;omega) (by omega) rfl hJ hJ0 hD
  rw [← hI] at hix
  rw [hcu] at c7
  have K7:=K6.trans k7
  have C7:=C6.keep0 k7
  have cb6:cb < m6.next:=C6.c.flt
  obtain⟨m8,e8,o8,k8⟩:=Zaj (r:=_) rfl C7.c (off:=7) (vs:=[.slice (some ⟨ix,0,none⟩) (nb u) (nb u)]) (by simp) (by simp [Zad])
  simp [Zbr] at o8
  have K8:Zaa m m8 []:=K7.fresh k8 (by simp;omega)
  have C8:Ck3 m8 u vo bo so cb cb b1 b2 f1 f2 ix s.1 s.2.1 I:=⟨⟨C7.o1.keep k8 (by simpa using C7.n2),C7.o2.keep k8 (by simpa using C7.n3),o8,C7.n1,C7.n2,C7.n3⟩,hix.keep k8 (by simp;omega)⟩
  have hU8:=hU.keep K8 (by simp)
  have oU8:=(oU6.keep k7 (by simp)).keep k8 (by simp;omega)
  have x3:=oU8.load1 (off:=3) rfl
  have hRk:Rok u s.1 s.2.1 I:=⟨hSo.lb,hSo.lp,hIl,hSo.bb,hIi,hTm.up hOl⟩
  have hTk:=Zyc hz hsz hsa hsf hva hea hla
  obtain⟨_,m9,c9,rfl,k9⟩:=Zl8 (m:=m8) (g:=54) (cb:=cb) (n:=nb u) hN.all (by omega) (Zk6 u s.1 s.2.1 I) (fun i mF hi kF=>by
   obtain⟨_,mG,cG,rfl,kG⟩:=Zyn hN.t (hU8.keep kF (by simp)) (C8.keep0 kF) hRk (by omega) (by omega) (by omega) hTk hi
   exact⟨mG,cG,kG⟩)
  have hfin:R=Zfd (Zk6 u s.1 s.2.1 I) 0 (nb u):=by rw [← hR];unfold Zjm;rw [hpre];simp [hOl]
  rw [← hfin] at c9
  simp [-Int.natCast_add,c6,w3,hOle,wu,c7,e8,x3,c9]
  exact K8.trans k9
end Go.Proofs.YtlogdohlcdhepaaDoor.base
end
section
set_option maxRecDepth 100000
namespace Go.Proofs.YtlogdohlcdhepaaDoor.base
open Go.Sh gen
def Ztl (l:List Int)(x y:Int):Prop:=∃ l1 l2,l=l1++l2∧x∈l1∧y∈l2
theorem Ztl.snoc {l:List Int}{x y b:Int}(h:Ztl l x y):Ztl (l++[b]) x y:=by
 obtain⟨l1,l2,rfl,h1,h2⟩:=h
 exact⟨l1,l2++[b],by simp,h1,by simp [h2]⟩
def Zkq (u:UnT.D):List (Nat × Nat)→Prop
 | []=>True
 | [p]=>p.1=0
 | p::q::r=>(p.1:Int)∈nxD u q.1∧Zkq u (q::r)
structure Z1m (u:UnT.D)(s:OSt):Prop where
 sl:s.1.length=nb u
 mem:∀ k < nb u,s.1.getD k false=true↔((k:Int)∈s.2.1∨∃ i,(k,i)∈s.2.2)
 nd:(s.2.1++s.2.2.map fun p=>(p.1:Int)).Nodup
 rp:∀ x∈s.2.1,(0:Int)≤x∧x < nb u
 rs:∀ p∈s.2.2,p.1 < nb u∧p.2≤(nxD u p.1).length
 lk:Zkq u s.2.2
 par:∀ x∈s.2.1,x≠0→∃ y:Nat,x∈nxD u y∧((∃ i,(y,i)∈s.2.2)∨Ztl s.2.1 x y)
 cp:∀ x∈s.2.1,∀ k∈nxD u x.toNat,s.1.getD k.toNat false=true
 cs:∀ p∈s.2.2,∀ j < p.2,s.1.getD ((nxD u p.1).getD j 0).toNat false=true
 z:(0:Int)∈s.2.1→s.2.2=[]
 ne:s.2.2=[]→s.2.1.getLast?=some 0
 cnt:s.2.1.length+s.2.2.length=s.1.count true
def stM (st:List (Nat × Nat)):Nat:=(st.map fun p=>2 * (2 - p.2)+1).sum
def Z6j (u:UnT.D)(s:OSt):Nat:=6 * (nb u - s.1.count true)+stM s.2.2
theorem Zr5 {u:UnT.D}{p:Nat × Nat}{r:List (Nat × Nat)}(h:Zkq u (p::r)):Zkq u r:=by
 cases r with
 | nil=>trivial
 | cons q r=>exact h.2
theorem Zmh {u:UnT.D}{b i j:Nat}{r:List (Nat × Nat)}(h:Zkq u ((b,i)::r)):Zkq u ((b,j)::r):=by
 cases r with
 | nil=>exact h
 | cons q r=>exact h
theorem Zjj (l:List Bool)(i k:Nat)(v:Bool)(h:i < l.length):(l.set i v).getD k false=if i=k then v else l.getD k false:=by
 rw [List.getD_eq_getElem?_getD,List.getElem?_set]
 split
 ·simp
 ·rw [List.getD_eq_getElem?_getD]
theorem Zx4 {u:UnT.D}(hnx:Ztg u){b:Nat}(hb:b < nb u):(nxD u b).length≤2∧∀ k∈nxD u b,(0:Int)≤k∧k < nb u:=hnx _ (Zjr hb)
theorem Zmi {u:UnT.D}(hnx:Ztg u){sn:List Bool}{pl:List Int}{b i:Nat}{st:List (Nat × Nat)}(h:Z1m u (sn,pl,(b,i)::st)) :
  Z1m u (Zl3 u (sn,pl,(b,i)::st))∧Z6j u (Zl3 u (sn,pl,(b,i)::st)) < Z6j u (sn,pl,(b,i)::st):=by
 obtain⟨sl,mem,nd,rp,rs,lk,par,cp,cs,z,ne,cnt⟩:=h
 dsimp only at sl mem nd rp rs lk par cp cs z ne cnt
 have hb:=rs (b,i) (by simp)
 dsimp only at hb
 have hn:=Zx4 hnx hb.1
 have hb0:(0:Int)∉pl:=fun h0=>by have:=z h0;cases this
 have hst:Zl3 u (sn,pl,(b,i)::st)=if i=(nxD u b).length then (sn,pl++[(b:Int)],st) else
   if sn.getD ((nxD u b).getD i 0).toNat false=true then (sn,pl,(b,i+1)::st) else
   (sn.set ((nxD u b).getD i 0).toNat true,pl,(((nxD u b).getD i 0).toNat,0)::(b,i+1)::st):=rfl
 rw [hst]
 by_cases hi:i=(nxD u b).length
 ·rw [if_pos hi]
  refine⟨⟨sl,fun k hk=>?_,?_,fun x hx=>?_,fun p hp=>rs p (by simp [hp]),Zr5 lk,fun x hx h0=>?_,fun x hx k hk=>?_,fun p hp=>cs p (by simp [hp]),fun h0=>?_,fun he=>?_,by simp at cnt ⊢;omega⟩,?_⟩
  ·dsimp only
   rw [mem k hk]
   constructor
   ·rintro (h1 | ⟨j,h1⟩)
    ·exact Or.inl (by simp [h1])
    ·rcases List.mem_cons.1 h1 with e | h1
     ·exact Or.inl (by rw [Prod.mk.injEq] at e;simp [e.1])
     ·exact Or.inr ⟨j,h1⟩
   ·rintro (h1 | ⟨j,h1⟩)
    ·rcases List.mem_append.1 h1 with h1 | h1
     ·exact Or.inl h1
     ·simp at h1
      exact Or.inr ⟨i,by rw [show k=b by omega];simp⟩
    ·exact Or.inr ⟨j,by simp [h1]⟩
  ·dsimp only
   rw [List.map_cons] at nd
   simpa using nd
  ·dsimp only at hx
   rcases List.mem_append.1 hx with hx | hx
   ·exact rp x hx
   ·simp at hx;omega
  ·dsimp only at hx ⊢
   rcases List.mem_append.1 hx with hx | hx
   ·obtain⟨y,h1,h2⟩:=par x hx h0
    refine⟨y,h1,?_⟩
    rcases h2 with⟨j,h2⟩ | h2
    ·rcases List.mem_cons.1 h2 with e | h2
     ·rw [Prod.mk.injEq] at e
      exact Or.inr ⟨pl,[(b:Int)],rfl,hx,by simp [e.1]⟩
     ·exact Or.inl ⟨j,h2⟩
    ·exact Or.inr h2.snoc
   ·simp at hx
    subst hx
    cases st with
    | nil=>exact absurd (show (b:Int)=0 by have:b=0:=lk;omega) h0
    | cons q r=>exact⟨q.1,lk.1,Or.inl ⟨q.2,by simp⟩⟩
  ·dsimp only at hx ⊢
   rcases List.mem_append.1 hx with hx | hx
   ·exact cp x hx k hk
   ·simp at hx
    subst hx
    rw [Int.toNat_natCast] at hk
    obtain⟨j,hj,rfl⟩:=List.mem_iff_getElem.1 hk
    have:=cs (b,i) (by simp) j (by dsimp only;omega)
    dsimp only at this
    rw [List.getD_eq_getElem?_getD (l:=nxD u b),List.getElem?_eq_getElem hj] at this
    exact this
  ·dsimp only at h0 ⊢
   rcases List.mem_append.1 h0 with h0 | h0
   ·exact absurd h0 hb0
   ·simp at h0
    cases st with
    | nil=>rfl
    | cons q r =>
     exfalso
     have:∀ (st:List (Nat × Nat)),Zkq u st→st≠[]→∃ i,(0,i)∈st:=by
      intro st
      induction st with
      | nil=>intro _ h;exact absurd rfl h
      | cons p r ih =>
       intro hl _
       cases r with
       | nil =>
        obtain⟨p1,p2⟩:=p
        have:p1=0:=hl
        exact⟨p2,by rw [this];simp⟩
       | cons q r =>
        obtain⟨i,hi⟩:=ih hl.2 (by simp)
        exact⟨i,List.mem_cons_of_mem _ hi⟩
     obtain⟨j,hj⟩:=this (q::r) lk.2 (by simp)
     rw [List.map_cons] at nd
     have nd2:=(List.nodup_append.1 nd).2.1
     rw [List.nodup_cons] at nd2
     exact nd2.1 (List.mem_map.2 ⟨(0,j),hj,by dsimp only;omega⟩)
  ·dsimp only at he ⊢
   subst he
   have:b=0:=lk
   simp [this]
  ·unfold Z6j stM
   simp only [List.map_cons,List.sum_cons]
   omega
 ·rw [if_neg hi]
  have hlt:i < (nxD u b).length:=by omega
  have hk:=hn.2 _ (Zas hlt)
  obtain⟨k,hke⟩:∃ k:Nat,(nxD u b).getD i 0=(k:Int):=⟨((nxD u b).getD i 0).toNat,by omega⟩
  have hkm:(k:Int)∈nxD u b:=hke ▸ Zas hlt
  rw [hke,Int.toNat_natCast]
  rw [hke] at hk
  have hkn:k < nb u:=by omega
  by_cases hs:sn.getD k false=true
  ·rw [if_pos hs]
   refine⟨⟨sl,fun q hq=>?_,by simpa using nd,rp,fun p hp=>?_,Zmh lk,fun x hx h0=>?_,cp,fun p hp j hj=>?_,fun h0=>absurd h0 hb0,fun he=>(by cases he),by simpa using cnt⟩,?_⟩
   ·dsimp only
    rw [mem q hq]
    constructor
    ·rintro (h1 | ⟨j,h1⟩)
     ·exact Or.inl h1
     ·rcases List.mem_cons.1 h1 with e | h1
      ·rw [Prod.mk.injEq] at e;exact Or.inr ⟨i+1,by rw [e.1];simp⟩
      ·exact Or.inr ⟨j,by simp [h1]⟩
    ·rintro (h1 | ⟨j,h1⟩)
     ·exact Or.inl h1
     ·rcases List.mem_cons.1 h1 with e | h1
      ·rw [Prod.mk.injEq] at e;exact Or.inr ⟨i,by rw [e.1];simp⟩
      ·exact Or.inr ⟨j,by simp [h1]⟩
   ·rcases List.mem_cons.1 hp with rfl | hp
    ·exact⟨hb.1,by dsimp only;omega⟩
    ·exact rs p (by simp [hp])
   ·obtain⟨y,h1,h2⟩:=par x hx h0
    refine⟨y,h1,?_⟩
    rcases h2 with⟨j,h2⟩ | h2
    ·rcases List.mem_cons.1 h2 with e | h2
     ·rw [Prod.mk.injEq] at e;exact Or.inl ⟨i+1,by rw [e.1];simp⟩
     ·exact Or.inl ⟨j,by simp [h2]⟩
    ·exact Or.inr h2
   ·rcases List.mem_cons.1 hp with rfl | hp
    ·dsimp only at hj ⊢
     by_cases e:j=i
     ·rw [e,hke,Int.toNat_natCast];exact hs
     ·exact cs (b,i) (by simp) j (by dsimp only;omega)
    ·exact cs p (by simp [hp]) j hj
   ·unfold Z6j stM
    simp only [List.map_cons,List.sum_cons]
    omega
  ·rw [if_neg hs]
   have hsf:sn.getD k false=false:=by simpa using hs
   have hkl:k < sn.length:=by omega
   have hmono:∀ q,sn.getD q false=true→(sn.set k true).getD q false=true:=fun q hq=>by
    rw [Zjj _ _ _ _ hkl];split
    ·rfl
    ·exact hq
   have hnk:¬ ((k:Int)∈pl∨∃ j,(k,j)∈(b,i)::st):=fun h=>hs ((mem k hkn).2 h)
   refine⟨⟨by simpa using sl,fun q hq=>?_,?_,rp,fun p hp=>?_,⟨hkm,Zmh lk⟩,fun x hx h0=>?_,fun x hx q hq=>hmono _ (cp x hx q hq),fun p hp j hj=>?_,fun h0=>absurd h0 hb0,fun he=>(by cases he),by dsimp only;rw [Zhp hkl hsf];simp at cnt ⊢;omega⟩,?_⟩
   ·dsimp only
    rw [Zjj _ _ _ _ hkl]
    by_cases e:k=q
    ·rw [if_pos e]
     exact⟨fun _=>Or.inr ⟨0,by rw [e];simp⟩,fun _=>rfl⟩
    ·rw [if_neg e,mem q hq]
     constructor
     ·rintro (h1 | ⟨j,h1⟩)
      ·exact Or.inl h1
      ·rcases List.mem_cons.1 h1 with e | h1
       ·rw [Prod.mk.injEq] at e;exact Or.inr ⟨i+1,by rw [e.1];simp⟩
       ·exact Or.inr ⟨j,by simp [h1]⟩
     ·rintro (h1 | ⟨j,h1⟩)
      ·exact Or.inl h1
      ·rcases List.mem_cons.1 h1 with e1 | h1
       ·rw [Prod.mk.injEq] at e1;exact absurd e1.1.symm e
       ·rcases List.mem_cons.1 h1 with e1 | h1
        ·rw [Prod.mk.injEq] at e1;exact Or.inr ⟨i,by rw [e1.1];simp⟩
        ·exact Or.inr ⟨j,by simp [h1]⟩
   ·dsimp only
    rw [List.map_cons] at nd ⊢
    rw [List.map_cons]
    rw [List.nodup_append] at nd ⊢
    obtain⟨n1,n2,n3⟩:=nd
    have hk2:(k:Int)∉(b:Int)::List.map (fun p:Nat × Nat=>(p.1:Int)) st:=by
     intro hm
     apply hnk
     rcases List.mem_cons.1 hm with e | hm
     ·exact Or.inr ⟨i,by rw [show k=b by omega];simp⟩
     ·obtain⟨p,hp,e⟩:=List.mem_map.1 hm
      exact Or.inr ⟨p.2,List.mem_cons_of_mem _ (by rw [show k=p.1 by omega];exact hp)⟩
    refine⟨n1,List.nodup_cons.2 ⟨hk2,n2⟩,fun a ha c hc=>?_⟩
    rcases List.mem_cons.1 hc with rfl | hc
    ·intro e
     exact hnk (Or.inl (by rw [← e];exact ha))
    ·exact n3 a ha c hc
   ·rcases List.mem_cons.1 hp with rfl | hp
    ·exact⟨hkn,by dsimp only;omega⟩
    ·rcases List.mem_cons.1 hp with rfl | hp
     ·exact⟨hb.1,by dsimp only;omega⟩
     ·exact rs p (by simp [hp])
   ·obtain⟨y,h1,h2⟩:=par x hx h0
    refine⟨y,h1,?_⟩
    rcases h2 with⟨j,h2⟩ | h2
    ·rcases List.mem_cons.1 h2 with e | h2
     ·rw [Prod.mk.injEq] at e;exact Or.inl ⟨i+1,by rw [e.1];simp⟩
     ·exact Or.inl ⟨j,by simp [h2]⟩
    ·exact Or.inr h2
   ·rcases List.mem_cons.1 hp with rfl | hp
    ·dsimp only at hj;omega
    ·rcases List.mem_cons.1 hp with rfl | hp
     ·dsimp only at hj ⊢
      by_cases e:j=i
      ·rw [e,hke,Int.toNat_natCast,Zjj _ _ _ _ hkl,if_pos rfl]
      ·exact hmono _ (cs (b,i) (by simp) j (by dsimp only;omega))
     ·exact hmono _ (cs p (by simp [hp]) j hj)
   ·unfold Z6j stM
    simp only [List.map_cons,List.sum_cons]
    have c1:=Zhp hkl hsf
    have c2:=Zh7 (sn.set k true)
    rw [List.length_set] at c2
    omega
theorem Z6 {u:UnT.D}(hnx:Ztg u):∀ (M:Nat) (s:OSt),Z1m u s→Z6j u s≤M→∃ D O' sn,Zlg u D s=some O'∧Z1m u (sn,O',[]):=by
 intro M
 induction M with
 | zero =>
  intro s h hM
  obtain⟨sn,pl,st⟩:=s
  cases st with
  | nil=>exact⟨0,pl,sn,rfl,h⟩
  | cons p r=>obtain⟨b,i⟩:=p;have:=(Zmi hnx h).2;omega
 | succ M ih =>
  intro s h hM
  obtain⟨sn,pl,st⟩:=s
  cases st with
  | nil=>exact⟨0,pl,sn,rfl,h⟩
  | cons p r =>
   obtain⟨b,i⟩:=p
   obtain⟨h1,h2⟩:=Zmi hnx h
   obtain⟨D,O',sn',h3,h4⟩:=ih _ h1 (by omega)
   exact⟨D+1,O',sn',by rw [Zlg];exact h3,h4⟩
theorem Z1d {u:UnT.D}(hb:0 < nb u):Z1m u (Zpq u):=by
 have hl:0 < (List.replicate (nb u) false).length:=by simpa using hb
 refine⟨by simp [Zpq],fun k hk=>?_,by simp [Zpq],fun x hx=>by simp [Zpq] at hx,fun p hp=>?_,by simp [Zpq,Zkq],fun x hx=>by simp [Zpq] at hx,fun x hx=>by simp [Zpq] at hx,fun p hp j hj=>?_,fun h=>by simp [Zpq] at h,fun h=>by simp [Zpq] at h,?_⟩
 ·unfold Zpq
  dsimp only
  rw [Zjj _ _ _ _ hl]
  by_cases e:0=k
  ·rw [if_pos e];exact⟨fun _=>Or.inr ⟨0,by rw [← e];simp⟩,fun _=>rfl⟩
  ·rw [if_neg e,List.getD_eq_getElem?_getD,List.getElem?_replicate,if_pos hk]
   constructor
   ·intro h;cases h
   ·rintro (h | ⟨j,h⟩)
    ·simp at h
    ·simp at h;omega
 ·simp [Zpq] at hp;subst hp;exact⟨hb,by dsimp only;omega⟩
 ·simp [Zpq] at hp;subst hp;dsimp only at hj;omega
 ·unfold Zpq
  dsimp only
  rw [Zhp hl (by rw [List.getD_eq_getElem?_getD,List.getElem?_replicate,if_pos hb];rfl)]
  simp [List.count_replicate]
end Go.Proofs.YtlogdohlcdhepaaDoor.base
end
