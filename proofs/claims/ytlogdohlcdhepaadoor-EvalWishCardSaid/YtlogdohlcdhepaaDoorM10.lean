/- This text proves, in plain Lean, what it says of a unit that its values stand, and that all that was asked of them holds. No condition. -/
import Derived.Test.YtlogdohlcdhepaaDoorM9
set_option linter.unusedVariables false
set_option linter.unusedSimpArgs false
section
set_option maxRecDepth 100000
namespace Go.Proofs.YtlogdohlcdhepaaDoor.base
open Go.Sh gen
def cnt0 (l:List Int):Nat:=l.countP fun x=>decide (0≤x)
theorem cnt0_set {l:List Int}{k:Nat}{b:Int}(hk:k < l.length)(h:l.getD k 0 < 0)(hb:0≤b):cnt0 (l.set k b)=cnt0 l+1:=by
  unfold cnt0
  induction l generalizing k with
  | nil=>simp at hk
  | cons a r ih =>
    cases k with
    | zero =>
      simp at h
      rw [List.set_cons_zero,List.countP_cons,List.countP_cons,if_pos (by simpa using hb),if_neg (by simpa using h)]
    | succ k =>
      rw [List.set_cons_succ,List.countP_cons,List.countP_cons,ih (by simpa using hk) (by simpa using h)]
      omega
structure SInv (u:UnT.D)(n:Nat)(s:StS):Prop where
  lb:s.1.length=nv u
  lp:s.2.1.length=nv u
  ct:s.2.2.2=cnt0 s.1
  le:∀ i < nv u,s.1.getD i 0 < n
theorem standV_some {u:UnT.D}{b k:Nat}{s s':StS}{v:Int}(h:standV u b k s v=some s'):∃ n:Nat,v=(n:Int)∧n < nv u∧s.1.getD n 0 < 0∧s'=(s.1.set n b,s.2.1.set n k,isHead (valD u v).1,s.2.2.2+1)∧
    ¬ (isHead (valD u v).1 && !s.2.2.1=true∨(decide ((valD u v).1=1) != decide (b=0)) && isHead (valD u v).1=true):=by
  unfold standV at h
  split at h
  · cases h
  · rename_i h1
    split at h
    · cases h
    · rename_i h2
      simp only [Bool.or_eq_true,Bool.not_eq_true',decide_eq_true_eq,not_or] at h1
      obtain⟨h1,h3⟩:=h1
      have h1':belowF v (nv u)=true:=by simpa using h1
      unfold belowF at h1'
      simp only [Bool.and_eq_true,decide_eq_true_eq] at h1'
      refine⟨v.toNat,by omega,by omega,by omega,?_,by simpa using h2⟩
      simpa using h.symm
theorem SInv.step {u:UnT.D}{N b k:Nat}{s s':StS}{v:Int}(hi:SInv u N s)(hb:b < N)(h:standV u b k s v=some s'):SInv u N s':=by
  obtain⟨n,rfl,hn,hneg,rfl,_⟩:=standV_some h
  refine⟨by simpa using hi.lb,by simpa using hi.lp,?_,?_⟩
  · dsimp only
    rw [cnt0_set (by rw [hi.lb];exact hn) hneg (by omega),hi.ct]
  · intro i hiv
    dsimp only
    rw [getD_set _ _ _ _ (by rw [hi.lb];exact hn)]
    split
    · omega
    · exact hi.le i hiv
theorem standV_keep {u:UnT.D}{b k:Nat}{s s':StS}{v:Int}(hl:s.1.length=nv u∧s.2.1.length=nv u)(h:standV u b k s v=some s'){i:Nat}(h0:0≤s.1.getD i 0):s'.1.getD i 0=s.1.getD i 0∧s'.2.1.getD i 0=s.2.1.getD i 0:=by
  obtain⟨n,rfl,hn,hneg,rfl,_⟩:=standV_some h
  dsimp only
  have hne:n≠i:=by intro e;rw [e] at hneg;omega
  rw [getD_set _ _ _ _ (by rw [hl.1];exact hn),if_neg hne,getD_set _ _ _ _ (by rw [hl.2];exact hn),if_neg hne]
  exact⟨rfl,rfl⟩
theorem standR_inv {u:UnT.D}{N b:Nat}(hb:b < N){l:List Int}{k:Nat}{s s':StS}(hi:SInv u N s)(h:standR u b k l s=some s') :
    SInv u N s'∧(∀ i,0≤s.1.getD i 0→s'.1.getD i 0=s.1.getD i 0∧s'.2.1.getD i 0=s.2.1.getD i 0)∧
    (∀ j < l.length,∃ n:Nat,l.getD j 0=(n:Int)∧n < nv u∧s'.1.getD n 0=b∧s'.2.1.getD n 0=((k+j:Nat):Int)):=by
  induction l generalizing k s with
  | nil =>
    rw [standR,Option.some.injEq] at h
    subst h
    exact⟨hi,fun i _=>⟨rfl,rfl⟩,fun j hj=>by simp at hj⟩
  | cons v r ih =>
    rw [standR] at h
    cases hv:standV u b k s v with
    | none=>rw [hv] at h;cases h
    | some s1 =>
      rw [hv,Option.bind_some] at h
      have i1:=hi.step hb hv
      obtain⟨a1,a2,a3⟩:=ih i1 h
      have kp:=fun {i:Nat}=>standV_keep (i:=i) ⟨hi.lb,hi.lp⟩ hv
      refine⟨a1,fun i h0=>?_,fun j hj=>?_⟩
      · have k1:=kp h0
        have k2:=a2 i (by rw [k1.1];exact h0)
        exact⟨k2.1.trans k1.1,k2.2.trans k1.2⟩
      · cases j with
        | zero =>
          obtain⟨n,rfl,hn,hneg,e1,_⟩:=standV_some hv
          have e2:s1.1.getD n 0=b:=by rw [e1];dsimp only;rw [getD_set _ _ _ _ (by rw [hi.lb];exact hn),if_pos rfl]
          have e3:s1.2.1.getD n 0=k:=by rw [e1];dsimp only;rw [getD_set _ _ _ _ (by rw [hi.lp];exact hn),if_pos rfl]
          have k2:=a2 n (by rw [e2];omega)
          exact⟨n,rfl,hn,k2.1.trans e2,k2.2.trans e3⟩
        | succ j =>
          obtain⟨n,g1,g2,g3,g4⟩:=a3 j (by simpa using hj)
          exact⟨n,by simpa using g1,g2,g3,by rw [g4];omega⟩
theorem standB_inv {u:UnT.D}{N:Nat}{bs:List BlkT.D}{b:Nat}{s s':StS}(hN:b+bs.length≤N)(hi:SInv u N s)(h:standB u b bs s=some s') :
    SInv u N s'∧(∀ i,0≤s.1.getD i 0→s'.1.getD i 0=s.1.getD i 0∧s'.2.1.getD i 0=s.2.1.getD i 0)∧
    (∀ (j:Nat) (x:BlkT.D),bs[j]?=some x→∀ q < List.length x.1,∃ n:Nat,(show List Int from x.1).getD q 0=(n:Int)∧n < nv u∧s'.1.getD n 0=((b+j:Nat):Int)∧s'.2.1.getD n 0=(q:Int)):=by
  induction bs generalizing b s with
  | nil =>
    rw [standB,Option.some.injEq] at h
    subst h
    exact⟨hi,fun i _=>⟨rfl,rfl⟩,fun j x hj=>by simp at hj⟩
  | cons y r ih =>
    rw [standB] at h
    cases hv:standR u b 0 y.1 (s.1,s.2.1,true,s.2.2.2) with
    | none=>rw [hv] at h;cases h
    | some s1 =>
      rw [hv,Option.bind_some] at h
      rw [List.length_cons] at hN
      obtain⟨i1,i2,i3⟩:=standR_inv (N:=N) (by omega) (s:=(s.1,s.2.1,true,s.2.2.2)) ⟨hi.lb,hi.lp,hi.ct,hi.le⟩ hv
      obtain⟨a1,a2,a3⟩:=ih (by omega) i1 h
      refine⟨a1,fun i h0=>?_,fun j x hj q hq=>?_⟩
      · have k1:=i2 i h0
        have k2:=a2 i (by rw [k1.1];exact h0)
        exact⟨k2.1.trans k1.1,k2.2.trans k1.2⟩
      · cases j with
        | zero =>
          simp at hj
          subst hj
          obtain⟨n,g1,g2,g3,g4⟩:=i3 q hq
          have k2:=a2 n (by rw [g3];omega)
          exact⟨n,g1,g2,k2.1.trans (by rw [g3,Nat.add_zero]),k2.2.trans (by rw [g4,Nat.zero_add])⟩
        | succ j =>
          obtain⟨n,g1,g2,g3,g4⟩:=a3 j x (by simpa using hj) q hq
          exact⟨n,g1,g2,by rw [g3];omega,g4⟩
structure StandOk (u:UnT.D)(bl pl:List Int):Prop where
  lb:bl.length=nv u
  lp:pl.length=nv u
  bb:∀ i < nv u,0≤bl.getD i 0∧bl.getD i 0 < nb u
  at_:∀ b < nb u,∀ q < (vlD u b).length,∃ n:Nat,(vlD u b).getD q 0=(n:Int)∧n < nv u∧bl.getD n 0=(b:Int)∧pl.getD n 0=(q:Int)
theorem standF_ok {u:UnT.D}{s:StS}(h:standF u=some s):StandOk u s.1 s.2.1:=by
  unfold standF at h
  cases hB:standB u 0 u.2.2.2.1 (List.replicate (nv u) (-1),List.replicate (nv u) 0,true,0) with
  | none=>rw [hB] at h;cases h
  | some s1 =>
    rw [hB] at h
    have h2:=(Option.filter_eq_some_iff.1 h)
    obtain⟨h3,h4⟩:=h2
    simp only [Option.some.injEq] at h3
    subst h3
    have i0:SInv u (nb u) (List.replicate (nv u) (-1),List.replicate (nv u) 0,true,0):=by
      refine⟨by simp,by simp,?_,fun i hi=>?_⟩
      · simp [cnt0,List.countP_replicate]
      · dsimp only
        rw [List.getD_eq_getElem?_getD,List.getElem?_replicate,if_pos hi]
        simp
        omega
    obtain⟨a1,_,a3⟩:=standB_inv (N:=nb u) (by rw [Nat.zero_add];exact Nat.le_refl _) i0 hB
    have hc:cnt0 s1.1=s1.1.length:=by rw [a1.lb,← a1.ct];simpa using h4
    refine⟨a1.lb,a1.lp,fun i hi=>⟨?_,a1.le i hi⟩,fun b hb q hq=>?_⟩
    · have:=List.countP_eq_length.1 hc
      have:=this (s1.1.getD i 0) (getD_mem (by rw [a1.lb];exact hi))
      simpa using this
    · have e:vlD u b=(u.2.2.2.1[b]).1:=congrArg (fun x:BlkT.D=>x.1) (blkD_eq hb)
      rw [e] at hq ⊢
      have:=a3 b _ (List.getElem?_eq_getElem hb) q hq
      rw [Nat.zero_add] at this
      exact this
end Go.Proofs.YtlogdohlcdhepaaDoor.base
end
section
set_option maxRecDepth 100000
namespace Go.Proofs.YtlogdohlcdhepaaDoor.base
open Go.Sh gen
structure SizeOk (u:UnT.D):Prop where
  b:∀ b∈u.2.2.2.1,List.length b.1≤20000000000000∧List.length b.2.2.2.1≤20000000000000∧List.length b.2.2.2.2.1≤20000000000000
  s:∀ s∈u.2.2.2.2.1,List.length s.1≤20000000000000∧∀ f∈s.1,List.length f.2.2.1≤20000000000000∧List.length f.2.2.2.1≤20000000000000
  v:∀ v∈u.2.2.1,List.length v.2.2.2.2.1 * 8≤140737488351232
def sizeB (u:UnT.D):Bool:=!decide (3000 < nv u) && !decide (300 < nb u) && !decide (1000 < ns u) && !decide (nb u=0)
def stAll (u:UnT.D):Bool:=allF (fun i=>stateF u (stD u i)) 0 (ns u)
def vlAll (u:UnT.D)(bl:List Int):Bool:=allF (valF u bl) 0 (nv u)
def enAll (u:UnT.D):Bool:=allF (fun i=>endsF u (blkD u i)) 0 (nb u)
def ldAll (u:UnT.D):Bool:=allF (ledF u) 0 (nb u)
theorem allF_iff {p:Nat→Bool}{i d:Nat}:allF p i d=true↔∀ k,i≤k→k < i+d→p k=true:=by
  induction d generalizing i with
  | zero=>simp [allF];intro k h1 h2;omega
  | succ d ih =>
    rw [allF,Bool.and_eq_true,ih]
    constructor
    · rintro⟨h1,h2⟩ k hk1 hk2
      by_cases e:k=i
      · rw [e];exact h1
      · exact h2 k (by omega) (by omega)
    · intro h
      exact⟨h i (by omega) (by omega),fun k h1 h2=>h k (by omega) (by omega)⟩
theorem allF_0 {p:Nat→Bool}{n:Nat}:allF p 0 n=true↔∀ k < n,p k=true:=by
  rw [allF_iff]
  exact⟨fun h k hk=>h k (by omega) (by omega),fun h k _ hk=>h k (by omega)⟩
theorem belowF_iff {k n:Int}:belowF k n=true↔0≤k∧k < n:=by
  unfold belowF;simp only [Bool.and_eq_true,decide_eq_true_eq]
theorem thereF_mem {u:UnT.D}{l:List Int}(h:thereF u l=true):∀ z∈l,(0:Int)≤z∧z < nv u:=by
  intro z hz
  unfold thereF at h
  have:=List.all_eq_true.1 h z hz
  rw [Bool.and_eq_true] at this
  exact belowF_iff.1 this.1
theorem blkD_mem {u:UnT.D}{i:Nat}(h:i < nb u):blkD u i∈u.2.2.2.1:=by rw [blkD_eq h];exact List.getElem_mem h
theorem valD_mem {u:UnT.D}{i:Nat}(h:i < nv u):valD u (i:Int)∈u.2.2.1:=by rw [valD_eq h];exact List.getElem_mem h
theorem endsF_iff {u:UnT.D}{b:BlkT.D}(h:endsF u b=true):(∀ k∈(show List Int from b.2.2.2.1),(0:Int)≤k∧k < nb u)∧
    ((b.2.1=1∧List.length b.2.2.2.1=1)∨(b.2.1=2∧List.length b.2.2.2.1=2∧thereF u [(show Int from b.2.2.1)]=true)∨(b.2.1=3∧List.length b.2.2.2.1=0∧(0:Int)≤b.2.2.2.2.2.1∧(show Int from b.2.2.2.2.2.1) < ns u)):=by
  unfold endsF at h
  rw [Bool.and_eq_true] at h
  obtain⟨h1,h2⟩:=h
  refine⟨fun k hk=>belowF_iff.1 (List.all_eq_true.1 h1 k hk),?_⟩
  split at h2
  · rename_i e;exact Or.inl ⟨e,of_decide_eq_true h2⟩
  · split at h2
    · rename_i e
      rw [Bool.and_eq_true] at h2
      exact Or.inr (Or.inl ⟨e,of_decide_eq_true h2.1,h2.2⟩)
    · split at h2
      · rename_i e
        rw [Bool.and_eq_true] at h2
        exact Or.inr (Or.inr ⟨e,of_decide_eq_true h2.1,belowF_iff.1 h2.2⟩)
      · cases h2
theorem nxOk_of {u:UnT.D}(h:enAll u=true):NxOk u:=by
  intro b hb
  obtain⟨i,hi,rfl⟩:=List.mem_iff_getElem.1 hb
  have:=allF_0.1 h i hi
  rw [blkD_eq hi] at this
  obtain⟨h1,h2⟩:=endsF_iff this
  refine⟨?_,h1⟩
  rcases h2 with h2 | h2 | h2 <;> omega
theorem ledF_at {u:UnT.D}(h:ldAll u=true)(hb:0 < nb u):∀ k < nb u,(aheadF u).getD k []=prD u k∧(k=0→prD u k=[]):=by
  intro k hk
  have h0:=allF_0.1 h 0 hb
  unfold ledF at h0
  rw [Bool.and_eq_true] at h0
  have h1:allF (ledA u) 0 (nb u)=true:=by simpa using h0.1
  have h2:=allF_0.1 h1 k hk
  unfold ledA at h2
  rw [Bool.and_eq_true] at h2
  have e:(aheadF u).getD k []=prD u k:=by
    have:=h2.1
    unfold eqF at this
    exact of_decide_eq_true this
  refine⟨e,fun k0=>?_⟩
  have h3:=h2.2
  rw [e] at h3
  simp [k0] at h3
  rw [k0];exact h3
theorem sizeB_iff {u:UnT.D}(h:sizeB u=true):nv u≤3000∧nb u≤300∧ns u≤1000∧0 < nb u:=by
  unfold sizeB at h
  rw [Bool.and_eq_true,Bool.and_eq_true,Bool.and_eq_true] at h
  obtain⟨⟨⟨h1,h2⟩,h3⟩,h4⟩:=h
  have g1:¬ 3000 < nv u:=fun e=>by rw [decide_eq_true e] at h1;cases h1
  have g2:¬ 300 < nb u:=fun e=>by rw [decide_eq_true e] at h2;cases h2
  have g3:¬ 1000 < ns u:=fun e=>by rw [decide_eq_true e] at h3;cases h3
  have g4:¬ nb u=0:=fun e=>by rw [decide_eq_true e] at h4;cases h4
  exact⟨Nat.not_lt.1 g1,Nat.not_lt.1 g2,Nat.not_lt.1 g3,Nat.pos_of_ne_zero g4⟩
theorem sizeB_pos {u:UnT.D}(h:sizeB u=true):0 < nb u:=(sizeB_iff h).2.2.2
theorem tkOk_of {u:UnT.D}(hz:SizeOk u)(hsb:sizeB u=true)(hst:stAll u=true){s:StS}(hs:standF u=some s)(hv:vlAll u s.1=true)(he:enAll u=true)(hl:ldAll u=true):TkOk u:=by
  have hS:=standF_ok hs
  have hb0:0 < nb u:=sizeB_pos hsb
  have hvv:∀ n < nv u,valF u s.1 n=true:=allF_0.1 hv
  refine⟨fun i hi=>⟨(hz.b _ (blkD_mem hi)).1,fun n hn=>?_⟩,fun i hi p hp=>?_,fun n hn=>?_,fun n hn=>hz.v _ (valD_mem hn),fun i hi n hn h21=>?_,fun n hn hlv=>?_,fun k hk=>?_,fun i hi h2=>?_,fun i hi h3=>?_⟩
  · obtain⟨q,hq,rfl⟩:=List.mem_iff_getElem.1 hn
    obtain⟨x,h1,h2,_⟩:=hS.at_ i hi q hq
    rw [List.getD_eq_getElem?_getD,List.getElem?_eq_getElem hq] at h1
    have h1':(vlD u i)[q]=(x:Int):=h1
    rw [h1'];omega
  · rw [← (ledF_at hl hb0 i hi).1] at hp
    exact aheadF_mem u i p hp
  · have:=hvv n hn
    unfold valF at this
    rw [Bool.and_eq_true,Bool.and_eq_true,Bool.and_eq_true] at this
    exact thereF_mem this.1.1.2
  · obtain⟨q,hq,rfl⟩:=List.mem_iff_getElem.1 hn
    obtain⟨x,h1,h2,h4,_⟩:=hS.at_ i hi q hq
    rw [List.getD_eq_getElem?_getD,List.getElem?_eq_getElem hq] at h1
    have h1':(vlD u i)[q]=(x:Int):=h1
    rw [h1'] at h21 ⊢
    have:=hvv x h2
    unfold valF at this
    rw [Bool.and_eq_true,if_neg (by rw [h21];decide),if_pos h21,h4] at this
    have:=of_decide_eq_true this.2
    rw [this]
    unfold predsN
    rw [Int.toNat_natCast]
  · have:=hvv n hn
    unfold valF at this
    rw [Bool.and_eq_true,Bool.and_eq_true,hlv] at this
    exact belowF_iff.1 (by simpa using this.1.2)
  · have:=allF_0.1 hst k hk
    unfold stateF at this
    simp only [Bool.and_eq_true,Bool.not_eq_true',decide_eq_false_iff_not] at this
    obtain⟨⟨h1,h2⟩,h3⟩:=this
    refine⟨by omega,fun f hf=>?_⟩
    have:=List.all_eq_true.1 h3 f hf
    unfold frameF at this
    simp only [Bool.and_eq_true,Bool.not_eq_true',decide_eq_false_iff_not] at this
    obtain⟨⟨⟨g1,g2⟩,g3⟩,g4⟩:=this
    exact⟨by omega,by omega,thereF_mem g3,thereF_mem g4⟩
  · obtain⟨_,g⟩:=endsF_iff (allF_0.1 he i hi)
    rcases g with⟨g1,_⟩ | ⟨_,_,g⟩ | ⟨g1,_⟩
    · rw [g1] at h2;exact absurd h2 (by decide)
    · exact thereF_mem g _ (by simp)
    · rw [g1] at h2;exact absurd h2 (by decide)
  · obtain⟨_,g⟩:=endsF_iff (allF_0.1 he i hi)
    rcases g with⟨g1,_⟩ | ⟨g1,_⟩ | ⟨_,_,g⟩
    · rw [g1] at h3;exact absurd h3 (by decide)
    · rw [g1] at h3;exact absurd h3 (by decide)
    · exact g
end Go.Proofs.YtlogdohlcdhepaaDoor.base
end
section
set_option maxRecDepth 100000
namespace Go.Proofs.YtlogdohlcdhepaaDoor.base
open Go.Sh gen
variable {S:Sums}{m:Mem}
def preF (u:UnT.D):Option StS:=
  if sizeB u && stAll u then (standF u).filter fun s=>vlAll u s.1 && enAll u && ldAll u else none
def checkP (u:UnT.D)(O I:List Int):Bool:=match preF u with
  | none=>false
  | some s=>decide (O.length=nb u) && allF (takenF u s.1 s.2.1 I) 0 (nb u)
structure TermH (u:UnT.D)(O I:List Int):Prop where
  ord:∃ D O',ordIt u D (ord0 u)=some O'∧O'.reverse=O
  on:O.length=nb u→∀ x∈O,(0:Int)≤x∧x < nb u
  dom:O.length=nb u→∃ J D2 I',DomJ u (placeF (nb u) O) (O.drop 1) J∧J 0 ((List.replicate (nb u) (-1)).set 0 0)∧domIt u (placeF (nb u) O) (O.drop 1) D2 ((List.replicate (nb u) (-1)).set 0 0,true)=some I'∧I=I'.set 0 (-1)
  ii:O.length=nb u→I.length=nb u∧∀ x < nb u,I.getD x 0 < nb u
  up:O.length=nb u→∀ (a:Int) (b:Nat),b < nb u→∃ d,d < nb u+2∧upIt I a d b=some (upF I a (nb u+2) b)
structure Nk (S:Sums):Prop where
  check:S 22=[]
  all:S 46=[]
  state:S 47=[]
  stand:S 48=[]
  ends:S 50=[]
  om:S 52=[]
  c:Nc S
  l:Nl S
  d:Nd S
  t:Nt S
theorem om_run (hN:Nk S){Q:Nat→Prop}{u:UnT.D}{vo bo so:Option Addr}(hU:UAt Q m u vo bo so)(hQ:∀ f,Q f→f < m.next)(hb0:0 < nb u)(hnb:nb u≤1000)(hnx:NxOk u)
    {D:Nat} {O:List Int} (hO:ordIt u D (ord0 u)=some O) {cb cf:Nat} {r1 r2 r3:Value} (hC:Own m cb (ckC u vo bo so r1 r2 r3) 99 cf) :
    ∃ v m1,callw Tryd.prog TT S 52 [.pointer (some ⟨cb,0,none⟩)] m=some (v,m1)∧OrdP m m1 O.reverse v∧Keeps m m1 []:=by
  have lu:=hC.load (off:=0) 5 (by simp)
  simp [window] at lu
  have hcu:(uCells u vo bo so).toArray=#[.int .i64 u.1,.int .i64 u.2.1,.slice vo (nv u) (nv u),.slice bo (nb u) (nb u),.slice so (ns u) (ns u)]:=rfl
  obtain⟨v,m1,c1,p1,k1⟩:=order_run hN.d.order hN.d.below hN.d.rev hU hQ hb0 hnb hnx hO
  rw [hcu] at c1
  refine fn_w 3 [] k52 hN.om rfl ?_
  simp [-Int.natCast_add,-List.map_reverse,fieldAddr_of fa99_0,load_agg ld34,lu,c1]
  exact⟨p1,k1⟩
set_option maxHeartbeats 16000000 in
theorem check_run (hN:Nk S){Q:Nat→Prop}{u:UnT.D}{vo bo so:Option Addr}(hU:UAt Q m u vo bo so)(hQ:∀ f,Q f→f < m.next)(hz:SizeOk u)(hzv:nv u≤20000000000000)(hzb:nb u≤20000000000000)(hzs:ns u≤20000000000000){O I:List Int}(hT:∀ s,preF u=some s→TermH u O I) :
    ∃ v m1,callw Tryd.prog TT S 22 [.agg (uCells u vo bo so).toArray] m=some (v,m1)∧v=.bool (checkP u O I)∧Keeps m m1 []:=by
  obtain⟨oU,kU,nU⟩:=new_own (m:=m) (cs:=uCells u vo bo so) (e:=34) rfl
  obtain⟨mB,hmB⟩:∃ mB,m.new (uCells u vo bo so) 34=mB:=⟨_,rfl⟩
  obtain⟨ub,hub⟩:∃ ub,m.next=ub:=⟨_,rfl⟩
  rw [hmB,hub] at oU nU
  rw [hmB] at kU
  have u2:=oU.load1 (off:=2) rfl
  have u3:=oU.load1 (off:=3) rfl
  have u4:=oU.load1 (off:=4) rfl
  have lu:=oU.load (off:=0) 5 (by simp)
  simp [window] at lu
  obtain⟨R,hR⟩:∃ R,checkP u O I=R:=⟨_,rfl⟩
  rw [hR]
  have hno:preF u=none→R=false:=fun h=>by rw [← hR];unfold checkP;rw [h]
  refine fn_w 5 [26,72,80] k22 hN.check rfl ?_
  have hcu:(uCells u vo bo so).toArray=#[.int .i64 u.1,.int .i64 u.2.1,.slice vo (nv u) (nv u),.slice bo (nb u) (nb u),.slice so (ns u) (ns u)]:=rfl
  by_cases q1:3000 < nv u
  · have q1':(3000:Int) < nv u:=by omega
    have:R=false:=hno (by unfold preF sizeB;simp [q1])
    rw [this]
    simp [-Int.natCast_add,box_of b34,fieldAddr_of fa34_2,load_of ld30,len_slice u30,fieldAddr_of fa34_3,load_of ld31,len_slice u31,fieldAddr_of fa34_4,load_of ld32,len_slice u32,hmB,hub,u2,q1']
    exact kU
  have q1':¬ (3000:Int) < nv u:=by omega
  by_cases q2:300 < nb u
  · have q2':(300:Int) < nb u:=by omega
    have:R=false:=hno (by unfold preF sizeB;simp [q2])
    rw [this]
    simp [-Int.natCast_add,box_of b34,fieldAddr_of fa34_2,load_of ld30,len_slice u30,fieldAddr_of fa34_3,load_of ld31,len_slice u31,fieldAddr_of fa34_4,load_of ld32,len_slice u32,hmB,hub,u2,u3,q1',q2']
    exact kU
  have q2':¬ (300:Int) < nb u:=by omega
  by_cases q3:1000 < ns u
  · have q3':(1000:Int) < ns u:=by omega
    have:R=false:=hno (by unfold preF sizeB;simp [q3])
    rw [this]
    simp [-Int.natCast_add,box_of b34,fieldAddr_of fa34_2,load_of ld30,len_slice u30,fieldAddr_of fa34_3,load_of ld31,len_slice u31,fieldAddr_of fa34_4,load_of ld32,len_slice u32,hmB,hub,u2,u3,u4,q1',q2',q3']
    exact kU
  have q3':¬ (1000:Int) < ns u:=by omega
  by_cases q4:nb u=0
  · have:R=false:=hno (by unfold preF sizeB;simp [q4])
    rw [this]
    simp [-Int.natCast_add,box_of b34,fieldAddr_of fa34_2,load_of ld30,len_slice u30,fieldAddr_of fa34_3,load_of ld31,len_slice u31,fieldAddr_of fa34_4,load_of ld32,len_slice u32,hmB,hub,u2,u3,u4,q1',q3',q4]
    exact kU
  have q4':¬ (nb u:Int)=0:=by omega
  have hsz:sizeB u=true:=by unfold sizeB;rw [decide_eq_false q1,decide_eq_false q2,decide_eq_false q3,decide_eq_false q4];rfl
  obtain⟨oK,kK,nK⟩:=new_own (m:=mB) (cs:=ckC u vo bo so (.slice none 0 0) (.slice none 0 0) (.slice none 0 0)) (e:=99) rfl
  obtain⟨mK,hmK⟩:∃ mZ,mB.new (ckC u vo bo so (.slice none 0 0) (.slice none 0 0) (.slice none 0 0)) 99=mZ:=⟨_,rfl⟩
  obtain⟨cb,hcb⟩:∃ ub,mB.next=ub:=⟨_,rfl⟩
  rw [hmK,hcb] at oK nK
  rw [hmK] at kK
  have KK:=kU.trans kK
  have hUK:=hU.keep KK (by simp)
  have hQK:∀ f,Q f→f < cb:=fun f hf=>by have:=hQ f hf;omega
  have hqc:¬ Q cb:=fun h=>by have:=hQK _ h;omega
  have oUK:=oU.keep kK (by simp)
  have uK4:=oUK.load1 (off:=4) rfl
  simp [-Int.natCast_add,-w22_4,box_of b34,fieldAddr_of fa34_2,load_of ld30,len_slice u30,fieldAddr_of fa34_3,load_of ld31,len_slice u31,fieldAddr_of fa34_4,load_of ld32,len_slice u32,load_agg ld34,build_of bo99,box_of b99,hmB,hub,u2,u3,u4,q1',q2',q3',q4,lu,hmK,hcb]
  clear u2 u3 u4 lu
  have ubc:ub≠cb:=by omega
  obtain⟨_,m1,c1,rfl,k1⟩:=all_run (m:=mK) (g:=47) (cb:=cb) (n:=ns u) hN.all (by omega) (fun i=>stateF u (stD u i)) (fun i mF hi kF=>by
    obtain⟨_,mG,cG,rfl,kG⟩:=state_run hN.state hN.c.there hN.c.below (hUK.keep kF (by simp)) (by omega) (oK.keep kF (by simp)) hi (by omega) (stD_eq hi).symm (by rw [stD_eq hi];exact (hz.s _ (List.getElem_mem hi)).1) (by rw [stD_eq hi];exact (hz.s _ (List.getElem_mem hi)).2)
    exact⟨mG,cG,kG⟩)
  have hst:stAll u=allF (fun i=>stateF u (stD u i)) 0 (ns u):=rfl
  rw [← hst] at c1
  have K1:=KK.trans k1
  cases hsa:stAll u
  · rw [hsa] at c1
    have:R=false:=hno (by unfold preF;rw [hsa];simp)
    rw [this]
    simp [-Int.natCast_add,fieldAddr_of fa34_2,load_of ld30,len_slice u30,fieldAddr_of fa34_3,load_of ld31,len_slice u31,fieldAddr_of fa34_4,load_of ld32,len_slice u32,uK4,c1]
    exact K1
  rw [hsa] at c1
  have o1:=oK.keep k1 (by simp)
  have hU1:=hU.keep K1 (by simp)
  obtain⟨_,m2,c2,⟨rfl,hst2⟩,k2⟩:=stand_run hN.stand hN.c.below hU1 (fun f hf=>by have:=hQ f hf;have:=K1.1;omega) (by omega) (by omega) o1 hqc (fun b hb=>(hz.b b hb).1)
  have K2:Keeps m m2 []:=K1.fresh k2 (by simp;omega)
  cases hsf:standF u with
  | none =>
    rw [hsf] at c2
    have:R=false:=hno (by unfold preF;rw [hsf];simp)
    rw [this]
    simp [-Int.natCast_add,fieldAddr_of fa34_2,load_of ld30,len_slice u30,fieldAddr_of fa34_3,load_of ld31,len_slice u31,fieldAddr_of fa34_4,load_of ld32,len_slice u32,uK4,c1,c2]
    exact K2
  | some s =>
    rw [hsf] at c2
    obtain⟨b1,b2,f1,f2,C2,hf1,hf2⟩:=hst2 s hsf
    have hSo:=standF_ok hsf
    have oU2:=(oUK.keep k1 (by simp)).keep k2 (by simp;omega)
    have uu2:=oU2.load1 (off:=2) rfl
    have hU2:=hU.keep K2 (by simp)
    obtain⟨_,m3,c3,rfl,k3⟩:=all_run (m:=m2) (g:=49) (cb:=cb) (n:=nv u) hN.all (by omega) (valF u s.1) (fun i mF hi kF=>by
      obtain⟨_,mG,cG,rfl,kG⟩:=val_run hN.c (hU2.keep kF (by simp)) (by omega) (by omega) (by omega) (C2.keep0 kF) hSo.lb hSo.bb hi (hz.v _ (valD_mem hi))
      exact⟨mG,cG,kG⟩)
    have hvl:vlAll u s.1=allF (valF u s.1) 0 (nv u):=rfl
    rw [← hvl] at c3
    have K3:=K2.trans k3
    cases hva:vlAll u s.1
    · rw [hva] at c3
      have:R=false:=hno (by unfold preF;rw [hsf,hsz,hsa];simp [Option.filter,hva])
      rw [this]
      simp [-Int.natCast_add,fieldAddr_of fa34_2,load_of ld30,len_slice u30,fieldAddr_of fa34_3,load_of ld31,len_slice u31,fieldAddr_of fa34_4,load_of ld32,len_slice u32,uK4,c1,c2,uu2,c3]
      exact K3
    rw [hva] at c3
    have oU3:=oU2.keep k3 (by simp)
    have uu3:=oU3.load1 (off:=3) rfl
    have hU3:=hU.keep K3 (by simp)
    have C3:=C2.keep0 k3
    obtain⟨_,m4,c4,rfl,k4⟩:=all_run (m:=m3) (g:=50) (cb:=cb) (n:=nb u) hN.all (by omega) (fun i=>endsF u (blkD u i)) (fun i mF hi kF=>by
      obtain⟨_,mG,cG,rfl,kG⟩:=ends_run hN.ends hN.c.there hN.c.below (hU3.keep kF (by simp)) (by omega) (by omega) ((C3.keep0 kF).c) hi (blkD_eq hi).symm (hz.b _ (blkD_mem hi)).2.1
      exact⟨mG,cG,kG⟩)
    have hel:enAll u=allF (fun i=>endsF u (blkD u i)) 0 (nb u):=rfl
    rw [← hel] at c4
    have K4:=K3.trans k4
    cases hea:enAll u
    · rw [hea] at c4
      have:R=false:=hno (by unfold preF;rw [hsf,hsz,hsa];simp [Option.filter,hva,hea])
      rw [this]
      simp [-Int.natCast_add,fieldAddr_of fa34_2,load_of ld30,len_slice u30,fieldAddr_of fa34_3,load_of ld31,len_slice u31,fieldAddr_of fa34_4,load_of ld32,len_slice u32,uK4,c1,c2,uu2,c3,uu3,c4]
      exact K4
    rw [hea] at c4
    have oU4:=oU3.keep k4 (by simp)
    have vv3:=oU4.load1 (off:=3) rfl
    have hU4:=hU.keep K4 (by simp)
    have C4:=C3.keep0 k4
    have hnx:=nxOk_of hea
    obtain⟨_,m5,c5,rfl,k5⟩:=all_run (m:=m4) (g:=51) (cb:=cb) (n:=nb u) hN.all (by omega) (ledF u) (fun i mF hi kF=>by
      obtain⟨_,mG,cG,rfl,kG⟩:=led_run hN.l (hU4.keep kF (by simp)) (fun f hf=>by have:=hQ f hf;have:=K4.1;have:=kF.1;omega) (by omega) hnx (fun b hb=>(hz.b b hb).2.2) ((C4.keep0 kF).c) hi
      exact⟨mG,cG,kG⟩)
    have hll:ldAll u=allF (ledF u) 0 (nb u):=rfl
    rw [← hll] at c5
    have K5:=K4.trans k5
    cases hla:ldAll u
    · rw [hla] at c5
      have:R=false:=hno (by unfold preF;rw [hsf,hsz,hsa];simp [Option.filter,hva,hea,hla])
      rw [this]
      simp [-Int.natCast_add,fieldAddr_of fa34_2,load_of ld30,len_slice u30,fieldAddr_of fa34_3,load_of ld31,len_slice u31,fieldAddr_of fa34_4,load_of ld32,len_slice u32,uK4,c1,c2,uu2,c3,uu3,c4,vv3,c5]
      exact K5
    rw [hla] at c5
    have hpre:preF u=some s:=by unfold preF;rw [hsf,hsz,hsa];simp [Option.filter,hva,hea,hla]
    simp [-Int.natCast_add,-w22_6,fieldAddr_of fa34_2,load_of ld30,len_slice u30,fieldAddr_of fa34_3,load_of ld31,len_slice u31,fieldAddr_of fa34_4,load_of ld32,len_slice u32,uK4,c1,c2,uu2,c3,uu3,c4,vv3,c5]
    clear c1 c2 c3 c4 c5 uK4 uu2 uu3 vv3
    have oU5:=oU4.keep k5 (by simp)
    have hU5:=hU.keep K5 (by simp)
    have C5:=C4.keep0 k5
    have hTm:=hT s hpre
    obtain⟨D,O',hO',hOO⟩:=hTm.ord
    obtain⟨vO,m6,c6,⟨po,pf,rfl,_,_⟩,k6⟩:=om_run (O:=O') hN hU5 (fun f hf=>by have:=hQ f hf;have:=K5.1;omega) (by omega) (by omega) hnx hO' C5.c
    rw [hOO] at c6
    have oU6:=oU5.keep k6 (by simp)
    have w3:=oU6.load1 (off:=3) rfl
    have wu:=oU6.load (off:=0) 5 (by simp)
    simp [window] at wu
    have hU6:=hU5.keep k6 (by simp)
    have C6:=C5.keep0 k6
    have K6:=K5.trans k6
    by_cases hOl:O.length=nb u
    case neg =>
      have hOl':¬ (O.length:Int)=nb u:=by omega
      have:R=false:=by rw [← hR];unfold checkP;rw [hpre];simp [hOl]
      rw [this]
      simp [-Int.natCast_add,fieldAddr_of fa34_3,load_of ld31,len_slice u31,len_slice u36,c6,w3,hOl']
      exact K6
    have hOl':(O.length:Int)=nb u:=by omega
    have hOle:((O.length:Int)=nb u)↔True:=by simp [hOl']
    obtain⟨J,D2,I',hJ,hJ0,hD,hI⟩:=hTm.dom hOl
    obtain⟨hIl,hIi⟩:=hTm.ii hOl
    obtain⟨vD,m7,c7,⟨ix,rfl,hix,hixm⟩,k7⟩:=dom_run hN.d hU6 (fun f hf=>by have:=hQ f hf;have:=K6.1;omega) (by omega) (by omega) hnx hO' hOO (hTm.on hOl) (fun e=>by rw [e] at hOl;simp at hOl;omega) (by omega) rfl hJ hJ0 hD
    rw [← hI] at hix
    rw [hcu] at c7
    have K7:=K6.trans k7
    have C7:=C6.keep0 k7
    have cb6:cb < m6.next:=C6.c.flt
    obtain⟨m8,e8,o8,k8⟩:=store_own (r:=_) rfl C7.c (off:=7) (vs:=[.slice (some ⟨ix,0,none⟩) (nb u) (nb u)]) (by simp) (by simp [one_slice])
    simp [over] at o8
    have K8:Keeps m m8 []:=K7.fresh k8 (by simp;omega)
    have C8:Ck3 m8 u vo bo so cb cb b1 b2 f1 f2 ix s.1 s.2.1 I:=⟨⟨C7.o1.keep k8 (by simpa using C7.n2),C7.o2.keep k8 (by simpa using C7.n3),o8,C7.n1,C7.n2,C7.n3⟩,hix.keep k8 (by simp;omega)⟩
    have hU8:=hU.keep K8 (by simp)
    have oU8:=(oU6.keep k7 (by simp)).keep k8 (by simp;omega)
    have x3:=oU8.load1 (off:=3) rfl
    have hRk:Rok u s.1 s.2.1 I:=⟨hSo.lb,hSo.lp,hIl,hSo.bb,hIi,hTm.up hOl⟩
    have hTk:=tkOk_of hz hsz hsa hsf hva hea hla
    obtain⟨_,m9,c9,rfl,k9⟩:=all_run (m:=m8) (g:=54) (cb:=cb) (n:=nb u) hN.all (by omega) (takenF u s.1 s.2.1 I) (fun i mF hi kF=>by
      obtain⟨_,mG,cG,rfl,kG⟩:=taken_run hN.t (hU8.keep kF (by simp)) (C8.keep0 kF) hRk (by omega) (by omega) (by omega) hTk hi
      exact⟨mG,cG,kG⟩)
    have hfin:R=allF (takenF u s.1 s.2.1 I) 0 (nb u):=by rw [← hR];unfold checkP;rw [hpre];simp [hOl]
    rw [← hfin] at c9
    simp [-Int.natCast_add,fieldAddr_of fa34_3,load_of ld31,len_slice u31,load_agg ld34,len_slice u36,fieldAddr_of fa99_3,store_of sz36,c6,w3,hOle,wu,c7,e8,x3,c9]
    exact K8.trans k9
end Go.Proofs.YtlogdohlcdhepaaDoor.base
end
