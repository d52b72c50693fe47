/- This text proves, in plain Lean, that the order's way and the dominators' rounds come to an end for any unit of which all else was asked. No condition. -/
import Derived.Test.YtcgmchechmbmeaaDoorM9
import Derived.Test.YtcgmchechmbmeaaDoorM2
set_option linter.unusedVariables false
set_option linter.unusedSimpArgs false
section
set_option maxRecDepth 100000
namespace Go.Proofs.YtcgmchechmbmeaaDoor.base
open Go.Sh gen
def JJ (u:UnT.D)(P:List Int)(j:Nat)(I:List Int):Prop:=J1 (nb u) (fun b=>(Zal u).getD b []) P j I∨∃ Is,J2 (nb u) (fun b=>(Zal u).getD b []) P j Is I
theorem JJ.d {u:UnT.D}{P I:List Int}{j:Nat}(h:JJ u P j I):DJ (nb u) P I:=by
 rcases h with h | ⟨_,h⟩
 ·exact h.d
 ·exact h.d
theorem Zsy {u:UnT.D}{P T I:List Int}(R:Rpo (nb u) (fun b=>(Zal u).getD b []) P T){j:Nat}(h:JJ u P j I)(hj:j < T.length) :
  ∃ b:Nat,T.getD j 0=(b:Int)∧b < nb u∧b≠0∧JJ u P (j+1) (I.set b (Zgu u P I b))∧0≤Zgu u P I b∧Zgu u P I b < nb u∧(0≤I.getD b 0→P.getD (Zgu u P I b).toNat 0≤P.getD (I.getD b 0).toNat 0):=by
 obtain⟨b,h1,h2,h3,h4⟩:=R.t j hj
 refine⟨b,h1,h2,h3,?_⟩
 rcases h with h | ⟨Is,h⟩
 ·obtain⟨g1,g2,g3,g4⟩:=Z5d R h h2 h3 h4
  exact⟨Or.inl g1,g3,g4,fun h=>by omega⟩
 ·obtain⟨g1,g2,g3,g4⟩:=Z41 R h h2 h3 h4
  exact⟨Or.inr ⟨Is,g1⟩,g2,g3,fun _=>g4⟩
theorem Zkr {u:UnT.D}{P T I:List Int}(R:Rpo (nb u) (fun b=>(Zal u).getD b []) P T)(h:JJ u P T.length I):J2 (nb u) (fun b=>(Zal u).getD b []) P 0 I I:=by
 have hP:∀ x < nb u,P.getD x 0≤(T.length:Int):=fun x hx=>by have:=(R.pn hx).2.1;have:=R.len;omega
 have mk:DJ (nb u) P I→(∀ x < nb u,0≤I.getD x 0)→(∀ x < nb u,x≠0→FwX (nb u) (fun b=>(Zal u).getD b []) P I x)→(∀ x < nb u,x≠0→UpX (nb u) (fun b=>(Zal u).getD b []) P I x)→J2 (nb u) (fun b=>(Zal u).getD b []) P 0 I I:=by
  intro hd hp hf hu
  refine⟨hd,hd,hp,hp,hf,hu,fun x hx h0 _=>hf x hx h0,fun y hy hpy x z h1 h2 _=>?_,fun y hy _=>rfl⟩
  have:y=0:=by
   apply Decidable.byContradiction
   intro h0
   have:=(R.pn hy).2.2 h0
   omega
  subst this
  rw [hd.anc0 h1,hd.anc0 h2]
  exact .refl 0
 rcases h with h | ⟨Is,h⟩
 ·exact mk h.d (fun x hx=>(h.p x hx).2 (hP x hx)) (fun x hx h0=>h.f x hx h0 (hP x hx)) (fun x hx h0=>h.u x hx h0 (hP x hx))
 ·exact mk h.d h.p (fun x hx h0=>h.f x hx h0 (hP x hx)) h.u
theorem Zyf {n:Nat}(hn:0 < n){x:Nat}(hx:x < n):((List.replicate n (-1:Int)).set 0 0).getD x 0=if x=0 then 0 else -1:=by
 rw [Zbd _ _ _ _ (by simpa using hn)]
 by_cases e:x=0
 ·rw [if_pos e.symm,if_pos e]
 ·rw [if_neg (Ne.symm e),if_neg e,List.getD_eq_getElem?_getD,List.getElem?_replicate,if_pos hx];rfl
theorem Z78 {u:UnT.D}{P T:List Int}(R:Rpo (nb u) (fun b=>(Zal u).getD b []) P T):JJ u P 0 ((List.replicate (nb u) (-1)).set 0 0):=by
 have hn:=R.pos
 refine Or.inl ⟨⟨by simp,?_,fun x hx=>?_,fun x hx h0 h=>?_⟩,fun x hx=>?_,fun x hx h0 h=>?_,fun x hx h0 h=>?_⟩
 ·rw [Zyf hn hn,if_pos rfl]
 ·rw [Zyf hn hx];split <;> omega
 ·rw [Zyf hn hx,if_neg h0] at h;omega
 ·rw [Zyf hn hx]
  by_cases e:x=0
  ·rw [if_pos e,e,R.p0];simp
  ·rw [if_neg e]
   have:=(R.pn hx).2.2 e
   constructor <;> intro _ <;> omega
 ·have:=(R.pn hx).2.2 h0;omega
 ·have:=(R.pn hx).2.2 h0;omega
theorem Z4k {u:UnT.D}{P T:List Int}(R:Rpo (nb u) (fun b=>(Zal u).getD b []) P T):Z82 u P T (JJ u P):=by
 refine⟨fun j I h=>h.d.len,fun j I h=>h.d.upOk,fun j I h a b ha hb ha0 hb0=>?_,fun j I h hj=>?_,fun I h=>Or.inr ⟨I,Zkr R h⟩⟩
 ·obtain⟨c,_,⟨D,hD,hm⟩,_⟩:=Zx7 R h.d ha hb ha0 hb0
  exact⟨D,c,hD,hm⟩
 ·obtain⟨b,h1,_,_,h2,_⟩:=Zsy R h hj
  rw [h1,Int.toNat_natCast]
  exact h2
def wI (n:Nat)(P:List Int)(v:Int):Nat:=if v < 0 then n else (P.getD v.toNat 0).toNat
def mI (n:Nat)(P I:List Int):Nat:=(I.map (wI n P)).sum
theorem Z29 (l:List Nat){k:Nat}(hk:k < l.length)(x:Nat):(l.set k x).sum+l.getD k 0=l.sum+x:=by
 induction l generalizing k with
 | nil=>simp at hk
 | cons a r ih =>
  cases k with
  | zero=>simp;omega
  | succ k =>
   have:=ih (k:=k) (by simpa using hk)
   simp at this ⊢
   omega
theorem Z5l {n:Nat}{P I:List Int}{b:Nat}(hb:b < I.length)(v:Int):mI n P (I.set b v)+wI n P (I.getD b 0)=mI n P I+wI n P v:=by
 unfold mI
 rw [List.map_set]
 have:=Z29 (I.map (wI n P)) (k:=b) (by simpa using hb) (wI n P v)
 have e:(I.map (wI n P)).getD b 0=wI n P (I.getD b 0):=by
  rw [List.getD_eq_getElem?_getD,List.getElem?_map,List.getElem?_eq_getElem hb,List.getD_eq_getElem?_getD,List.getElem?_eq_getElem hb];rfl
 rw [e] at this
 exact this
theorem Zt5 {l:List Int}{b:Nat}(hb:b < l.length){v:Int}(h:l.getD b 0=v):l.set b v=l:=by
 apply Zih (by simp)
 intro k hk
 rw [Zbd _ _ _ _ hb]
 split
 ·rename_i e;rw [← e,h]
 ·rfl
theorem Zpn {u:UnT.D}{P T:List Int}(R:Rpo (nb u) (fun b=>(Zal u).getD b []) P T):∀ (k j:Nat) (I:List Int) (ch:Bool),T.length - j=k→j≤T.length→JJ u P j I→
  JJ u P T.length ((T.drop j).foldl (Zoa u P) (I,ch)).1∧mI (nb u) P ((T.drop j).foldl (Zoa u P) (I,ch)).1≤mI (nb u) P I∧
  (((T.drop j).foldl (Zoa u P) (I,ch)).2=true→ch=true∨mI (nb u) P ((T.drop j).foldl (Zoa u P) (I,ch)).1 < mI (nb u) P I)∧
  (((T.drop j).foldl (Zoa u P) (I,ch)).2=false→ch=false∧((T.drop j).foldl (Zoa u P) (I,ch)).1=I∧∀ i,j≤i→i < T.length→I.getD (T.getD i 0).toNat 0=Zgu u P I (T.getD i 0).toNat):=by
 intro k
 induction k with
 | zero =>
  intro j I ch hk hj h
  have:j=T.length:=by omega
  subst this
  rw [List.drop_of_length_le (Nat.le_refl _),List.foldl_nil]
  exact⟨h,Nat.le_refl _,fun h=>Or.inl h,fun h=>⟨h,rfl,fun i h1 h2=>by omega⟩⟩
 | succ k ih =>
  intro j I ch hk hj h
  have hjt:j < T.length:=by omega
  obtain⟨b,h1,h2,h3,h4,h5,h6,h7⟩:=Zsy R h hjt
  have hbl:b < I.length:=by rw [h.d.len];exact h2
  rw [Za7 hjt,List.foldl_cons,h1]
  have eB:Zoa u P (I,ch) (b:Int)=(I.set b (Zgu u P I b),ch || !decide (I.getD b 0=Zgu u P I b)):=by unfold Zoa;rw [Int.toNat_natCast]
  rw [eB]
  obtain⟨g1,g2,g3,g4⟩:=ih (j+1) _ (ch || !decide (I.getD b 0=Zgu u P I b)) (by omega) (by omega) h4
  have hs:=Z5l (n:=nb u) (P:=P) hbl (Zgu u P I b)
  have hd0:=h5
  obtain⟨d,hd⟩:∃ d:Nat,Zgu u P I b=(d:Int):=⟨(Zgu u P I b).toNat,by omega⟩
  have hpd:=R.pn (show d < nb u by omega)
  have wd:wI (nb u) P (Zgu u P I b)=(P.getD d 0).toNat:=by unfold wI;rw [hd,if_neg (by omega),Int.toNat_natCast]
  rw [hd,Int.toNat_natCast] at h7
  have hle:wI (nb u) P (Zgu u P I b)≤wI (nb u) P (I.getD b 0)∧(I.getD b 0≠Zgu u P I b→wI (nb u) P (Zgu u P I b) < wI (nb u) P (I.getD b 0)):=by
   rw [wd]
   by_cases hn:I.getD b 0 < 0
   ·have:wI (nb u) P (I.getD b 0)=nb u:=by unfold wI;rw [if_pos hn]
    rw [this]
    exact⟨by omega,fun _=>by omega⟩
   ·obtain⟨e,he⟩:∃ d:Nat,I.getD b 0=(d:Int):=⟨(I.getD b 0).toNat,by omega⟩
    have hen:e < nb u:=by have:=(h.d.rg b h2).2;omega
    have hpe:=R.pn hen
    have w2:wI (nb u) P (I.getD b 0)=(P.getD e 0).toNat:=by unfold wI;rw [he,if_neg (by omega),Int.toNat_natCast]
    have h8:=h7 (by omega)
    rw [he,Int.toNat_natCast] at h8
    rw [w2,he,hd]
    refine⟨by omega,fun hne=>?_⟩
    have:P.getD d 0≠P.getD e 0:=fun e2=>hne (by rw [R.inj (by omega) hen e2])
    omega
  refine⟨g1,by omega,fun hc=>?_,fun hc=>?_⟩
  ·rcases g3 hc with h9 | h9
   ·rw [Bool.or_eq_true] at h9
    rcases h9 with h9 | h9
    ·exact Or.inl h9
    ·have:=hle.2 (by simpa using h9)
     exact Or.inr (by omega)
   ·exact Or.inr (by omega)
  ·obtain⟨c1,c2,c3⟩:=g4 hc
   rw [Bool.or_eq_false_iff] at c1
   have heq:I.getD b 0=Zgu u P I b:=by simpa using c1.2
   have hss:=Zt5 hbl heq
   rw [hss] at c2 c3
   refine⟨c1.1,by rw [hss];exact c2,fun i hi1 hi2=>?_⟩
   by_cases e:i=j
   ·rw [e,h1,Int.toNat_natCast];exact heq
   ·exact c3 i (by omega) hi2
theorem Z21 {u:UnT.D}{P T:List Int}(R:Rpo (nb u) (fun b=>(Zal u).getD b []) P T):∀ (M:Nat) (I:List Int),JJ u P 0 I→mI (nb u) P I≤M→
    ∃ D I',Zgr u P T D (I,true)=some I'∧J2 (nb u) (fun b=>(Zal u).getD b []) P 0 I' I'∧∀ b < nb u,b≠0→I'.getD b 0=Zgu u P I' b:=by
  intro M
  induction M with
  | zero =>
    intro I h hM
    obtain⟨g1,g2,g3,g4⟩:=Zpn R _ 0 I false rfl (by omega) h
    rw [List.drop_zero] at g1 g2 g3 g4
    cases hc:(T.foldl (Zoa u P) (I,false)).2 with
    | true => rcases g3 hc with h1 | h1
              · cases h1
              · omega
    | false =>
      obtain⟨_,c2,c3⟩:=g4 hc
      rw [c2] at g1
      have e:Z0g u P T (I,false)=(I,false):=Prod.ext c2 hc
      refine⟨1,I,by rw [Zgr,if_pos rfl,e];rfl,Zkr R g1,fun b hb hb0=>?_⟩
      obtain⟨i,hi,hT⟩:=R.all b hb hb0
      have:=c3 i (by omega) hi
      rwa [hT,Int.toNat_natCast] at this
  | succ M ih =>
    intro I h hM
    obtain⟨g1,g2,g3,g4⟩:=Zpn R _ 0 I false rfl (by omega) h
    rw [List.drop_zero] at g1 g2 g3 g4
    cases hc:(T.foldl (Zoa u P) (I,false)).2 with
    | true =>
      have h1:mI (nb u) P (T.foldl (Zoa u P) (I,false)).1 < mI (nb u) P I:=by
        rcases g3 hc with h1 | h1
        · cases h1
        · exact h1
      obtain⟨D,I',e1,e2,e3⟩:=ih _ (Or.inr ⟨_,Zkr R g1⟩) (by omega)
      have e:Z0g u P T (I,false)=((T.foldl (Zoa u P) (I,false)).1,true):=Prod.ext rfl hc
      exact⟨D+1,I',by rw [Zgr,if_pos rfl,e];exact e1,e2,e3⟩
    | false =>
      obtain⟨_,c2,c3⟩:=g4 hc
      rw [c2] at g1
      have e:Z0g u P T (I,false)=(I,false):=Prod.ext c2 hc
      refine⟨1,I,by rw [Zgr,if_pos rfl,e];rfl,Zkr R g1,fun b hb hb0=>?_⟩
      obtain⟨i,hi,hT⟩:=R.all b hb hb0
      have:=c3 i (by omega) hi
      rwa [hT,Int.toNat_natCast] at this
theorem Z54 {u:UnT.D}{P T I:List Int}(R:Rpo (nb u) (fun b=>(Zal u).getD b []) P T)(h:DJ (nb u) P I)(hp:∀ x < nb u,0≤I.getD x 0)(a:Int):∀ (M b:Nat),b < nb u→(P.getD b 0).toNat≤M→∃ d r,d≤M+1∧Zk4 (I.set 0 (-1)) a d b=some r:=by
 have hl:0 < I.length:=by rw [h.len];exact R.pos
 have hset:∀ x,(I.set 0 (-1:Int)).getD x 0=if 0=x then -1 else I.getD x 0:=fun x=>Zbd _ _ _ _ hl
 intro M
 induction M with
 | zero =>
  intro b hb hM
  by_cases e:a=(b:Int)
  ·exact⟨0,true,by omega,by rw [Zk4,if_neg (by omega),if_pos e]⟩
  ·have hb0:b=0:=by
    apply Decidable.byContradiction
    intro h0
    have:=(R.pn hb).2.2 h0
    omega
   refine⟨1,false,by omega,?_⟩
   rw [Zk4,if_neg (by omega),if_neg e,Int.toNat_natCast,hset,if_pos hb0.symm,Zk4,if_pos (by omega)]
 | succ M ih =>
  intro b hb hM
  by_cases e:a=(b:Int)
  ·exact⟨0,true,by omega,by rw [Zk4,if_neg (by omega),if_pos e]⟩
  ·by_cases hb0:b=0
   ·refine⟨1,false,by omega,?_⟩
    rw [Zk4,if_neg (by omega),if_neg e,Int.toNat_natCast,hset,if_pos hb0.symm,Zk4,if_pos (by omega)]
   ·have hu:=(h.up b hb hb0 (hp b hb)).2
    have hr:=h.upOk b hb (hp b hb)
    obtain⟨c,hc⟩:∃ c:Nat,I.getD b 0=(c:Int):=⟨(I.getD b 0).toNat,by have:=hp b hb;omega⟩
    rw [hc] at hu hr
    rw [Int.toNat_natCast] at hu hr
    have hcn:c < nb u:=by omega
    have hpc:=R.pn hcn
    obtain⟨d,r,h1,h2⟩:=ih c hcn (by omega)
    refine⟨d+1,r,by omega,?_⟩
    rw [Zk4,if_neg (by omega),if_neg e,Int.toNat_natCast,hset,if_neg (Ne.symm hb0),hc]
    exact h2
theorem Z4a {u:UnT.D}(hnx:Zm4 u)(hb:0 < nb u):∃ O I,Zw0 u O I∧(∃ sn,Zwd u (sn,O.reverse,[]))∧
  (O.length=nb u→∃ I',I=I'.set 0 (-1)∧Rpo (nb u) (fun b=>(Zal u).getD b []) (Zgl (nb u) O) (O.drop 1)∧J2 (nb u) (fun b=>(Zal u).getD b []) (Zgl (nb u) O) 0 I' I'∧∀ b < nb u,b≠0→I'.getD b 0=Zgu u (Zgl (nb u) O) I' b):=by
 obtain⟨D,O',sn,hO,hinv⟩:=Z4f hnx _ (Zp2 u) (Z0v hb) (Nat.le_refl _)
 by_cases hl:O'.reverse.length=nb u
 ·have hl':O'.length=nb u:=by simpa using hl
  obtain⟨h1,R⟩:=Z6i hnx hb hinv hl'
  obtain⟨D2,I',h2,h3,h4⟩:=Z21 R _ _ (Z78 R) (Nat.le_refl _)
  have hset:∀ x,(I'.set 0 (-1:Int)).getD x 0=if 0=x then -1 else I'.getD x 0:=fun x=>Zbd _ _ _ _ (by rw [h3.d.len];exact hb)
  refine⟨O'.reverse,I'.set 0 (-1),⟨⟨D,O',hO,rfl⟩,fun _=>h1,fun _=>⟨JJ u (Zgl (nb u) O'.reverse),D2,I',Z4k R,Z78 R,h2,rfl⟩,fun _=>⟨by simpa using h3.d.len,fun x hx=>?_⟩,fun _ a b hb'=>?_⟩,⟨sn,by rw [List.reverse_reverse];exact hinv⟩,fun _=>⟨I',rfl,R,h3,h4⟩⟩
  ·rw [hset]
   split
   ·omega
   ·exact (h3.d.rg x hx).2
  ·have hpb:=R.pn hb'
   obtain⟨d,r,g1,g2⟩:=Z54 R h3.d h3.p a _ b hb' (Nat.le_refl _)
   refine⟨d,by omega,?_⟩
   rw [Z64 g2 (show d < nb u+2 by omega)]
   exact g2
 ·exact⟨O'.reverse,[],⟨⟨D,O',hO,rfl⟩,fun h=>absurd h hl,fun h=>absurd h hl,fun h=>absurd h hl,fun h=>absurd h hl⟩,⟨sn,by rw [List.reverse_reverse];exact hinv⟩,fun h=>absurd h hl⟩
end Go.Proofs.YtcgmchechmbmeaaDoor.base
end
section
set_option maxRecDepth 100000
namespace Go.Proofs.YtcgmchechmbmeaaDoor.base
open Go.Sh gen
variable {S:Zb4}{m:Mem}
inductive Ro where
 | go (V:Vv)
 | tired (V:Vv)
 | left (V:Vv) (st:Nat) (val:Int)
structure BOk (u:UnT.D)(at_:Nat)(b:Zct.D):Prop where
 vl:List.length b.1≤1000000
 vin:∀ v∈(show List Int from b.1),(0:Int)≤v∧v < (nv u:Int)
 ed:b.2.1=3→(0:Int)≤(show Int from b.2.2.2.2.2.1)∧(show Int from b.2.2.2.2.2.1) < (ns u:Int)
 cd:b.2.1=2→(0:Int)≤(show Int from b.2.2.1)∧(show Int from b.2.2.1) < (nv u:Int)
 nl:List.length b.2.2.2.1≤1000000∧List.length b.2.2.2.2.1≤1000000
 n2:b.2.1≠3→(if b.2.1=2 then 1 else 0) < List.length b.2.2.2.1
 nx:∀ t∈(show List Int from b.2.2.2.1),(0:Int)≤t∧t < (nb u:Int)∧(Zda u t.toNat).2.2.2.2.1≠([]:List Int)∧
  ∀ v∈(show List Int from (Zda u t.toNat).1),(Za3 u v).1=21→Z8c (Zda u t.toNat).2.2.2.2.1 (at_:Int) < (Za3 u v).2.2.2.2.1.length∧(Za3 u v).2.2.2.2.1.length≤1000000∧(0:Int)≤(show List Int from (Za3 u v).2.2.2.2.1).getD (Z8c (Zda u t.toNat).2.2.2.2.1 (at_:Int)) 0∧(show List Int from (Za3 u v).2.2.2.2.1).getD (Z8c (Zda u t.toNat).2.2.2.2.1 (at_:Int)) 0 < (nv u:Int)
structure UOk (u:UnT.D):Prop where
 n:0 < nv u∧nv u≤1000000
 b:0 < nb u∧nb u≤1000000
 s:ns u≤1000000
 bl:∀ i,i < nb u→BOk u i (Zda u i)
 vl:∀ x∈u.2.2.1,x.1≠1→x.1≠21→VOk u x
 pa:∀ x∈u.2.2.1,x.1=1→(0:Int)≤x.2.2.2.1∧x.2.2.2.1≤9223372036854775807
 gd:∀ x∈u.2.2.1,x.1=22→(0:Int)≤x.2.1∧x.2.1 < (nv u:Int)
 lv:∀ x∈u.2.2.1,x.1=22∨x.1=23→(0:Int)≤x.2.2.2.2.2.1∧x.2.2.2.2.2.1 < (ns u:Int)
 fr:∀ st,(h:st < ns u)→(u.2.2.2.2.1[st]).1.length≤1000000∧∀ f∈(u.2.2.2.2.1[st]).1,f.2.2.1.length≤1000000∧f.2.2.2.1.length≤1000000∧(∀ v∈(show List Int from f.2.2.1),(0:Int)≤v∧v < (nv u:Int))∧(∀ v∈(show List Int from f.2.2.2.1),(0:Int)≤v∧v < (nv u:Int))
end Go.Proofs.YtcgmchechmbmeaaDoor.base
end
section
set_option maxRecDepth 100000
namespace Go.Proofs.YtcgmchechmbmeaaDoor.base
open Go.Sh gen
theorem Znq {u:UnT.D}{b:Nat}{l:List Int}{k:Nat}{s s':StS}(h:Zci u b k l s=some s'):s'.2.2.2=s.2.2.2+l.length:=by
 induction l generalizing k s with
 | nil=>rw [Zci,Option.some.injEq] at h;rw [← h];rfl
 | cons v r ih =>
  rw [Zci] at h
  cases hv:Zey u b k s v with
  | none=>rw [hv] at h;cases h
  | some s1 =>
   rw [hv,Option.bind_some] at h
   obtain⟨n,_,_,_,e,_⟩:=Zhe hv
   rw [ih h,e,List.length_cons]
   dsimp only
   omega
theorem Zu8 {u:UnT.D}{bs:List Zct.D}{b:Nat}{s s':StS}(h:Zcg u b bs s=some s'):∀ x∈bs,s.2.2.2+List.length x.1≤s'.2.2.2:=by
 induction bs generalizing b s with
 | nil=>intro x hx;simp at hx
 | cons y r ih =>
  rw [Zcg] at h
  cases hv:Zci u b 0 y.1 (s.1,s.2.1,true,s.2.2.2) with
  | none=>rw [hv] at h;cases h
  | some s1 =>
   rw [hv,Option.bind_some] at h
   have h1:=Znq hv
   dsimp only at h1
   intro x hx
   rcases List.mem_cons.1 hx with rfl | hx
   ·have h2:s1.2.2.2≤s'.2.2.2:=by
     have key:∀ (r:List Zct.D) (b:Nat) (s1:StS),Zcg u b r s1=some s'→s1.2.2.2≤s'.2.2.2:=by
      intro r
      induction r with
      | nil=>intro b s1 h;rw [Zcg,Option.some.injEq] at h;rw [h];exact Nat.le_refl _
      | cons z r ih =>
       intro b s1 h
       rw [Zcg] at h
       cases hv:Zci u b 0 z.1 (s1.1,s1.2.1,true,s1.2.2.2) with
       | none=>rw [hv] at h;cases h
       | some s2 =>
        rw [hv,Option.bind_some] at h
        have h3:=Znq hv
        have:=ih _ _ h
        dsimp only at h3
        omega
     exact key r _ _ h
    have e:List.length (show List Int from x.1)=List.length x.1:=rfl
    omega
   ·have:=ih h x hx
    omega
theorem Zv6 {u:UnT.D}{s:StS}(h:Zcd u=some s){i:Nat}(hi:i < nb u):(vlD u i).length≤nv u:=by
 unfold Zcd at h
 cases hB:Zcg u 0 u.2.2.2.1 (List.replicate (nv u) (-1),List.replicate (nv u) 0,true,0) with
 | none=>rw [hB] at h;cases h
 | some s1 =>
  rw [hB] at h
  have h2:=(Option.filter_eq_some_iff.1 h).2
  have h3:=Zu8 hB (Zda u i) (Zfy hi)
  have h4:s1.2.2.2=nv u:=by
   have:=(Option.filter_eq_some_iff.1 h).1
   simp only [Option.some.injEq] at this
   rw [this];simpa using h2
  have e:(vlD u i).length=List.length (Zda u i).1:=rfl
  dsimp only at h3
  omega
end Go.Proofs.YtcgmchechmbmeaaDoor.base
end
section
set_option maxRecDepth 100000
namespace Go.Proofs.YtcgmchechmbmeaaDoor.base
open Go.Sh gen
abbrev Tg:=Nat→Nat
variable {T T':Tg}{m m1 m2:Mem}{i:Nat}{is js:List Nat}
def Ag (T T':Tg)(m:Mem):Prop:=∀ f,f < m.next→T' f=T f
def KT (T:Tg)(is:List Nat)(m m1:Mem):Prop:=∃ fs,Zaa m m1 fs∧∀ f∈fs,f < m.next→T f∈is
def DQ (T:Tg)(m:Mem)(f:Nat):Prop:=T f=0∧f < m.next
def Zeu (T:Tg)(i:Nat)(m:Mem)(b:Nat)(cells:List Value)(e:TypeId):Prop:=∃ fam,Own m b cells e fam∧T fam=i
def SlT (T:Tg)(i:Nat)(m:Mem)(ao:Option Addr)(n:Nat)(cells:List Value)(e z:Nat):Prop:=∃ fam,Sl m ao n cells e z fam∧(ao≠none→T fam=i)
def SrT (T:Tg)(i:Nat)(m:Mem)(ao:Option Addr)(n:Nat)(cells:List Value)(e z:Nat):Prop:=∃ fam,Sr m ao n cells e z fam∧(ao≠none→T fam=i)
theorem Ag.refl:Ag T T m:=fun _ _=>rfl
theorem Ag.trans {T2:Tg}(h:Ag T T' m)(k:Ag T' T2 m1)(hn:m.next≤m1.next):Ag T T2 m:=fun f hf=>(k f (by omega)).trans (h f hf)
theorem KT.le (k:KT T is m m1):m.next≤m1.next:=by obtain⟨fs,kk,_⟩:=k;exact kk.1
theorem KT.refl:KT T is m m:=⟨[],.refl _ _,by simp⟩
theorem KT.of (k:Zaa m m1 []):KT T is m m1:=⟨[],k,by simp⟩
theorem KT.mono (k:KT T is m m1)(h:∀ t∈is,t∈js):KT T js m m1:=by
 obtain⟨fs,kk,hf⟩:=k
 exact⟨fs,kk,fun f h1 h2=>h _ (hf f h1 h2)⟩
theorem KT.trans (h:KT T is m m1)(a:Ag T T' m)(k:KT T' is m1 m2):KT T is m m2:=by
 obtain⟨fs,kk,hf⟩:=h
 obtain⟨gs,kk2,hg⟩:=k
 refine⟨fs++gs,(kk.mono (fun q hq=>List.mem_append_left _ hq)).trans (kk2.mono (fun q hq=>List.mem_append_right _ hq)),fun f hm hl=>?_⟩
 rcases List.mem_append.1 hm with hm | hm
 ·exact hf f hm hl
 ·rw [← a f hl];exact hg f hm (by have:=kk.1;omega)
theorem Zeu.keep {b e:Nat}{cells:List Value}(h:Zeu T i m b cells e)(k:KT T is m m1)(a:Ag T T' m)(hi:i∉is):Zeu T' i m1 b cells e:=by
 obtain⟨fam,o,rfl⟩:=h
 obtain⟨fs,kk,hf⟩:=k
 exact⟨fam,o.keep kk (fun hm=>hi (hf _ hm o.flt)),a _ o.flt⟩
theorem SlT.keep {ao:Option Addr}{n e z:Nat}{cells:List Value}(h:SlT T i m ao n cells e z)(k:KT T is m m1)(a:Ag T T' m)(hi:i∉is):SlT T' i m1 ao n cells e z:=by
 obtain⟨fam,s,ht⟩:=h
 obtain⟨fs,kk,hf⟩:=k
 exact⟨fam,s.keepz kk (fun hn hm=>hi (by rw [← ht hn];exact hf _ hm (s.sr.flt hn))),fun hn=>(a _ (s.sr.flt hn)).trans (ht hn)⟩
theorem SrT.keep {ao:Option Addr}{n e z:Nat}{cells:List Value}(h:SrT T i m ao n cells e z)(k:KT T is m m1)(a:Ag T T' m)(hi:i∉is):SrT T' i m1 ao n cells e z:=by
 obtain⟨fam,s,ht⟩:=h
 obtain⟨fs,kk,hf⟩:=k
 exact⟨fam,s.keep kk (fun hn hm=>hi (by rw [← ht hn];exact hf _ hm (s.flt hn))),fun hn=>(a _ (s.flt hn)).trans (ht hn)⟩
theorem Zls {t:Ty}{d:t.D}{cs:List Value}(h:AtI (DQ T m) m t d cs)(k:KT T is m m1)(a:Ag T T' m)(hi:0∉is):AtI (DQ T' m1) m1 t d cs:=by
 obtain⟨fs,kk,hf⟩:=k
 have hn:=kk.1
 exact (h.keep kk (fun f hm hq=>hi (by rw [← hq.1];exact hf f hm hq.2))).mono (fun f hq=>⟨(a f hq.2).trans hq.1,by have:=hq.2;omega⟩)
theorem Zan {ao:Option Addr}{l:List Int}(h:Zah (DQ T m) m ao l)(k:KT T is m m1)(a:Ag T T' m)(hi:0∉is):Zah (DQ T' m1) m1 ao l:=by
 obtain⟨fs,kk,hf⟩:=k
 have hn:=kk.1
 obtain⟨f,hr,hq⟩:=h
 have hq':l.length≠0→f∉fs:=fun hz hm=>hi (by rw [← (hq hz).1];exact hf f hm (hq hz).2)
 exact⟨f,hr.keep0 kk hq',fun hz=>⟨(a f (hq hz).2).trans (hq hz).1,by have:=(hq hz).2;omega⟩⟩
theorem Znh (T:Tg)(i:Nat){cs:List Value}{e:TypeId}{m1:Mem}(hr:m.new cs e=m1):∃ T',Ag T T' m∧Zeu T' i m1 m.next cs e∧Zaa m m1 []∧m.next < m1.next∧∀ f,T' f=T f∨T' f=i:=by
 obtain⟨o,k,n⟩:=Zar hr
 exact⟨fun f=>if f=m.next then i else T f,fun f hf=>if_neg (by omega),⟨_,o,if_pos rfl⟩,k,n,fun f=>by simp only;split <;> simp⟩
theorem Zdh {l off:Nat}{cells vs:List Value}{e:TypeId}{r:Option Mem}(hr:Zad m ⟨l,off,none⟩ vs=r)(h:Zeu T i m l cells e)(hk:off+vs.length≤cells.length)(h1:vs.all one=true) :
  ∃ m1,r=some m1∧Zeu T i m1 l (Zbx cells off vs) e∧KT T [i] m m1:=by
 obtain⟨fam,o,ht⟩:=h
 obtain⟨m1,h2,o1,k⟩:=Zap hr o hk h1
 exact⟨m1,h2,⟨fam,o1,ht⟩,[fam],k,by simp;intro _;exact ht⟩
section
variable {P:Program}
theorem Z4l {ty e e0:TypeId}{z bt n k:Nat}{ao:Option Addr}{cells news cs:List Value}{r:Option (Value × Mem)}(hr:Zak P ty (m.new cs e0) (.slice ao n n) news k=r)(ht:P.underlying ty=some (.slice e))(ha:Zir P e z bt=true)
  (h:SlT T i m ao n cells e z) (hk:k≠0) (hnews:news.length=k * z) (h1:news.all one=true) (hb:(n+k) * bt≤140737488355328) (h63:n+k≤9223372036854775807) :
  ∃ m1 b' T',r=some (.slice (some ⟨b',0,none⟩) (n+k) (n+k),m1)∧SlT T' i m1 (some ⟨b',0,none⟩) (n+k) (cells++news) e z∧Ag T T' m∧KT T [i] m m1∧∀ f,T' f=T f∨T' f=i:=by
 obtain⟨fam,s,htg⟩:=h
 obtain⟨m1,b',fam',h2,o,kk,hf,hlt,hne⟩:=Zs hr ht ha s hk hnews h1 hb h63
 refine⟨m1,b',fun f=>if m.next≤f then i else T f,h2,⟨fam',Sl.of o (by rw [List.length_append,Nat.add_mul,s.1,hnews]),fun _=>?_⟩,fun f hf=>if_neg (by omega),⟨_,kk,fun f hm hl=>?_⟩,fun f=>by simp only;split <;> simp⟩
 ·rcases hf with⟨hn,e⟩ | hn
  ·simp only
   split
   ·rfl
   ·rw [e];exact htg hn
  ·simp only [if_pos hn]
 ·split at hm
  ·simp at hm
  ·rename_i hn
   simp at hm
   rw [hm]
   simpa using htg hn
theorem Z2l {ty e e0:TypeId}{z bt n k:Nat}{ao:Option Addr}{cells news cs:List Value}{r:Option (Value × Mem)}(hr:Zak P ty (m.new cs e0) (.slice ao n n) news k=r)(ht:P.underlying ty=some (.slice e))(ha:Zir P e z bt=true)
  (h:SrT T i m ao n cells e z) (hk:k≠0) (hnews:news.length=k * z) (h1:news.all one=true) (hb:(n+k) * bt≤140737488355328) (h63:n+k≤9223372036854775807) :
  ∃ m1 ao' T',r=some (.slice ao' (n+k) (n+k),m1)∧SrT T' i m1 ao' (n+k) (cells++news) e z∧ao'≠none∧Ag T T' m∧KT T [i] m m1∧∀ f,T' f=T f∨T' f=i:=by
 obtain⟨fam,s,htg⟩:=h
 obtain⟨m1,a',fam',h2,o,kk,hf,hne1,hfe⟩:=Zkh hr ht ha s hk hnews h1 hb h63
 refine⟨m1,a',fun f=>if m.next≤f then i else T f,h2,⟨fam',o,fun _=>?_⟩,hne1,fun f hf=>if_neg (by omega),⟨_,kk,fun f hm hl=>?_⟩,fun f=>by simp only;split <;> simp⟩
 ·rcases hf with⟨hn,e⟩ | hn
  ·simp only
   split
   ·rfl
   ·rw [e];exact htg hn
  ·simp only [if_pos hn]
 ·split at hm
  ·simp at hm
  ·rename_i hn
   simp at hm
   rw [hm]
   simpa using htg hn
end
def Ziq (T:Tg)(m:Mem)(e:TypeId)(t:Ty)(l:List t.D)(ao:Option Addr)(i:Nat):Prop:=
 ∃ css:List (List Value),css.length=l.length∧(∀ (j:Nat) d c,l[j]?=some d→css[j]?=some c→AtI (DQ T m) m t d c)∧SlT T i m ao l.length css.flatten e t.size
theorem Ziq.keep {e:TypeId}{t:Ty}{l:List t.D}{ao:Option Addr}(h:Ziq T m e t l ao i)(k:KT T is m m1)(a:Ag T T' m)(hi:i∉is)(h0:0∉is):Ziq T' m1 e t l ao i:=by
 obtain⟨css,h1,h2,h3⟩:=h
 exact⟨css,h1,fun j d c hd hc=>Zls (h2 j d c hd hc) k a h0,h3.keep k a hi⟩
theorem Ziq.nil (T:Tg)(m:Mem)(e:TypeId)(t:Ty)(i:Nat):Ziq T m e t [] none i:=⟨[],rfl,by simp,0,Sl.nil _ _ _ _,by simp⟩
section
variable {P:Program}
theorem Ziq.app {ty e e0:TypeId}{t:Ty}{bt:Nat}{ao:Option Addr}{l:List t.D}{d:t.D}{c:List Value}{cs:List Value}{r:Option (Value × Mem)}(h:Ziq T m e t l ao i)(hi:i≠0)(hd:AtI (DQ T m) m t d c)(hr:Zak P ty (m.new cs e0) (.slice ao l.length l.length) c 1=r)(ht:P.underlying ty=some (.slice e))(ha:Zir P e t.size bt=true)
  (h1:c.all one=true) (hb:(l.length+1) * bt≤140737488355328) (h63:l.length+1≤9223372036854775807) :
  ∃ m1 b' T',r=some (.slice (some ⟨b',0,none⟩) (l.length+1) (l.length+1),m1)∧Ziq T' m1 e t (l++[d]) (some ⟨b',0,none⟩) i∧Ag T T' m∧KT T [i] m m1∧∀ f,T' f=T f∨T' f=i:=by
 obtain⟨css,h2,h3,h4⟩:=h
 obtain⟨m1,b',T',he,s,a,k,tb⟩:=Z4l hr ht ha h4 (by omega) (by rw [AtI.len hd];omega) h1 hb h63
 refine⟨m1,b',T',he,⟨css++[c],by simp [h2],fun j d' c' hd' hc'=>?_,?_⟩,a,k,tb⟩
 ·have h0:(0:Nat)∉[i]:=by simp;omega
  by_cases hj:j < l.length
  ·rw [List.getElem?_append_left hj] at hd'
   rw [List.getElem?_append_left (by omega)] at hc'
   exact Zls (h3 j d' c' hd' hc') k a h0
  ·have hjl:j < (l++[d]).length:=(List.getElem?_eq_some_iff.1 hd').1
   have e:j=l.length:=by simp at hjl;omega
   subst e
   rw [List.getElem?_append_right (Nat.le_refl _)] at hd'
   rw [List.getElem?_append_right (by omega),h2] at hc'
   simp at hd' hc'
   subst hd' hc'
   exact Zls hd k a h0
 ·rw [show (l++[d]).length=l.length+1 by simp,List.flatten_append,List.flatten_singleton]
  exact s
end
theorem Zmc {css:List (List Value)}{z p k:Nat}{v:Value}(h:∀ x∈css,x.length=z)(hp:p < css.length)(hk:k < z):Zbx css.flatten (p * z+k) [v]=(css.set p (css[p].set k v)).flatten:=by
 induction css generalizing p with
 | nil=>simp at hp
 | cons a r ih =>
  have ha:=h a (by simp)
  cases p with
  | zero =>
   simp only [Nat.zero_mul,Nat.zero_add,List.flatten_cons,List.set_cons_zero,List.getElem_cons_zero,Zbx,List.length_cons,List.length_nil]
   rw [List.take_append_of_le_length (by omega),List.drop_append_of_le_length (by omega),List.set_eq_take_append_cons_drop,if_pos (by omega)]
   simp
  | succ p =>
   have:=ih (p:=p) (fun x hx=>h x (by simp [hx])) (by simpa using hp)
   simp only [List.flatten_cons,List.set_cons_succ,List.getElem_cons_succ,Zbx,List.length_cons,List.length_nil] at this ⊢
   rw [← this,show (p+1) * z+k=a.length+(p * z+k) by rw [ha,Nat.add_mul];omega,List.take_length_add_append,show a.length+(p * z+k)+(0+1)=a.length+(p * z+k+(0+1)) by omega,List.drop_length_add_append]
   simp
end Go.Proofs.YtcgmchechmbmeaaDoor.base
end
