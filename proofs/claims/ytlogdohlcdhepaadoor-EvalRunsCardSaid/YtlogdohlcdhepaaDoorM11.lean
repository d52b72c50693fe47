/- This text proves, in plain Lean, that the order's way and the dominators' rounds come to an end for any unit of which all else was asked. No condition. -/
import Derived.Test.YtlogdohlcdhepaaDoorM10
import Derived.Test.YtlogdohlcdhepaaDoorM4
set_option linter.unusedVariables false
set_option linter.unusedSimpArgs false
section
set_option maxRecDepth 100000
namespace Go.Proofs.YtlogdohlcdhepaaDoor.base
open Go.Sh gen
def JJ (u:UnT.D)(P:List Int)(j:Nat)(I:List Int):Prop:=J1 (nb u) (fun b=>(Zaw u).getD b []) P j I∨∃ Is,J2 (nb u) (fun b=>(Zaw u).getD b []) P j Is I
theorem JJ.d {u:UnT.D}{P I:List Int}{j:Nat}(h:JJ u P j I):DJ (nb u) P I:=by
 rcases h with h | ⟨_,h⟩
 ·exact h.d
 ·exact h.d
theorem Zr4 {u:UnT.D}{P T I:List Int}(R:Rpo (nb u) (fun b=>(Zaw u).getD b []) P T){j:Nat}(h:JJ u P j I)(hj:j < T.length) :
  ∃ b:Nat,T.getD j 0=(b:Int)∧b < nb u∧b≠0∧JJ u P (j+1) (I.set b (Zgs u P I b))∧0≤Zgs u P I b∧Zgs u P I b < nb u∧(0≤I.getD b 0→P.getD (Zgs u P I b).toNat 0≤P.getD (I.getD b 0).toNat 0):=by
 obtain⟨b,h1,h2,h3,h4⟩:=R.t j hj
 refine⟨b,h1,h2,h3,?_⟩
 rcases h with h | ⟨Is,h⟩
 ·obtain⟨g1,g2,g3,g4⟩:=Z4c R h h2 h3 h4
  exact⟨Or.inl g1,g3,g4,fun h=>by omega⟩
 ·obtain⟨g1,g2,g3,g4⟩:=Z43 R h h2 h3 h4
  exact⟨Or.inr ⟨Is,g1⟩,g2,g3,fun _=>g4⟩
theorem Zkc {u:UnT.D}{P T I:List Int}(R:Rpo (nb u) (fun b=>(Zaw u).getD b []) P T)(h:JJ u P T.length I):J2 (nb u) (fun b=>(Zaw u).getD b []) P 0 I I:=by
 have hP:∀ x < nb u,P.getD x 0≤(T.length:Int):=fun x hx=>by have:=(R.pn hx).2.1;have:=R.len;omega
 have mk:DJ (nb u) P I→(∀ x < nb u,0≤I.getD x 0)→(∀ x < nb u,x≠0→FwX (nb u) (fun b=>(Zaw u).getD b []) P I x)→(∀ x < nb u,x≠0→UpX (nb u) (fun b=>(Zaw u).getD b []) P I x)→J2 (nb u) (fun b=>(Zaw u).getD b []) P 0 I I:=by
  intro hd hp hf hu
  refine⟨hd,hd,hp,hp,hf,hu,fun x hx h0 _=>hf x hx h0,fun y hy hpy x z h1 h2 _=>?_,fun y hy _=>rfl⟩
  have:y=0:=by
   apply Decidable.byContradiction
   intro h0
   have:=(R.pn hy).2.2 h0
   omega
  subst this
  rw [hd.anc0 h1,hd.anc0 h2]
  exact .refl 0
 rcases h with h | ⟨Is,h⟩
 ·exact mk h.d (fun x hx=>(h.p x hx).2 (hP x hx)) (fun x hx h0=>h.f x hx h0 (hP x hx)) (fun x hx h0=>h.u x hx h0 (hP x hx))
 ·exact mk h.d h.p (fun x hx h0=>h.f x hx h0 (hP x hx)) h.u
theorem Zyu {n:Nat}(hn:0 < n){x:Nat}(hx:x < n):((List.replicate n (-1:Int)).set 0 0).getD x 0=if x=0 then 0 else -1:=by
 rw [Zbe _ _ _ _ (by simpa using hn)]
 by_cases e:x=0
 ·rw [if_pos e.symm,if_pos e]
 ·rw [if_neg (Ne.symm e),if_neg e,List.getD_eq_getElem?_getD,List.getElem?_replicate,if_pos hx];rfl
theorem Z9r {u:UnT.D}{P T:List Int}(R:Rpo (nb u) (fun b=>(Zaw u).getD b []) P T):JJ u P 0 ((List.replicate (nb u) (-1)).set 0 0):=by
 have hn:=R.pos
 refine Or.inl ⟨⟨by simp,?_,fun x hx=>?_,fun x hx h0 h=>?_⟩,fun x hx=>?_,fun x hx h0 h=>?_,fun x hx h0 h=>?_⟩
 ·rw [Zyu hn hn,if_pos rfl]
 ·rw [Zyu hn hx];split <;> omega
 ·rw [Zyu hn hx,if_neg h0] at h;omega
 ·rw [Zyu hn hx]
  by_cases e:x=0
  ·rw [if_pos e,e,R.p0];simp
  ·rw [if_neg e]
   have:=(R.pn hx).2.2 e
   constructor <;> intro _ <;> omega
 ·have:=(R.pn hx).2.2 h0;omega
 ·have:=(R.pn hx).2.2 h0;omega
theorem Z3o {u:UnT.D}{P T:List Int}(R:Rpo (nb u) (fun b=>(Zaw u).getD b []) P T):Z98 u P T (JJ u P):=by
 refine⟨fun j I h=>h.d.len,fun j I h=>h.d.upOk,fun j I h a b ha hb ha0 hb0=>?_,fun j I h hj=>?_,fun I h=>Or.inr ⟨I,Zkc R h⟩⟩
 ·obtain⟨c,_,⟨D,hD,hm⟩,_⟩:=Zy4 R h.d ha hb ha0 hb0
  exact⟨D,c,hD,hm⟩
 ·obtain⟨b,h1,_,_,h2,_⟩:=Zr4 R h hj
  rw [h1,Int.toNat_natCast]
  exact h2
def wI (n:Nat)(P:List Int)(v:Int):Nat:=if v < 0 then n else (P.getD v.toNat 0).toNat
def mI (n:Nat)(P I:List Int):Nat:=(I.map (wI n P)).sum
theorem Z5n (l:List Nat){k:Nat}(hk:k < l.length)(x:Nat):(l.set k x).sum+l.getD k 0=l.sum+x:=by
 induction l generalizing k with
 | nil=>simp at hk
 | cons a r ih =>
  cases k with
  | zero=>simp;omega
  | succ k =>
   have:=ih (k:=k) (by simpa using hk)
   simp at this ⊢
   omega
theorem Z88 {n:Nat}{P I:List Int}{b:Nat}(hb:b < I.length)(v:Int):mI n P (I.set b v)+wI n P (I.getD b 0)=mI n P I+wI n P v:=by
 unfold mI
 rw [List.map_set]
 have:=Z5n (I.map (wI n P)) (k:=b) (by simpa using hb) (wI n P v)
 have e:(I.map (wI n P)).getD b 0=wI n P (I.getD b 0):=by
  rw [List.getD_eq_getElem?_getD,List.getElem?_map,List.getElem?_eq_getElem hb,List.getD_eq_getElem?_getD,List.getElem?_eq_getElem hb];rfl
 rw [e] at this
 exact this
theorem Zuv {l:List Int}{b:Nat}(hb:b < l.length){v:Int}(h:l.getD b 0=v):l.set b v=l:=by
 apply Zi (by simp)
 intro k hk
 rw [Zbe _ _ _ _ hb]
 split
 ·rename_i e;rw [← e,h]
 ·rfl
theorem Zpc {u:UnT.D}{P T:List Int}(R:Rpo (nb u) (fun b=>(Zaw u).getD b []) P T):∀ (k j:Nat) (I:List Int) (ch:Bool),T.length - j=k→j≤T.length→JJ u P j I→
  JJ u P T.length ((T.drop j).foldl (Zns u P) (I,ch)).1∧mI (nb u) P ((T.drop j).foldl (Zns u P) (I,ch)).1≤mI (nb u) P I∧
  (((T.drop j).foldl (Zns u P) (I,ch)).2=true→ch=true∨mI (nb u) P ((T.drop j).foldl (Zns u P) (I,ch)).1 < mI (nb u) P I)∧
  (((T.drop j).foldl (Zns u P) (I,ch)).2=false→ch=false∧((T.drop j).foldl (Zns u P) (I,ch)).1=I∧∀ i,j≤i→i < T.length→I.getD (T.getD i 0).toNat 0=Zgs u P I (T.getD i 0).toNat):=by
 intro k
 induction k with
 | zero =>
  intro j I ch hk hj h
  have:j=T.length:=by omega
  subst this
  rw [List.drop_of_length_le (Nat.le_refl _),List.foldl_nil]
  exact⟨h,Nat.le_refl _,fun h=>Or.inl h,fun h=>⟨h,rfl,fun i h1 h2=>by omega⟩⟩
 | succ k ih =>
  intro j I ch hk hj h
  have hjt:j < T.length:=by omega
  obtain⟨b,h1,h2,h3,h4,h5,h6,h7⟩:=Zr4 R h hjt
  have hbl:b < I.length:=by rw [h.d.len];exact h2
  rw [Zch hjt,List.foldl_cons,h1]
  have eB:Zns u P (I,ch) (b:Int)=(I.set b (Zgs u P I b),ch || !decide (I.getD b 0=Zgs u P I b)):=by unfold Zns;rw [Int.toNat_natCast]
  rw [eB]
  obtain⟨g1,g2,g3,g4⟩:=ih (j+1) _ (ch || !decide (I.getD b 0=Zgs u P I b)) (by omega) (by omega) h4
  have hs:=Z88 (n:=nb u) (P:=P) hbl (Zgs u P I b)
  have hd0:=h5
  obtain⟨d,hd⟩:∃ d:Nat,Zgs u P I b=(d:Int):=⟨(Zgs u P I b).toNat,by omega⟩
  have hpd:=R.pn (show d < nb u by omega)
  have wd:wI (nb u) P (Zgs u P I b)=(P.getD d 0).toNat:=by unfold wI;rw [hd,if_neg (by omega),Int.toNat_natCast]
  rw [hd,Int.toNat_natCast] at h7
  have hle:wI (nb u) P (Zgs u P I b)≤wI (nb u) P (I.getD b 0)∧(I.getD b 0≠Zgs u P I b→wI (nb u) P (Zgs u P I b) < wI (nb u) P (I.getD b 0)):=by
   rw [wd]
   by_cases hn:I.getD b 0 < 0
   ·have:wI (nb u) P (I.getD b 0)=nb u:=by unfold wI;rw [if_pos hn]
    rw [this]
    exact⟨by omega,fun _=>by omega⟩
   ·obtain⟨e,he⟩:∃ d:Nat,I.getD b 0=(d:Int):=⟨(I.getD b 0).toNat,by omega⟩
    have hen:e < nb u:=by have:=(h.d.rg b h2).2;omega
    have hpe:=R.pn hen
    have w2:wI (nb u) P (I.getD b 0)=(P.getD e 0).toNat:=by unfold wI;rw [he,if_neg (by omega),Int.toNat_natCast]
    have h8:=h7 (by omega)
    rw [he,Int.toNat_natCast] at h8
    rw [w2,he,hd]
    refine⟨by omega,fun hne=>?_⟩
    have:P.getD d 0≠P.getD e 0:=fun e2=>hne (by rw [R.inj (by omega) hen e2])
    omega
  refine⟨g1,by omega,fun hc=>?_,fun hc=>?_⟩
  ·rcases g3 hc with h9 | h9
   ·rw [Bool.or_eq_true] at h9
    rcases h9 with h9 | h9
    ·exact Or.inl h9
    ·have:=hle.2 (by simpa using h9)
     exact Or.inr (by omega)
   ·exact Or.inr (by omega)
  ·obtain⟨c1,c2,c3⟩:=g4 hc
   rw [Bool.or_eq_false_iff] at c1
   have heq:I.getD b 0=Zgs u P I b:=by simpa using c1.2
   have hss:=Zuv hbl heq
   rw [hss] at c2 c3
   refine⟨c1.1,by rw [hss];exact c2,fun i hi1 hi2=>?_⟩
   by_cases e:i=j
   ·rw [e,h1,Int.toNat_natCast];exact heq
   ·exact c3 i (by omega) hi2
theorem Z53 {u:UnT.D}{P T:List Int}(R:Rpo (nb u) (fun b=>(Zaw u).getD b []) P T):∀ (M:Nat) (I:List Int),JJ u P 0 I→mI (nb u) P I≤M→
    ∃ D I',Zgc u P T D (I,true)=some I'∧J2 (nb u) (fun b=>(Zaw u).getD b []) P 0 I' I'∧∀ b < nb u,b≠0→I'.getD b 0=Zgs u P I' b:=by
  intro M
  induction M with
  | zero =>
    intro I h hM
    obtain⟨g1,g2,g3,g4⟩:=Zpc R _ 0 I false rfl (by omega) h
    rw [List.drop_zero] at g1 g2 g3 g4
    cases hc:(T.foldl (Zns u P) (I,false)).2 with
    | true => rcases g3 hc with h1 | h1
              · cases h1
              · omega
    | false =>
      obtain⟨_,c2,c3⟩:=g4 hc
      rw [c2] at g1
      have e:Z2s u P T (I,false)=(I,false):=Prod.ext c2 hc
      refine⟨1,I,by rw [Zgc,if_pos rfl,e];rfl,Zkc R g1,fun b hb hb0=>?_⟩
      obtain⟨i,hi,hT⟩:=R.all b hb hb0
      have:=c3 i (by omega) hi
      rwa [hT,Int.toNat_natCast] at this
  | succ M ih =>
    intro I h hM
    obtain⟨g1,g2,g3,g4⟩:=Zpc R _ 0 I false rfl (by omega) h
    rw [List.drop_zero] at g1 g2 g3 g4
    cases hc:(T.foldl (Zns u P) (I,false)).2 with
    | true =>
      have h1:mI (nb u) P (T.foldl (Zns u P) (I,false)).1 < mI (nb u) P I:=by
        rcases g3 hc with h1 | h1
        · cases h1
        · exact h1
      obtain⟨D,I',e1,e2,e3⟩:=ih _ (Or.inr ⟨_,Zkc R g1⟩) (by omega)
      have e:Z2s u P T (I,false)=((T.foldl (Zns u P) (I,false)).1,true):=Prod.ext rfl hc
      exact⟨D+1,I',by rw [Zgc,if_pos rfl,e];exact e1,e2,e3⟩
    | false =>
      obtain⟨_,c2,c3⟩:=g4 hc
      rw [c2] at g1
      have e:Z2s u P T (I,false)=(I,false):=Prod.ext c2 hc
      refine⟨1,I,by rw [Zgc,if_pos rfl,e];rfl,Zkc R g1,fun b hb hb0=>?_⟩
      obtain⟨i,hi,hT⟩:=R.all b hb hb0
      have:=c3 i (by omega) hi
      rwa [hT,Int.toNat_natCast] at this
theorem Z68 {u:UnT.D}{P T I:List Int}(R:Rpo (nb u) (fun b=>(Zaw u).getD b []) P T)(h:DJ (nb u) P I)(hp:∀ x < nb u,0≤I.getD x 0)(a:Int):∀ (M b:Nat),b < nb u→(P.getD b 0).toNat≤M→∃ d r,d≤M+1∧Zkz (I.set 0 (-1)) a d b=some r:=by
 have hl:0 < I.length:=by rw [h.len];exact R.pos
 have hset:∀ x,(I.set 0 (-1:Int)).getD x 0=if 0=x then -1 else I.getD x 0:=fun x=>Zbe _ _ _ _ hl
 intro M
 induction M with
 | zero =>
  intro b hb hM
  by_cases e:a=(b:Int)
  ·exact⟨0,true,by omega,by rw [Zkz,if_neg (by omega),if_pos e]⟩
  ·have hb0:b=0:=by
    apply Decidable.byContradiction
    intro h0
    have:=(R.pn hb).2.2 h0
    omega
   refine⟨1,false,by omega,?_⟩
   rw [Zkz,if_neg (by omega),if_neg e,Int.toNat_natCast,hset,if_pos hb0.symm,Zkz,if_pos (by omega)]
 | succ M ih =>
  intro b hb hM
  by_cases e:a=(b:Int)
  ·exact⟨0,true,by omega,by rw [Zkz,if_neg (by omega),if_pos e]⟩
  ·by_cases hb0:b=0
   ·refine⟨1,false,by omega,?_⟩
    rw [Zkz,if_neg (by omega),if_neg e,Int.toNat_natCast,hset,if_pos hb0.symm,Zkz,if_pos (by omega)]
   ·have hu:=(h.up b hb hb0 (hp b hb)).2
    have hr:=h.upOk b hb (hp b hb)
    obtain⟨c,hc⟩:∃ c:Nat,I.getD b 0=(c:Int):=⟨(I.getD b 0).toNat,by have:=hp b hb;omega⟩
    rw [hc] at hu hr
    rw [Int.toNat_natCast] at hu hr
    have hcn:c < nb u:=by omega
    have hpc:=R.pn hcn
    obtain⟨d,r,h1,h2⟩:=ih c hcn (by omega)
    refine⟨d+1,r,by omega,?_⟩
    rw [Zkz,if_neg (by omega),if_neg e,Int.toNat_natCast,hset,if_neg (Ne.symm hb0),hc]
    exact h2
theorem Z5g {u:UnT.D}(hnx:Ztg u)(hb:0 < nb u):∃ O I,Z2g u O I∧(∃ sn,Z1m u (sn,O.reverse,[]))∧
  (O.length=nb u→∃ I',I=I'.set 0 (-1)∧Rpo (nb u) (fun b=>(Zaw u).getD b []) (Zgk (nb u) O) (O.drop 1)∧J2 (nb u) (fun b=>(Zaw u).getD b []) (Zgk (nb u) O) 0 I' I'∧∀ b < nb u,b≠0→I'.getD b 0=Zgs u (Zgk (nb u) O) I' b):=by
 obtain⟨D,O',sn,hO,hinv⟩:=Z6 hnx _ (Zpq u) (Z1d hb) (Nat.le_refl _)
 by_cases hl:O'.reverse.length=nb u
 ·have hl':O'.length=nb u:=by simpa using hl
  obtain⟨h1,R⟩:=Z6z hnx hb hinv hl'
  obtain⟨D2,I',h2,h3,h4⟩:=Z53 R _ _ (Z9r R) (Nat.le_refl _)
  have hset:∀ x,(I'.set 0 (-1:Int)).getD x 0=if 0=x then -1 else I'.getD x 0:=fun x=>Zbe _ _ _ _ (by rw [h3.d.len];exact hb)
  refine⟨O'.reverse,I'.set 0 (-1),⟨⟨D,O',hO,rfl⟩,fun _=>h1,fun _=>⟨JJ u (Zgk (nb u) O'.reverse),D2,I',Z3o R,Z9r R,h2,rfl⟩,fun _=>⟨by simpa using h3.d.len,fun x hx=>?_⟩,fun _ a b hb'=>?_⟩,⟨sn,by rw [List.reverse_reverse];exact hinv⟩,fun _=>⟨I',rfl,R,h3,h4⟩⟩
  ·rw [hset]
   split
   ·omega
   ·exact (h3.d.rg x hx).2
  ·have hpb:=R.pn hb'
   obtain⟨d,r,g1,g2⟩:=Z68 R h3.d h3.p a _ b hb' (Nat.le_refl _)
   refine⟨d,by omega,?_⟩
   rw [Z8a g2 (show d < nb u+2 by omega)]
   exact g2
 ·exact⟨O'.reverse,[],⟨⟨D,O',hO,rfl⟩,fun h=>absurd h hl,fun h=>absurd h hl,fun h=>absurd h hl,fun h=>absurd h hl⟩,⟨sn,by rw [List.reverse_reverse];exact hinv⟩,fun h=>absurd h hl⟩
end Go.Proofs.YtlogdohlcdhepaaDoor.base
end
section
set_option maxRecDepth 100000
namespace Go.Proofs.YtlogdohlcdhepaaDoor.base
open Go.Sh gen
variable {S:Zb2}{m:Mem}
inductive Ro where
 | go (V:Vv)
 | tired (V:Vv)
 | left (V:Vv) (st:Nat) (val:Int)
def Zcq (u:UnT.D)(fuel:Int):List Int→Vv→Ro
 | [],V=>.go V
 | v::r,V =>
  let x:=Za1 u v
  if x.1=21∨x.1=1 then Zcq u fuel r V else
  if fuel≤V.steps then .tired V else
  if Zeo x V.ws V.wish=true then .left { V with steps:=V.steps+1,wish:=Zcl x V.wish } (show Int from x.2.2.2.2.2.1).toNat v else
  Zcq u fuel r { V with steps:=V.steps+1,wish:=Zcl x V.wish,hw:=Zlb x V.hw V.ws,ws:=Zm4 x v.toNat V.hw V.ws }
def Zhs (b:Zfk.D)(ws:List Int):Nat:=if b.2.1=2∧ws.getD (show Int from b.2.2.1).toNat 0=0 then 1 else 0
def Zib (u:UnT.D)(fuel:Int):Nat→Nat→Vv→Ro
 | 0,_,V=>.tired V
 | k+1,at_,V =>
  let b:=Zbt u at_
  match Zcq u fuel b.1 V with
  | .go V1 =>
   if fuel≤V1.steps then .tired V1 else
   if b.2.1=3 then .left { V1 with steps:=V1.steps+1 } (show Int from b.2.2.2.2.2.1).toNat (-1) else
   let to:=((show List Int from b.2.2.2.1).getD (Zhs b V1.ws) 0).toNat
   let t:=Zbt u to
   let p:=Zki u t.1 (Zh3 t.2.2.2.2.1 (at_:Int)) V1.ws
   Zib u fuel k to { V1 with ws:=Zna t.1 p p.length V1.ws,steps:=V1.steps+1+p.length }
  | r=>r
structure BOk (u:UnT.D)(at_:Nat)(b:Zfk.D):Prop where
 vl:List.length b.1≤1000000
 vin:∀ v∈(show List Int from b.1),(0:Int)≤v∧v < (nv u:Int)
 ed:b.2.1=3→(0:Int)≤(show Int from b.2.2.2.2.2.1)∧(show Int from b.2.2.2.2.2.1) < (ns u:Int)
 cd:b.2.1=2→(0:Int)≤(show Int from b.2.2.1)∧(show Int from b.2.2.1) < (nv u:Int)
 nl:List.length b.2.2.2.1≤1000000∧List.length b.2.2.2.2.1≤1000000
 n2:b.2.1≠3→(if b.2.1=2 then 1 else 0) < List.length b.2.2.2.1
 nx:∀ t∈(show List Int from b.2.2.2.1),(0:Int)≤t∧t < (nb u:Int)∧(Zbt u t.toNat).2.2.2.2.1≠([]:List Int)∧
  ∀ v∈(show List Int from (Zbt u t.toNat).1),(Za1 u v).1=21→Zh3 (Zbt u t.toNat).2.2.2.2.1 (at_:Int) < (Za1 u v).2.2.2.2.1.length∧(Za1 u v).2.2.2.2.1.length≤1000000∧(0:Int)≤(show List Int from (Za1 u v).2.2.2.2.1).getD (Zh3 (Zbt u t.toNat).2.2.2.2.1 (at_:Int)) 0∧(show List Int from (Za1 u v).2.2.2.2.1).getD (Zh3 (Zbt u t.toNat).2.2.2.2.1 (at_:Int)) 0 < (nv u:Int)
structure UOk (u:UnT.D):Prop where
 n:0 < nv u∧nv u≤1000000
 b:0 < nb u∧nb u≤1000000
 s:ns u≤1000000
 bl:∀ i,i < nb u→BOk u i (Zbt u i)
 vl:∀ x∈u.2.2.1,x.1≠1→x.1≠21→VOk u x
 pa:∀ x∈u.2.2.1,x.1=1→(0:Int)≤x.2.2.2.1∧x.2.2.2.1≤9223372036854775807
 gd:∀ x∈u.2.2.1,x.1=22→(0:Int)≤x.2.1∧x.2.1 < (nv u:Int)
 lv:∀ x∈u.2.2.1,x.1=22∨x.1=23→(0:Int)≤x.2.2.2.2.2.1∧x.2.2.2.2.2.1 < (ns u:Int)
 fr:∀ st,(h:st < ns u)→(u.2.2.2.2.1[st]).1.length≤1000000∧∀ f∈(u.2.2.2.2.1[st]).1,f.2.2.1.length≤1000000∧f.2.2.2.1.length≤1000000∧(∀ v∈(show List Int from f.2.2.1),(0:Int)≤v∧v < (nv u:Int))∧(∀ v∈(show List Int from f.2.2.2.1),(0:Int)≤v∧v < (nv u:Int))
def Z6t (Q:Nat→Prop)(m0 m1:Mem)(u:UnT.D)(K:Kv)(v:Value):Ro→Prop
 | .go _=>False
 | .tired V=>v=.agg #[.int .i64 0,.int .i64 (-1),.int .i64 (-1),.slice none 0 0,.int .i64 V.steps]∧Ev Q m1 u K V
 | .left V st val=>(∃ fo,v=.agg #[.int .i64 1,.int .i64 (st:Int),.int .i64 val,.slice fo (stD u st).length (stD u st).length,.int .i64 V.steps]∧AtQ (fun f=>m0.next≤f) m1 (Ty.slice 44 (Ty.pair (Ty.int .i64) (Ty.pair (Ty.int .i64) (Ty.pair (Ty.slice 45 (Ty.int .u64)) (Ty.pair (Ty.slice 45 (Ty.int .u64)) Ty.unit))))) ((stD u st).map (frW V.ws)) [.slice fo (stD u st).length (stD u st).length])∧Ev Q m1 u K V
structure Nu (S:Zb2):Prop where
 nv:Nv S
 run:S 10=[]
 tired:S 26=[]
 leaves:S 27=[]
 params:S 25=[]
 come:S 30=[]
 left:S 28=[]
 left1:S 57=[]
theorem Znt (n:Nat):List.replicate n (Value.int .u64 0)=words (List.replicate n 0):=by simp [words]
theorem Zvc {x:Zbj.D}{w:Int}(h:-9223372036854775808≤w∧w≤9223372036854775807):-9223372036854775808≤Zcl x w∧Zcl x w≤9223372036854775807:=by
 unfold Zcl;split <;> omega
theorem Zv9 (u:UnT.D)(loc l:List Int)(p:List Int × Int):p.2≤(Zhk u loc l p).2∧(Zhk u loc l p).2≤p.2+l.length:=by
 induction l generalizing p with
 | nil=>simp [Zhk]
 | cons a r ih =>
  have e:Zhk u loc (a::r) p=Zhk u loc r (Zsa u loc p a):=rfl
  rw [e]
  have:=ih (Zsa u loc p a)
  have h2:p.2≤(Zsa u loc p a).2∧(Zsa u loc p a).2≤p.2+1:=by
   unfold Zsa
   split
   ·dsimp only;omega
   ·omega
  rw [List.length_cons]
  omega
theorem Zkf {x:Zbj.D}{ws:List Int}{w:Int}(h:Zeo x ws w=true):x.1=22∨x.1=23:=by
 unfold Zeo at h
 by_cases h1:x.1=22
 ·exact Or.inl h1
 ·rw [if_neg h1] at h
  by_cases h2:x.1=23
  ·exact Or.inr h2
  ·rw [if_neg h2] at h;cases h
theorem Zrm (k:Nat)(hk:k≤1000000):Zco Tryd.prog 45 k=some (List.replicate k (Value.int .u64 0)):=Zls (bt:=8) (by kernel_rfl) k (by omega)
set_option maxHeartbeats 32000000 in
theorem Z5r (hN:Nu S){Q:Nat→Prop}{u:UnT.D}{vo bo so:Option Addr}(hU:UAt Q m u vo bo so)(hQ:∀ f,Q f→f < m.next)(hok:UOk u)
  (hck:∀ m1,Zaa m m1 []→∃ m2,Zag Tryd.prog TT S 22 [.agg (Zbw u vo bo so).toArray] m1=some (.bool true,m2)∧Zaa m1 m2 [])
  {hb hf hwb hwf:Nat} {hw:List Int} {room:Int} (hH:Zdn m hb hf hwb hwf hw room) (hhq:¬ Q hf∧¬ Q hwf) (hhw:Wd hw) (hhl:hw.length≤65536)
  {lo:Option Addr} {loc:List Int} {c lf:Nat} (hlo:Rs m lo loc.length (words loc) 45 1 lf) (hlq:loc.length≠0→lf < m.next) (hlw:Wd loc) (hlc:loc.length≤c∧c≤9223372036854775807)
  {wish fuel:Int} (hwi:-9223372036854775808≤wish∧wish≤9223372036854775807) (hfu:0≤fuel∧fuel≤1000000) :
  ∃ v m1,Zag Tryd.prog TT S 10 [.agg (Zbw u vo bo so).toArray,.pointer (some ⟨hb,0,none⟩),.slice lo loc.length c,.int .i64 wish,.int .i64 fuel] m=some (v,m1)∧
   (∃ K:Kv,K.hb=hb∧K.hf=hf∧K.hwf=hwf∧K.room=room∧Z6t Q m m1 u K v (Zib u fuel (fuel.toNat+1) 0 ⟨hwb,hw,(Zhk u loc (Zbt u 0).1 (List.replicate (nv u) 0,0)).1,wish,(Zhk u loc (Zbt u 0).1 (List.replicate (nv u) 0,0)).2⟩))∧Zaa m m1 [hf,hwf]:=by
 obtain⟨oU,kU,nU⟩:=Zat (m:=m) (cs:=Zbw u vo bo so) (e:=34) rfl
 obtain⟨pb,hpb⟩:∃ pb,m.next=pb:=⟨_,rfl⟩
 obtain⟨mA,hmA⟩:∃ mA,m.new (Zbw u vo bo so) 34=mA:=⟨_,rfl⟩
 rw [hmA,hpb] at oU nU
 rw [hmA] at kU
 obtain⟨oR,kR,nR⟩:=Zat (m:=mA) (cs:=[.int .i64 0,.int .i64 0,.int .i64 0,.slice none 0 0,.int .i64 0]) (e:=28) rfl
 obtain⟨rb,hrb⟩:∃ rb,mA.next=rb:=⟨_,rfl⟩
 obtain⟨mB,hmB⟩:∃ mB,mA.new [.int .i64 0,.int .i64 0,.int .i64 0,.slice none 0 0,.int .i64 0] 28=mB:=⟨_,rfl⟩
 rw [hmB,hrb] at oR nR
 rw [hmB] at kR
 have lU:=(oU.keep kR (by simp)).load (off:=0) 5 (by simp)
 simp [Zao] at lU
 obtain⟨mC,cC,kC⟩:=hck mB (kU.trans kR)
 have oUC:=(oU.keep kR (by simp)).keep kC (by simp)
 have lUC:=oUC.load (off:=0) 5 (by simp)
 simp [Zao] at lUC
 have u2C:=oUC.load1 (off:=2) rfl
 have hz:=Zrm (nv u) hok.n.2
 rw [Znt] at hz
 have n1:(nv u:Int)≤9223372036854775807:=by have:=hok.n;omega
 have n2:nv u * 8≤281474976710656:=by have:=hok.n;omega
 obtain⟨oW,kW,nW⟩:=Zat (m:=mC) (cs:=words (List.replicate (nv u) 0)) (e:=45) rfl
 obtain⟨wb,hwb'⟩:∃ wb,mC.next=wb:=⟨_,rfl⟩
 obtain⟨mD,hmD⟩:∃ mD,mC.new (words (List.replicate (nv u) 0)) 45=mD:=⟨_,rfl⟩
 rw [hmD,hwb'] at oW nW
 rw [hmD] at kW
 obtain⟨oM,kM,nM⟩:=Zat (m:=mD) (cs:=[.int .i64 u.1,.int .i64 u.2.1,.slice vo (nv u) (nv u),.slice bo (nb u) (nb u),.slice so (ns u) (ns u),.pointer (some ⟨hb,0,none⟩),.slice (some ⟨wb,0,none⟩) (nv u) (nv u),.int .i64 wish,.int .i64 0]) (e:=78) rfl
 obtain⟨xb,hxb⟩:∃ xb,mD.next=xb:=⟨_,rfl⟩
 obtain⟨mE,hmE⟩:∃ mE,mD.new [.int .i64 u.1,.int .i64 u.2.1,.slice vo (nv u) (nv u),.slice bo (nb u) (nb u),.slice so (ns u) (ns u),.pointer (some ⟨hb,0,none⟩),.slice (some ⟨wb,0,none⟩) (nv u) (nv u),.int .i64 wish,.int .i64 0] 78=mE:=⟨_,rfl⟩
 rw [hmE,hxb] at oM nM
 rw [hmE] at kM
 have lUD:=(oUC.keep kW (by simp)).load (off:=0) 5 (by simp)
 simp [Zao] at lUD
 have KC:Zaa m mC []:=(kU.trans kR).trans kC
 have KE:Zaa m mE []:=(KC.trans kW).trans kM
 have c1:=(kU.trans kR).1
 have c2:=kC.1
 have c3:=hH.h.flt
 have c4:=hH.w.flt
 have mnx:m.next≤wb∧wb < xb∧pb=m.next∧pb < rb∧rb < wb:=by
  have:=oU.flt;have:=oR.flt;have:=oW.flt;omega
 obtain⟨K,hK⟩:∃ K:Kv,K=⟨xb,xb,hb,hf,hwf,wb,wb,room,vo,bo,so⟩:=⟨_,rfl⟩
 have ev0:Ev Q mE u K ⟨hwb,hw,List.replicate (nv u) 0,wish,0⟩:=by
  subst hK
  refine⟨oM,oW.keep kM (by simp),by simp,?_,hhw,hhl,hH.keep KE (by simp) (by simp),hU.keep KE (by simp),⟨fun q=>?_,fun q=>?_,hhq.1,hhq.2⟩,?_⟩
  ·intro w hw'
   rw [List.mem_replicate] at hw'
   rw [hw'.2];omega
  ·have:=hQ _ q;dsimp only at this;omega
  ·have:=hQ _ q;dsimp only at this;omega
  ·have:=hH.ne
   dsimp only
   omega
 have hb0:=hok.b
 have eb0:Zbt u 0=u.2.2.2.1[0]'hb0.1:=Zci hb0.1
 have B0:=hok.bl 0 hb0.1
 rw [eb0] at B0 ⊢
 obtain⟨_,mF,cF,ev1,kF⟩:=Zwg hN.params ev0 hok.n.2 hb0.1 B0.vl B0.vin hok.pa (by dsimp only;omega) (lo:=lo) (loc:=loc) (c:=c) (lf:=lf) (by exact hlo.keep0 KE (by simp)) (fun q=>by have:=hlq q;subst hK;dsimp only;omega) hlw hlc
 have eKx:K.x=xb:=by rw [hK]
 rw [eKx] at cF
 refine Zfi 112 [112,118,128] k10 hN.run rfl ?_
 simp [-Int.natCast_add,Zcu b34,Zyl u22,Zau Ycs,Zcu b78,hpb,hmA,hrb,hmB,lU,cC,lUC,u2C,Zkl u42 Zww,hz,n1,n2,hwb',hmD,hxb,hmE,lUD,cF]
 have kF':Zaa m mF [hf,hwf]:=Zay (KE.mono (by simp)) kF (by subst hK;intro g hg hm;simp at hm;omega)
 have oUF:=((oUC.keep kW (by simp)).keep kM (by simp)).keep kF (by subst hK;simp;omega)
 have oRF:=(((oR.keep kC (by simp)).keep kW (by simp)).keep kM (by simp)).keep kF (by subst hK;simp;omega)
 have hps:=Zv9 u loc (u.2.2.2.1[0]'hb0.1).1 (List.replicate (nv u) 0,0)
 have hpl:=B0.vl
 dsimp only at hps
 obtain⟨V1,hV1⟩:∃ V1:Vv,V1=⟨hwb,hw,(Zhk u loc (u.2.2.2.1[0]'hb0.1).1 (List.replicate (nv u) 0,0)).1,wish,(Zhk u loc (u.2.2.2.1[0]'hb0.1).1 (List.replicate (nv u) 0,0)).2⟩:=⟨_,rfl⟩
 have ev1':Ev Q mF u K V1:=by rw [hV1];exact ev1
 have hs1:0≤V1.steps∧V1.steps≤3000000:=by rw [hV1];dsimp only;omega
 have hw1:V1.wish=wish:=by rw [hV1]
 rw [← hV1]
 obtain⟨R0,hR0⟩:∃ R0,Zib u fuel (fuel.toNat+1) 0 V1=R0:=⟨_,rfl⟩
 rw [hR0]
 have eK:K.hb=hb∧K.hf=hf∧K.hwf=hwf∧K.room=room∧K.f=xb∧K.wf=wb∧K.x=xb∧K.bo=bo∧K.vo=vo:=by rw [hK];exact⟨rfl,rfl,rfl,rfl,rfl,rfl,rfl,rfl,rfl⟩
 obtain⟨eK1,eK2,eK3,eK4,eK5,eK6,eK7,eK8,eK9⟩:=eK
 have qn:∀ f,m.next≤f→¬ Q f:=fun f hf q=>by have:=hQ f q;omega
 clear hK ev0 ev1 cF lU cC lUC u2C lUD hps hz
 refine Zai 112 [112,118,128] (fun d E mG=>∃ (k at_:Nat) (V:Vv),k=d∧1≤k∧fuel < V.steps+k∧0≤V.steps∧V.steps≤3000000∧(-9223372036854775808≤V.wish∧V.wish≤9223372036854775807)∧at_ < nb u∧Zib u fuel k at_ V=R0∧Ev Q mG u K V∧Own mG pb (Zbw u vo bo so) 34 pb∧Own mG rb [.int .i64 0,.int .i64 0,.int .i64 0,.slice none 0 0,.int .i64 0] 28 rb∧Zaa m mG [hf,hwf]∧
  E=[(4,.int .i64 fuel),(5,.pointer (some ⟨pb,0,none⟩)),(10,.pointer (some ⟨rb,0,none⟩)),(11,.pointer (some ⟨xb,0,none⟩)),(12,.int .i64 (at_:Int))]) _ ⟨_,⟨fuel.toNat+1,0,V1,rfl,by omega,by omega,hs1.1,hs1.2,by rw [hw1];exact hwi,hb0.1,hR0,ev1',oUF,oRF,kF',rfl⟩,(by repeat' constructor)⟩ ?_
 rintro d E mG ih ⟨k,at_,V,hd,hk1,hkf,hs0,hs3,hwb1,hat,hrun,hG,oUG,oRG,kG,rfl⟩
 have B:=hok.bl at_ hat
 obtain⟨bb,vo',no',po',hbo',ldb,hvo',hno',hpo'⟩:=Zgf hG.unit hat
 rw [eK8] at hbo'
 rw [← Zci hat] at ldb hvo' hno' hpo'
 obtain⟨b,hb'⟩:∃ b:Zfk.D,Zbt u at_=b:=⟨_,rfl⟩
 rw [hb'] at ldb hvo' hno' hpo' B
 obtain⟨l,hl⟩:∃ l:List Int,b.1=l:=⟨_,rfl⟩
 have Bvl:l.length≤1000000:=by rw [← hl];exact B.vl
 have Bvin:∀ v∈l,(0:Int)≤v∧v < (nv u:Int):=by rw [← hl];exact B.vin
 have hvl:Za2 Q mG vo' l:=by rw [← hl];exact hvo'
 have hun:=hok.n
 have hub:=hok.b
 have a1:(at_:Int) < nb u:=by omega
 have a2:(at_:Int)≤9223372036854775807:=by omega
 have u3:=oUG.load1 (off:=3) rfl
 rw [hbo'] at u3
 obtain⟨oZ,kZ,nZ⟩:=Zat (m:=mG) (cs:=[.slice none 0 0,.int .i64 0,.int .i64 0,.slice none 0 0,.slice none 0 0,.int .i64 0]) (e:=40) rfl
 obtain⟨bx,hbx⟩:∃ bx,mG.next=bx:=⟨_,rfl⟩
 obtain⟨mH,eH,oX,kX⟩:=Zaj (r:=_) rfl oZ (off:=0) (vs:=Zy8 b vo' no' po') (by simp) (by simp [Zam,Zad])
 simp [Zbr] at oX
 have kH:=kZ.fresh kX (by simp)
 rw [hbx] at oX nZ eH
 have hH':=hG.keep0 kH
 have bs:m.next≤bx∧xb < bx∧rb < bx∧pb < bx∧wb < bx:=by
  have:=kG.1;have:=hG.own.flt;have:=oRG.flt;have:=oUG.flt;omega
 have x0:=oX.load1 (off:=0) rfl
 have x0':loadRow mH ⟨bx,0,none⟩ 1=some [.slice vo' l.length l.length]:=by rw [x0,hl]
 simp [-Int.natCast_add,u3,a2,hat,ldb,hbx,eH,x0']
 have kGH:Zaa m mH [hf,hwf]:=Zay kG kH (by simp)
 obtain⟨R1,hR1⟩:∃ R1,Zcq u fuel l V=R1:=⟨_,rfl⟩
 refine Zai 112 [112,118,128] (fun d E mI=>∃ (i:Nat) (V':Vv),l.length - i=d∧i≤l.length∧Zcq u fuel (l.drop i) V'=R1∧V.steps≤V'.steps∧V'.steps≤3000000∧(-9223372036854775808≤V'.wish∧V'.wish≤9223372036854775807)∧Ev Q mI u K V'∧Own mI bx (Zy8 b vo' no' po') 40 bx∧Own mI pb (Zbw u vo bo so) 34 pb∧Own mI rb [.int .i64 0,.int .i64 0,.int .i64 0,.slice none 0 0,.int .i64 0] 28 rb∧Zaa m mI [hf,hwf]∧Zaa mH mI [K.f,K.wf,hwf]∧
  E=[(4,.int .i64 fuel),(5,.pointer (some ⟨pb,0,none⟩)),(10,.pointer (some ⟨rb,0,none⟩)),(11,.pointer (some ⟨xb,0,none⟩)),(12,.int .i64 (at_:Int)),(13,.pointer (some ⟨bx,0,none⟩)),(44,.slice vo' l.length l.length),(45,.int .i64 l.length),(46,.int .i64 (i:Int))]) _ ⟨_,⟨0,V,rfl,by omega,by rw [List.drop_zero];exact hR1,by omega,hs3,hwb1,hH',by rw [hbx] at *;exact oX,oUG.keep kH (by simp),oRG.keep kH (by simp),kGH,.refl _ _,rfl⟩,(by repeat' constructor)⟩ ?_
 rintro d' E mI ih2 ⟨i,V',hd2,hi,Za6,hst,hst3,hwb2,hI,oXI,oUI,oRI,kI,kHI,rfl⟩
 have im:(i:Int)≤9223372036854775807:=by omega
 by_cases hlt:i < l.length
 ·have i1:(i:Int) < l.length:=by omega
  have wi:IntKind.i64.wrap ((i:Int)+1)=((i+1:Nat):Int):=by rw [Zab (by omega) (by omega)];omega
  have nq3:∀ f∈[K.f,K.wf,hwf],¬ Q f:=by
   intro f hf'
   simp at hf'
   rcases hf' with q | q | q
   ·rw [q];exact hI.nq.1
   ·rw [q];exact hI.nq.2.1
   ·rw [q];exact hhq.2
  obtain⟨lb,hlb,li⟩:=((hvl.keep kH (by simp)).keep kHI nq3).get hlt
  rw [hlb] at ih2 oXI ⊢
  obtain⟨v,ev⟩:∃ v:Nat,l.getD i 0=(v:Int):=⟨(l.getD i 0).toNat,by have:=Bvin _ (Zas hlt);omega⟩
  have hvn:v < nv u:=by have:=Bvin _ (Zas hlt);omega
  have hdrop:l.drop i=(v:Int)::l.drop (i+1):=by
   rw [List.drop_eq_getElem_cons hlt,← ev,List.getD_eq_getElem?_getD,List.getElem?_eq_getElem hlt];rfl
  rw [ev] at li
  rw [hdrop,Zcq,Zeg hvn] at Za6
  obtain⟨xb2,ao,fa,hxv,ldx,hra,hqa⟩:=Zh hI.unit hvn
  rw [eK9] at hxv
  have u2:=oUI.load1 (off:=2) rfl
  rw [hxv] at u2
  have lop:=Zb8 (k:=0) ldx rfl
  rw [Nat.add_zero] at lop
  have v1:(v:Int) < nv u:=by omega
  have v2:(v:Int)≤9223372036854775807:=by omega
  obtain⟨o,ho⟩:∃ o:Int,(u.2.2.1[v]).1=o:=⟨_,rfl⟩
  rw [ho] at lop
  have hmem:u.2.2.1[v]∈u.2.2.1:=List.getElem_mem hvn
  by_cases c21:o=21∨o=1
  ·dsimp only at Za6
   rw [if_pos (by rw [ho];exact c21)] at Za6
   have c1:¬ o=21→o=1:=fun q=>c21.resolve_left q
   by_cases c21':o=21
   ·simp [-Int.natCast_add,-List.getD_eq_getElem?_getD,i1,im,hlt,li,u2,v2,hvn,lop,c21',wi]
    exact ih2 _ _ _ _ ⟨i+1,V',rfl,by omega,Za6,hst,hst3,hwb2,hI,oXI,oUI,oRI,kI,kHI,rfl⟩ (by omega) (by repeat' constructor)
   ·have c1':=c1 c21'
    simp [-Int.natCast_add,-List.getD_eq_getElem?_getD,i1,im,hlt,li,u2,v2,hvn,lop,c1',wi]
    exact ih2 _ _ _ _ ⟨i+1,V',rfl,by omega,Za6,hst,hst3,hwb2,hI,oXI,oUI,oRI,kI,kHI,rfl⟩ (by omega) (by repeat' constructor)
  ·have n21:¬ o=21:=fun q=>c21 (Or.inl q)
   have n01:¬ o=1:=fun q=>c21 (Or.inr q)
   dsimp only at Za6
   rw [if_neg (by rw [ho];exact c21)] at Za6
   have w8:=hI.own.load1 (off:=8) rfl
   rw [eK7] at w8
   by_cases ft:fuel≤V'.steps
   ·rw [if_pos ft] at Za6
    have hR:R0=.tired V':=by
     rw [← hrun]
     obtain⟨k,rfl⟩:∃ k',k=k'+1:=⟨k - 1,by omega⟩
     rw [Zib,hb',hl]
     dsimp only
     rw [hR1,← Za6]
    obtain⟨_,m1,ct,rfl,kt⟩:=Zpz hN.tired hI
    rw [eK7] at ct
    obtain⟨m2,e2,oR2,k2⟩:=Zaj (r:=_) rfl (oRI.keep kt (by simp)) (off:=0) (vs:=[.int .i64 0,.int .i64 (-1),.int .i64 (-1),.slice none 0 0,.int .i64 V'.steps]) (by simp) (by simp [Zam,Zad])
    simp [Zbr] at oR2
    have lR:=oR2.load (off:=0) 5 (by simp)
    simp [Zao] at lR
    have h2:=(hI.keep0 kt).keep k2 (by rw [eK5];simp;omega) (by rw [eK6];simp;omega) (by rw [eK2];simp;omega) (by rw [eK3];simp;omega) (by simp;exact qn _ (by omega))
    simp [-Int.natCast_add,-List.getD_eq_getElem?_getD,Zdf Zwp,i1,im,hlt,li,u2,v2,hvn,lop,n21,n01,w8,ft,ct,e2,lR]
    exact⟨⟨K,eK1,eK2,eK3,eK4,by rw [hR];exact⟨rfl,h2⟩⟩,Zay (Zay kI kt (by simp)) k2 (by simp;omega)⟩
   ·rw [if_neg ft] at Za6
    obtain⟨mJ,eJ,hJ,kJ⟩:=Zjd hI (V'.steps+1)
    rw [eK7] at eJ
    rw [eK5] at kJ
    have wst:IntKind.i64.wrap (V'.steps+1)=V'.steps+1:=Zab (by omega) (by omega)
    obtain⟨_,mK,cL,rfl,hKv,kK⟩:=Zvz hN.leaves hJ hun.2 hvn (fun q=>hok.gd _ hmem q) hwb2
    rw [eK7] at cL
    rw [eK5] at kK
    dsimp only at hKv cL
    have oUJ:=(oUI.keep kJ (by simp;omega)).keep kK (by simp;omega)
    have oRJ:=(oRI.keep kJ (by simp;omega)).keep kK (by simp;omega)
    have oXJ:=(oXI.keep kJ (by simp;omega)).keep kK (by simp;omega)
    have kJI:Zaa m mK [hf,hwf]:=Zay (Zay kI kJ (by simp;omega)) kK (by simp;omega)
    have lwb:=Zvc (x:=u.2.2.1[v]) hwb2
    by_cases lv:Zeo (u.2.2.1[v]) V'.ws V'.wish=true
    ·rw [if_pos lv] at Za6
     rw [lv] at cL
     obtain⟨s0,s1⟩:=hok.lv _ hmem (Zkf lv)
     obtain⟨xb3,ao3,fa3,hxv3,ldx3,_,_⟩:=Zh hKv.unit hvn
     rw [eK9,hxv] at hxv3
     simp only [Option.some.injEq,Addr.mk.injEq,and_true] at hxv3
     subst hxv3
     have lst:=Zb8 (k:=5) ldx3 rfl
     have u2K:=oUJ.load1 (off:=2) rfl
     rw [hxv] at u2K
     obtain⟨st,est⟩:∃ st:Nat,(show Int from (u.2.2.1[v]).2.2.2.2.2.1)=(st:Int):=⟨_,(Int.toNat_of_nonneg s0).symm⟩
     have hst':st < ns u:=by
      have:(show Int from (u.2.2.1[v]).2.2.2.2.2.1) < (ns u:Int):=s1
      omega
     have lst':loadRow mK ⟨xb2,v * 6+5,none⟩ 1=some [.int .i64 (st:Int)]:=by rw [lst];rw [show (u.2.2.1[v]).2.2.2.2.2.1=(st:Int) from est]
     obtain⟨f1,f2⟩:=hok.fr st hst'
     obtain⟨_,mL,cF2,⟨fo,rfl,hfr⟩,kL⟩:=Zt9 hN.left hN.left1 hKv hun.2 hok.s hst' (v:Int) rfl f1 f2
     rw [eK7] at cF2
     dsimp only at cF2
     obtain⟨m2,e2,oR2,k2⟩:=Zaj (r:=_) rfl (oRJ.keep kL (by simp)) (off:=0) (vs:=[.int .i64 1,.int .i64 (st:Int),.int .i64 (v:Int),.slice fo (u.2.2.2.2.1[st]).1.length (u.2.2.2.2.1[st]).1.length,.int .i64 (V'.steps+1)]) (by simp) (by simp [Zam,Zad])
     simp [Zbr] at oR2
     have lR:=oR2.load (off:=0) 5 (by simp)
     simp [Zao] at lR
     have h2:=(hKv.keep0 kL).keep k2 (by rw [eK5];simp;omega) (by rw [eK6];simp;omega) (by rw [eK2];simp;omega) (by rw [eK3];simp;omega) (by simp;exact qn _ (by omega))
     have hR:R0=.left { V' with steps:=V'.steps+1,wish:=Zcl (u.2.2.1[v]) V'.wish } st (v:Int):=by
      rw [← hrun]
      obtain⟨k,rfl⟩:∃ k',k=k'+1:=⟨k - 1,by omega⟩
      rw [Zib,hb',hl]
      dsimp only
      rw [hR1,← Za6]
      dsimp only
      have e5:Int.toNat (show Int from (u.2.2.1[v]).2.2.2.2.2.1)=st:=by rw [est];exact Int.toNat_natCast st
      exact congrArg (fun z=>Ro.left _ z _) e5
     have mKn:=kJI.1
     have fr2:=(hfr.keep k2 (by have:=oRJ.flt;simp;omega)).mono (R:=fun f=>m.next≤f) (fun f q=>by omega)
     simp [-Int.natCast_add,-List.getD_eq_getElem?_getD,Zdf Zwp,i1,im,hlt,li,u2,v2,hvn,lop,n21,n01,w8,ft,wst,eJ,cL,u2K,lst',cF2,e2,lR]
     refine⟨⟨K,eK1,eK2,eK3,eK4,by rw [hR];exact⟨⟨fo,by rw [Zhc hst'],by rw [Zhc hst'];exact fr2⟩,h2⟩⟩,Zay (Zay kJI kL (by simp)) k2 (by simp;omega)⟩
    ·rw [if_neg lv] at Za6
     have lv':Zeo (u.2.2.1[v]) V'.ws V'.wish=false:=by simpa using lv
     rw [lv'] at cL
     have hx:=hok.vl _ hmem (by rw [ho];exact n01) (by rw [ho];exact n21)
     obtain⟨_,mL,cD,hD,kD⟩:=Z16 hN.nv hKv hun.2 hvn hx
     rw [eK7] at cD
     rw [eK6,eK3] at kD
     dsimp only at hD
     have oUL:=oUJ.keep kD (by simp;omega)
     have oRL:=oRJ.keep kD (by simp;omega)
     have oXL:=oXJ.keep kD (by simp;omega)
     have kLI:Zaa m mL [hf,hwf]:=Zay kJI kD (by simp;omega)
     have kLH:Zaa mH mL [K.f,K.wf,hwf]:=by
      rw [eK5,eK6] at kHI ⊢
      exact ((kHI.trans (kJ.mono (by simp))).trans (kK.mono (by simp))).trans (kD.mono (by simp))
     simp [-Int.natCast_add,-List.getD_eq_getElem?_getD,i1,im,hlt,li,u2,v2,hvn,lop,n21,n01,w8,ft,wst,eJ,cL,cD,wi]
     exact ih2 _ _ _ _ ⟨i+1,_,rfl,by omega,Za6,by dsimp only;omega,by dsimp only;omega,lwb,by simpa using hD,oXL,oUL,oRL,kLI,kLH,rfl⟩ (by omega) (by repeat' constructor)
 clear ih2
 have i1:¬ (i:Int) < l.length:=by omega
 rw [List.drop_of_length_le (by omega),Zcq] at Za6
 obtain⟨k,rfl⟩:∃ k',k=k'+1:=⟨k - 1,by omega⟩
 rw [Zib,hb',hl] at hrun
 dsimp only at hrun
 rw [hR1,← Za6] at hrun
 dsimp only at hrun
 have w8:=hI.own.load1 (off:=8) rfl
 rw [eK7] at w8
 by_cases ft:fuel≤V'.steps
 ·rw [if_pos ft] at hrun
  obtain⟨_,m1,ct,rfl,kt⟩:=Zpz hN.tired hI
  rw [eK7] at ct
  obtain⟨m2,e2,oR2,k2⟩:=Zaj (r:=_) rfl (oRI.keep kt (by simp)) (off:=0) (vs:=[.int .i64 0,.int .i64 (-1),.int .i64 (-1),.slice none 0 0,.int .i64 V'.steps]) (by simp) (by simp [Zam,Zad])
  simp [Zbr] at oR2
  have lR:=oR2.load (off:=0) 5 (by simp)
  simp [Zao] at lR
  have h2:=(hI.keep0 kt).keep k2 (by rw [eK5];simp;omega) (by rw [eK6];simp;omega) (by rw [eK2];simp;omega) (by rw [eK3];simp;omega) (by simp;exact qn _ (by omega))
  simp [-Int.natCast_add,Zdf Zwp,i1,w8,ft,ct,e2,lR]
  exact⟨⟨K,eK1,eK2,eK3,eK4,by rw [← hrun];exact⟨rfl,h2⟩⟩,Zay (Zay kI kt (by simp)) k2 (by simp;omega)⟩
 rw [if_neg ft] at hrun
 obtain⟨mJ,eJ,hJ,kJ⟩:=Zjd hI (V'.steps+1)
 rw [eK7] at eJ
 rw [eK5] at kJ
 have wst:IntKind.i64.wrap (V'.steps+1)=V'.steps+1:=Zab (by omega) (by omega)
 have oUJ:=oUI.keep kJ (by simp;omega)
 have oRJ:=oRI.keep kJ (by simp;omega)
 have oXJ:=oXI.keep kJ (by simp;omega)
 have kJI:Zaa m mJ [hf,hwf]:=Zay kI kJ (by simp;omega)
 obtain⟨en,hen⟩:∃ en:Int,b.2.1=en:=⟨_,rfl⟩
 have y1:=oXJ.load1 (off:=1) rfl
 rw [hen] at y1
 by_cases e3:en=3
 ·rw [if_pos (by rw [hen];exact e3)] at hrun
  obtain⟨s0,s1⟩:=B.ed (by rw [hen];exact e3)
  obtain⟨st,est⟩:∃ st:Nat,(show Int from b.2.2.2.2.2.1)=(st:Int):=⟨_,(Int.toNat_of_nonneg s0).symm⟩
  have e5:Int.toNat (show Int from b.2.2.2.2.2.1)=st:=by rw [est];exact Int.toNat_natCast st
  have hR:R0=.left { V' with steps:=V'.steps+1 } st (-1):=by rw [← hrun];exact congrArg (fun z=>Ro.left _ z _) e5
  have hst':st < ns u:=by
   have:(show Int from b.2.2.2.2.2.1) < (ns u:Int):=s1
   omega
  have y5:=oXJ.load1 (off:=5) rfl
  rw [show b.2.2.2.2.2.1=(st:Int) from est] at y5
  obtain⟨f1,f2⟩:=hok.fr st hst'
  obtain⟨_,mL,cF2,⟨fo,rfl,hfr⟩,kL⟩:=Zt9 hN.left hN.left1 hJ hun.2 hok.s hst' (-1) rfl f1 f2
  rw [eK7] at cF2
  dsimp only at cF2
  obtain⟨m2,e2,oR2,k2⟩:=Zaj (r:=_) rfl (oRJ.keep kL (by simp)) (off:=0) (vs:=[.int .i64 1,.int .i64 (st:Int),.int .i64 (-1),.slice fo (u.2.2.2.2.1[st]).1.length (u.2.2.2.2.1[st]).1.length,.int .i64 (V'.steps+1)]) (by simp) (by simp [Zam,Zad])
  simp [Zbr] at oR2
  have lR:=oR2.load (off:=0) 5 (by simp)
  simp [Zao] at lR
  have h2:=(hJ.keep0 kL).keep k2 (by rw [eK5];simp;omega) (by rw [eK6];simp;omega) (by rw [eK2];simp;omega) (by rw [eK3];simp;omega) (by simp;exact qn _ (by omega))
  have mKn:=kJI.1
  have fr2:=(hfr.keep k2 (by have:=oRJ.flt;simp;omega)).mono (R:=fun f=>m.next≤f) (fun f q=>by omega)
  simp [-Int.natCast_add,Zdf Zwp,i1,w8,ft,wst,eJ,y1,e3,y5,cF2,e2,lR]
  exact⟨⟨K,eK1,eK2,eK3,eK4,by rw [hR];exact⟨⟨fo,by rw [Zhc hst'],by rw [Zhc hst'];exact fr2⟩,h2⟩⟩,Zay (Zay kJI kL (by simp)) k2 (by simp;omega)⟩
 rw [if_neg (by rw [hen];exact e3)] at hrun
 obtain⟨nl,hnl⟩:∃ nl:List Int,b.2.2.2.1=nl:=⟨_,rfl⟩
 have Bn:∀ t∈nl,(0:Int)≤t∧t < (nb u:Int)∧(Zbt u t.toNat).2.2.2.2.1≠([]:List Int)∧
  ∀ v∈(show List Int from (Zbt u t.toNat).1),(Za1 u v).1=21→Zh3 (Zbt u t.toNat).2.2.2.2.1 (at_:Int) < (Za1 u v).2.2.2.2.1.length∧(Za1 u v).2.2.2.2.1.length≤1000000∧(0:Int)≤(show List Int from (Za1 u v).2.2.2.2.1).getD (Zh3 (Zbt u t.toNat).2.2.2.2.1 (at_:Int)) 0∧(show List Int from (Za1 u v).2.2.2.2.1).getD (Zh3 (Zbt u t.toNat).2.2.2.2.1 (at_:Int)) 0 < (nv u:Int):=by rw [← hnl];exact B.nx
 have Bl2:(if en=2 then 1 else 0) < nl.length:=by
  have:=B.n2 (by rw [hen];exact e3)
  rw [hen,hnl] at this;exact this
 have Bnl:nl.length≤1000000:=by rw [← hnl];exact B.nl.1
 obtain⟨cd,hcd⟩:∃ cd:Int,b.2.2.1=cd:=⟨_,rfl⟩
 have Bcd:en=2→0≤cd∧cd < (nv u:Int):=by rw [← hen,← hcd];exact B.cd
 obtain⟨wv,hwv⟩:∃ wv,Zhs b V'.ws=wv:=⟨_,rfl⟩
 have hwvf:wv=if en=2∧V'.ws.getD cd.toNat 0=0 then 1 else 0:=by rw [← hwv];unfold Zhs;rw [hen,show (show Int from b.2.2.1)=cd from hcd]
 have wvl:wv < nl.length:=by
  rw [hwvf]
  by_cases q:en=2
  ·rw [if_pos q] at Bl2;split <;> omega
  ·rw [if_neg (fun z=>q z.1)];omega
 rw [hnl,hwv] at hrun
 obtain⟨tn,htn⟩:∃ tn:Nat,nl.getD wv 0=(tn:Int):=⟨(nl.getD wv 0).toNat,by have:=Bn _ (Zas wvl);omega⟩
 have Bt:=Bn _ (Zas wvl)
 rw [htn,Int.toNat_natCast] at Bt
 obtain⟨_,t1,t2,t3⟩:=Bt
 rw [htn,Int.toNat_natCast] at hrun
 have tb:tn < nb u:=by omega
 have T:=hok.bl tn tb
 obtain⟨_,mL,cC2,hL,kL⟩:=Z1b hN.come hJ hun.2 hub.2 (from_:=(at_:Int)) tb (l:=(Zbt u tn).1) (pr:=(Zbt u tn).2.2.2.2.1) (by rw [Zci tb]) (by rw [Zci tb]) T.vl T.nl.2 t2 T.vin t3 (by dsimp only;omega)
 rw [eK7] at cC2
 dsimp only at hL
 have pll:=Zon u (Zbt u tn).1 (Zh3 (Zbt u tn).2.2.2.2.1 (at_:Int)) V'.ws
 have Tvl:=T.vl
 rw [eK5,eK6] at kL
 have oUL:=oUJ.keep kL (by simp;omega)
 have oRL:=oRJ.keep kL (by simp;omega)
 have oXL:=oXJ.keep kL (by simp;omega)
 have kLI:Zaa m mL [hf,hwf]:=Zay kJI kL (by simp;omega)
 have nq3:∀ f∈[K.f,K.wf,hwf],¬ Q f:=by
  intro f hf'
  simp at hf'
  rcases hf' with q | q | q
  ·rw [q];exact hI.nq.1
  ·rw [q];exact hI.nq.2.1
  ·rw [q];exact hhq.2
 have hnoG:Za2 Q mG no' nl:=by rw [← hnl];exact hno'
 have hnoJ:=((hnoG.keep kH (by simp)).keep kHI nq3).keep kJ (by simp;exact qn _ (by omega))
 have hnoL:=hnoJ.keep kL (by simp;exact⟨qn _ (by omega),qn _ (by omega)⟩)
 obtain⟨nxb,hnxb,lnx⟩:=hnoJ.get wvl
 obtain⟨nxb2,hnxb2,lnxL⟩:=hnoL.get wvl
 rw [hnxb] at hnxb2
 simp only [Option.some.injEq,Addr.mk.injEq,and_true] at hnxb2
 subst hnxb2
 rw [htn] at lnx lnxL
 have y3:=oXJ.load1 (off:=3) rfl
 have y3L:=oXL.load1 (off:=3) rfl
 rw [hnl,hnxb] at y3 y3L
 have y2:=oXJ.load1 (off:=2) rfl
 rw [hcd] at y2
 have w6:=hJ.own.load1 (off:=6) rfl
 rw [eK7] at w6
 have wvm:(wv:Int)≤9223372036854775807:=by omega
 have wvl':(wv:Int) < nl.length:=by omega
 have nlm:(nl.length:Int)≤9223372036854775807:=by omega
 apply Yaa
 case main =>
  by_cases e2n:¬ en=2
  case' pos =>
   have hw0':wv=0:=by rw [hwvf,if_neg (fun q=>e2n q.1)]
   intro meth
   simp [-Int.natCast_add,-List.getD_eq_getElem?_getD,-w10_29,i1,w8,ft,wst,eJ,y1,e2n,e3]
  case' neg =>
   have e2:en=2:=Decidable.not_not.1 e2n
   obtain⟨c0,c1'⟩:=Bcd e2
   obtain⟨cn,hcn⟩:∃ cn:Nat,cd=(cn:Int):=⟨cd.toNat,by omega⟩
   rw [hcn] at y2 hwvf
   rw [Int.toNat_natCast] at hwvf
   have cnv:cn < nv u:=by omega
   have cnv':(cn:Int) < nv u:=by omega
   have cnm:(cn:Int)≤9223372036854775807:=by omega
   have lw:=hJ.wds.load1 (off:=cn) (Zbs (by rw [hJ.len];exact cnv))
   dsimp only at lw
   by_cases z:V'.ws.getD cn 0=0
   case' pos =>
    have hw1':wv=1:=by rw [hwvf,if_pos ⟨e2,z⟩]
    intro meth
    simp [-Int.natCast_add,-List.getD_eq_getElem?_getD,-w10_29,i1,w8,ft,wst,eJ,y1,e2,y2,w6,cnv,cnm,lw,z]
   case' neg =>
    have hw0':wv=0:=by rw [hwvf,if_neg (fun q=>z q.2)]
    intro meth
    simp [-Int.natCast_add,-List.getD_eq_getElem?_getD,-w10_29,i1,w8,ft,wst,eJ,y1,e2,y2,w6,cnv,cnm,lw,z]
  all_goals
   exact Ze4 (E:=[(4,.int .i64 fuel),(5,.pointer (some ⟨pb,0,none⟩)),(10,.pointer (some ⟨rb,0,none⟩)),(11,.pointer (some ⟨xb,0,none⟩)),(12,.int .i64 (at_:Int)),(13,.pointer (some ⟨bx,0,none⟩)),(17,.int .i64 (wv:Int))]) meth ⟨by rfl,by rfl,by rfl,by rfl,by rfl,by rfl,by simp [Zbu];omega,trivial⟩
 simp [-Int.natCast_add,-List.getD_eq_getElem?_getD,y3,wvm,wvl,lnx,cC2,y3L,lnxL]
 exact ih _ _ _ _ ⟨k,tn,{ V' with ws:=Zna (Zbt u tn).1 (Zki u (Zbt u tn).1 (Zh3 (Zbt u tn).2.2.2.2.1 (at_:Int)) V'.ws) (Zki u (Zbt u tn).1 (Zh3 (Zbt u tn).2.2.2.2.1 (at_:Int)) V'.ws).length V'.ws,steps:=V'.steps+1+((Zki u (Zbt u tn).1 (Zh3 (Zbt u tn).2.2.2.2.1 (at_:Int)) V'.ws).length:Int) },rfl,by omega,by dsimp only;omega,by dsimp only;omega,by dsimp only;omega,hwb2,tb,hrun,hL,oUL,oRL,kLI,rfl⟩ (by omega) (by repeat' constructor)
end Go.Proofs.YtlogdohlcdhepaaDoor.base
end
