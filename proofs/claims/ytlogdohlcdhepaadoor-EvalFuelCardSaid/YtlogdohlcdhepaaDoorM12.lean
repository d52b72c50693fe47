/- This text proves, in Ztm Lean, that the dominators' rounds only ever go up, so that they come to an end. No condition. -/
import Derived.Test.YtlogdohlcdhepaaDoorM11
set_option linter.unusedVariables false
set_option linter.unusedSimpArgs false
section
set_option maxRecDepth 100000
namespace Go.Proofs.YtlogdohlcdhepaaDoor.base
open Go.Sh gen
def FwX (n:Nat)(pd:Nat→List Int)(P I:List Int)(x:Nat):Prop:=∀ a < n,(a:Int)∈pd x→P.getD a 0 < P.getD x 0→Anc I a (I.getD x 0).toNat
def UpX (n:Nat)(pd:Nat→List Int)(P I:List Int)(x:Nat):Prop:=∀ z < n,(∀ a < n,(a:Int)∈pd x→0≤I.getD a 0→Anc I a z)→P.getD z 0≤P.getD (I.getD x 0).toNat 0
structure J1 (n:Nat)(pd:Nat→List Int)(P:List Int)(j:Nat)(I:List Int):Prop where
 d:DJ n P I
 p:∀ x < n,0≤I.getD x 0↔P.getD x 0≤j
 f:∀ x < n,x≠0→P.getD x 0≤j→FwX n pd P I x
 u:∀ x < n,x≠0→P.getD x 0≤j→UpX n pd P I x
structure J2 (n:Nat)(pd:Nat→List Int)(P:List Int)(j:Nat)(Is I:List Int):Prop where
 ds:DJ n P Is
 d:DJ n P I
 ps:∀ x < n,0≤Is.getD x 0
 p:∀ x < n,0≤I.getD x 0
 fs:∀ x < n,x≠0→FwX n pd P Is x
 u:∀ x < n,x≠0→UpX n pd P I x
 f:∀ x < n,x≠0→P.getD x 0≤j→FwX n pd P I x
 q:∀ y < n,P.getD y 0≤j→∀ x z,Anc Is y x→Anc I y z→P.getD z 0≤P.getD x 0→Anc I x z
 w:∀ y < n,(j:Int) < P.getD y 0→I.getD y 0=Is.getD y 0
theorem Zho {n:Nat}{P I:List Int}(h:DJ n P I){b:Nat}(hb:b < n)(d:Int){x y:Nat}(hx:x < n)(h0:0≤I.getD x 0)(hp:P.getD x 0 < P.getD b 0):Anc (I.set b d) x y↔Anc I x y:=by
 have hl:b < I.length:=by rw [h.len];exact hb
 constructor
 ·intro ha
  revert hx h0 hp
  induction ha with
  | refl x=>exact fun _ _ _=>.refl x
  | @up x y _ ih =>
   intro hx h0 hp
   have hne:b≠x:=fun e=>by rw [e] at hp;omega
   rw [Zbo _ _ _ _ hl,if_neg hne] at ih
   have hr:=h.upOk x hx h0
   have h2:=(h.anc (.up (.refl _)) hx h0:_∧_∧P.getD (I.getD x 0).toNat 0≤P.getD x 0).2.2
   exact .up (ih (by omega) hr.2 (by omega))
 ·intro ha
  revert hx h0 hp
  induction ha with
  | refl x=>exact fun _ _ _=>.refl x
  | @up x y _ ih =>
   intro hx h0 hp
   have hne:b≠x:=fun e=>by rw [e] at hp;omega
   have hr:=h.upOk x hx h0
   have h2:=(h.anc (.up (.refl _)) hx h0:_∧_∧P.getD (I.getD x 0).toNat 0≤P.getD x 0).2.2
   refine .up ?_
   rw [Zbo _ _ _ _ hl,if_neg hne]
   exact ih (by omega) hr.2 (by omega)
theorem Z07 {n:Nat}{P I:List Int}(h:DJ n P I){b d:Nat}(hb:b < n)(hb0:b≠0)(hd:d < n)(hd0:0≤I.getD d 0)(hp:P.getD d 0 < P.getD b 0):DJ n P (I.set b (d:Int)):=by
 have hl:b < I.length:=by rw [h.len];exact hb
 refine⟨by simpa using h.len,?_,fun x hx=>?_,fun x hx hx0 hi=>?_⟩
 ·rw [Zbo _ _ _ _ hl,if_neg hb0];exact h.z
 ·rw [Zbo _ _ _ _ hl]
  split
  ·omega
  ·exact h.rg x hx
 ·have hset:∀ x,(I.set b (d:Int)).getD x 0=if b=x then (d:Int) else I.getD x 0:=fun x=>Zbo _ _ _ _ hl
  rw [hset x] at hi ⊢
  by_cases e:b=x
  ·rw [if_pos e,Int.toNat_natCast]
   refine⟨?_,by rw [← e];exact hp⟩
   rw [hset]
   split
   ·omega
   ·exact hd0
  ·rw [if_neg e] at hi ⊢
   refine⟨?_,(h.up x hx hx0 hi).2⟩
   rw [hset]
   split
   ·omega
   ·exact (h.up x hx hx0 hi).1
theorem Zkl {u:UnT.D}{P T I:List Int}(R:Rpo (nb u) (fun b=>(Zaz u).getD b []) P T)(h:DJ (nb u) P I){b:Nat}(hb:b < nb u)(hb0:b≠0)(hfw:∀ a < nb u,(a:Int)∈(Zaz u).getD b []→P.getD a 0 < P.getD b 0→0≤I.getD a 0) :
  ∃ d:Nat,Zha u P I b=(d:Int)∧d < nb u∧0≤I.getD d 0∧P.getD d 0 < P.getD b 0∧(∀ a < nb u,(a:Int)∈(Zaz u).getD b []→0≤I.getD a 0→Anc I a d)∧
   ∀ z,(∀ a < nb u,(a:Int)∈(Zaz u).getD b []→0≤I.getD a 0→Anc I a z)→Anc I d z:=by
 have hrow:=R.pr b hb
 obtain⟨g1,g2,g3,g4⟩:=Zzv R h ((Zaz u).getD b []) (-1) hrow (by omega) (by have:=R.pos;omega) (fun h=>by omega)
 have hD:Zha u P I b=((Zaz u).getD b []).foldl (Zor P I) (-1):=rfl
 rw [← hD] at g1 g2 g3 g4
 obtain⟨a,ha,ham,hap⟩:=R.fw b hb hb0
 have ha0:=hfw a ha ham hap
 have hnn:0≤Zha u P I b:=by
  apply Decidable.byContradiction
  intro hn
  have:=(g3 (by omega)).2 _ ham
  rw [Int.toNat_natCast] at this
  omega
 obtain⟨q1,q2,q3,q4⟩:=g4 hnn
 obtain⟨d,hd⟩:∃ d:Nat,Zha u P I b=(d:Int):=⟨(Zha u P I b).toNat,by omega⟩
 rw [hd,Int.toNat_natCast] at q1 q3 q4
 rw [hd] at g2
 have hall:∀ a < nb u,(a:Int)∈(Zaz u).getD b []→0≤I.getD a 0→Anc I a d:=fun a _ hm h0=>by have:=q3 _ hm (by rw [Int.toNat_natCast];exact h0);rwa [Int.toNat_natCast] at this
 have h3:=(h.anc (hall a ha ham ha0) ha ha0).2.2
 refine⟨d,hd,by omega,q1,by omega,hall,fun z hz=>q4 z (fun h=>by omega) fun x hx h0=>?_⟩
 have hxr:=hrow x hx
 obtain⟨a',rfl⟩:∃ a':Nat,x=(a':Int):=⟨x.toNat,by omega⟩
 rw [Int.toNat_natCast] at h0 ⊢
 exact hz a' (by omega) hx h0
theorem Z7r {u:UnT.D}{P T I:List Int}(R:Rpo (nb u) (fun b=>(Zaz u).getD b []) P T){j:Nat}(h:J1 (nb u) (fun b=>(Zaz u).getD b []) P j I){b:Nat}(hb:b < nb u)(hb0:b≠0)(hpb:P.getD b 0=((j+1:Nat):Int)) :
  J1 (nb u) (fun b=>(Zaz u).getD b []) P (j+1) (I.set b (Zha u P I b))∧I.getD b 0 < 0∧0≤Zha u P I b∧Zha u P I b < nb u:=by
 have hl:b < I.length:=by rw [h.d.len];exact hb
 have hIb:I.getD b 0 < 0:=by have:=(h.p b hb).1;omega
 obtain⟨d,hd,d1,d2,d3,d4,d5⟩:=Zkl R h.d hb hb0 (fun a ha _ hp=>(h.p a ha).2 (by omega))
 rw [hd]
 have hDJ:=Z07 h.d hb hb0 d1 d2 d3
 have hP:∀ x < nb u,P.getD x 0≤((j+1:Nat):Int)→x≠b→P.getD x 0≤j:=fun x hx h1 h2=>by
  have:P.getD x 0≠P.getD b 0:=fun e=>h2 (R.inj hx hb e)
  omega
 have hset:∀ x,(I.set b (d:Int)).getD x 0=if b=x then (d:Int) else I.getD x 0:=fun x=>Zbo _ _ _ _ hl
 refine⟨⟨hDJ,fun x hx=>?_,fun x hx hx0 hpx=>?_,fun x hx hx0 hpx=>?_⟩,hIb,by omega,by omega⟩
 ·rw [hset]
  split
  ·rename_i e;rw [← e,hpb];constructor <;> intro _ <;> omega
  ·rename_i e
   rw [h.p x hx]
   exact⟨fun h1=>by omega,fun h1=>hP x hx h1 (Ne.symm e)⟩
 ·intro a ha ham hap
  rw [hset]
  by_cases e:b=x
  ·subst e
   rw [if_pos rfl,Int.toNat_natCast]
   have ha0:=(h.p a ha).2 (by omega)
   exact (Zho h.d hb _ ha ha0 hap).2 (d4 a ha ham ha0)
  ·rw [if_neg e]
   have hpx':=hP x hx hpx (Ne.symm e)
   have ha0:=(h.p a ha).2 (by omega)
   exact (Zho h.d hb _ ha ha0 (by omega)).2 (h.f x hx hx0 hpx' a ha ham hap)
 ·intro z hz hall
  rw [hset]
  have key:∀ a < nb u,0≤I.getD a 0→Anc (I.set b (d:Int)) a z→Anc I a z:=fun a ha ha0 hA=>(Zho h.d hb _ ha ha0 (by have:=(h.p a ha).1 ha0;omega)).1 hA
  have hp0:∀ a < nb u,0≤I.getD a 0→0≤(I.set b (d:Int)).getD a 0:=fun a ha ha0=>by
   rw [hset];split
   ·omega
   ·exact ha0
  by_cases e:b=x
  ·subst e
   rw [if_pos rfl,Int.toNat_natCast]
   have:=d5 z fun a ha ham ha0=>key a ha ha0 (hall a ha ham (hp0 a ha ha0))
   exact (h.d.anc this d1 d2).2.2
  ·rw [if_neg e]
   exact h.u x hx hx0 (hP x hx hpx (Ne.symm e)) z hz fun a ha ham ha0=>key a ha ha0 (hall a ha ham (hp0 a ha ha0))
theorem Z52 {u:UnT.D}{P T Is I:List Int}(R:Rpo (nb u) (fun b=>(Zaz u).getD b []) P T){j:Nat}(h:J2 (nb u) (fun b=>(Zaz u).getD b []) P j Is I){b:Nat}(hb:b < nb u)(hb0:b≠0)(hpb:P.getD b 0=((j+1:Nat):Int)) :
  J2 (nb u) (fun b=>(Zaz u).getD b []) P (j+1) Is (I.set b (Zha u P I b))∧0≤Zha u P I b∧Zha u P I b < nb u∧P.getD (Zha u P I b).toNat 0≤P.getD (I.getD b 0).toNat 0:=by
 have hl:b < I.length:=by rw [h.d.len];exact hb
 obtain⟨d,hd,d1,d2,d3,d4,d5⟩:=Zkl R h.d hb hb0 (fun a ha _ _=>h.p a ha)
 rw [hd,Int.toNat_natCast]
 have hDJ:=Z07 h.d hb hb0 d1 d2 d3
 have hset:∀ x,(I.set b (d:Int)).getD x 0=if b=x then (d:Int) else I.getD x 0:=fun x=>Zbo _ _ _ _ hl
 have hP:∀ x < nb u,P.getD x 0≤((j+1:Nat):Int)→x≠b→P.getD x 0≤j:=fun x hx h1 h2=>by
  have:P.getD x 0≠P.getD b 0:=fun e=>h2 (R.inj hx hb e)
  omega
 obtain⟨a,ha,ham,hap⟩:=R.fw b hb hb0
 have haj:P.getD a 0≤j:=by omega
 have e0:I.getD b 0=Is.getD b 0:=h.w b hb (by omega)
 have hFs:=h.fs b hb hb0 a ha ham hap
 have hIsb:=h.ds.upOk b hb (h.ps b hb)
 obtain⟨d0,hd0⟩:∃ d0:Nat,Is.getD b 0=(d0:Int):=⟨(Is.getD b 0).toNat,by have:=h.ps b hb;omega⟩
 rw [hd0,Int.toNat_natCast] at hFs
 rw [hd0] at e0 hIsb
 have hd0n:d0 < nb u:=by omega
 have hU:P.getD d 0≤P.getD d0 0:=by
  have:=h.u b hb hb0 d d1 (fun a ha ham ha0=>d4 a ha ham ha0)
  rwa [e0,Int.toNat_natCast] at this
 have hup:Anc I d0 d:=h.q a ha haj d0 d hFs (d4 a ha ham (h.p a ha)) hU
 have shrink:∀ x y,Anc (I.set b (d:Int)) x y→Anc I x y:=by
  intro x y hxy
  induction hxy with
  | refl x=>exact .refl x
  | @up x y _ ih =>
   rw [hset] at ih
   by_cases e:b=x
   ·subst e
    rw [if_pos rfl,Int.toNat_natCast] at ih
    refine .up ?_
    rw [e0,Int.toNat_natCast]
    exact hup.trans ih
   ·rw [if_neg e] at ih
    exact .up ih
 have hd0b:P.getD d0 0 < P.getD b 0:=by have:=(h.d.up b hb hb0 (h.p b hb)).2;rwa [e0,Int.toNat_natCast] at this
 refine⟨⟨h.ds,hDJ,h.ps,fun x hx=>?_,h.fs,fun x hx hx0=>?_,fun x hx hx0 hpx=>?_,fun y hy hpy x z h1 h2 h3=>?_,fun y hy hpy=>?_⟩,by omega,by omega,by rw [e0,Int.toNat_natCast];exact hU⟩
 ·rw [hset]
  split
  ·omega
  ·exact h.p x hx
 ·intro z hz hall
  rw [hset]
  have hall2:∀ a < nb u,(a:Int)∈(Zaz u).getD x []→0≤I.getD a 0→Anc I a z:=fun a ha ham ha0=>shrink a z (hall a ha ham (by
   rw [hset];split
   ·omega
   ·exact ha0))
  by_cases e:b=x
  ·subst e
   rw [if_pos rfl,Int.toNat_natCast]
   exact (h.d.anc (d5 z hall2) d1 d2).2.2
  ·rw [if_neg e]
   exact h.u x hx hx0 z hz hall2
 ·intro a' ha' ham' hap'
  rw [hset]
  by_cases e:b=x
  ·subst e
   rw [if_pos rfl,Int.toNat_natCast]
   exact (Zho h.d hb _ ha' (h.p a' ha') hap').2 (d4 a' ha' ham' (h.p a' ha'))
  ·rw [if_neg e]
   have hpx':=hP x hx hpx (Ne.symm e)
   exact (Zho h.d hb _ ha' (h.p a' ha') (by omega)).2 (h.f x hx hx0 hpx' a' ha' ham' hap')
 ·by_cases e:y=b
  ·subst e
   cases h1 with
   | refl=>exact h2
   | up h1 =>
    rw [hd0,Int.toNat_natCast] at h1
    have hx:=h.ds.anc h1 hd0n (h.ps d0 hd0n)
    have hd0x:=hx.2.2
    have hzb:z≠y:=fun e=>by rw [e] at h3;omega
    cases h2 with
    | refl=>exact absurd rfl hzb
    | up h2 =>
     rw [hset,if_pos rfl,Int.toNat_natCast] at h2
     have h5:=shrink d z h2
     have h6:=h.q a ha haj x z (hFs.trans h1) ((d4 a ha ham (h.p a ha)).trans h5) h3
     exact (Zho h.d hb _ hx.1 (h.p x hx.1) (by omega)).2 h6
  ·have hpy':=hP y hy hpy e
   have h6:=h.q y hy hpy' x z h1 (shrink y z h2) h3
   have hx:=h.ds.anc h1 hy (h.ps y hy)
   exact (Zho h.d hb _ hx.1 (h.p x hx.1) (by omega)).2 h6
 ·rw [hset,if_neg (fun e=>by rw [← e,hpb] at hpy;omega)]
  exact h.w y hy (by omega)
end Go.Proofs.YtlogdohlcdhepaaDoor.base
end
section
set_option maxRecDepth 100000
namespace Go.Proofs.YtlogdohlcdhepaaDoor.base
open Go.Sh gen
def JJ (u:UnT.D)(P:List Int)(j:Nat)(I:List Int):Prop:=J1 (nb u) (fun b=>(Zaz u).getD b []) P j I∨∃ Is,J2 (nb u) (fun b=>(Zaz u).getD b []) P j Is I
theorem JJ.d {u:UnT.D}{P I:List Int}{j:Nat}(h:JJ u P j I):DJ (nb u) P I:=by
 rcases h with h | ⟨_,h⟩
 ·exact h.d
 ·exact h.d
theorem Ztf {u:UnT.D}{P T I:List Int}(R:Rpo (nb u) (fun b=>(Zaz u).getD b []) P T){j:Nat}(h:JJ u P j I)(hj:j < T.length) :
  ∃ b:Nat,T.getD j 0=(b:Int)∧b < nb u∧b≠0∧JJ u P (j+1) (I.set b (Zha u P I b))∧0≤Zha u P I b∧Zha u P I b < nb u∧(0≤I.getD b 0→P.getD (Zha u P I b).toNat 0≤P.getD (I.getD b 0).toNat 0):=by
 obtain⟨b,h1,h2,h3,h4⟩:=R.t j hj
 refine⟨b,h1,h2,h3,?_⟩
 rcases h with h | ⟨Is,h⟩
 ·obtain⟨g1,g2,g3,g4⟩:=Z7r R h h2 h3 h4
  exact⟨Or.inl g1,g3,g4,fun h=>by omega⟩
 ·obtain⟨g1,g2,g3,g4⟩:=Z52 R h h2 h3 h4
  exact⟨Or.inr ⟨Is,g1⟩,g2,g3,fun _=>g4⟩
theorem Zk2 {u:UnT.D}{P T I:List Int}(R:Rpo (nb u) (fun b=>(Zaz u).getD b []) P T)(h:JJ u P T.length I):J2 (nb u) (fun b=>(Zaz u).getD b []) P 0 I I:=by
 have hP:∀ x < nb u,P.getD x 0≤(T.length:Int):=fun x hx=>by have:=(R.pn hx).2.1;have:=R.len;omega
 have mk:DJ (nb u) P I→(∀ x < nb u,0≤I.getD x 0)→(∀ x < nb u,x≠0→FwX (nb u) (fun b=>(Zaz u).getD b []) P I x)→(∀ x < nb u,x≠0→UpX (nb u) (fun b=>(Zaz u).getD b []) P I x)→J2 (nb u) (fun b=>(Zaz u).getD b []) P 0 I I:=by
  intro hd hp hf hu
  refine⟨hd,hd,hp,hp,hf,hu,fun x hx h0 _=>hf x hx h0,fun y hy hpy x z h1 h2 _=>?_,fun y hy _=>rfl⟩
  have:y=0:=by
   apply Decidable.byContradiction
   intro h0
   have:=(R.pn hy).2.2 h0
   omega
  subst this
  rw [hd.anc0 h1,hd.anc0 h2]
  exact .refl 0
 rcases h with h | ⟨Is,h⟩
 ·exact mk h.d (fun x hx=>(h.p x hx).2 (hP x hx)) (fun x hx h0=>h.f x hx h0 (hP x hx)) (fun x hx h0=>h.u x hx h0 (hP x hx))
 ·exact mk h.d h.p (fun x hx h0=>h.f x hx h0 (hP x hx)) h.u
theorem Zx5 {n:Nat}(hn:0 < n){x:Nat}(hx:x < n):((List.replicate n (-1:Int)).set 0 0).getD x 0=if x=0 then 0 else -1:=by
 rw [Zbo _ _ _ _ (by simpa using hn)]
 by_cases e:x=0
 ·rw [if_pos e.symm,if_pos e]
 ·rw [if_neg (Ne.symm e),if_neg e,List.getD_eq_getElem?_getD,List.getElem?_replicate,if_pos hx];rfl
theorem Yav {u:UnT.D}{P T:List Int}(R:Rpo (nb u) (fun b=>(Zaz u).getD b []) P T):JJ u P 0 ((List.replicate (nb u) (-1)).set 0 0):=by
 have hn:=R.pos
 refine Or.inl ⟨⟨by simp,?_,fun x hx=>?_,fun x hx h0 h=>?_⟩,fun x hx=>?_,fun x hx h0 h=>?_,fun x hx h0 h=>?_⟩
 ·rw [Zx5 hn hn,if_pos rfl]
 ·rw [Zx5 hn hx];split <;> omega
 ·rw [Zx5 hn hx,if_neg h0] at h;omega
 ·rw [Zx5 hn hx]
  by_cases e:x=0
  ·rw [if_pos e,e,R.p0];simp
  ·rw [if_neg e]
   have:=(R.pn hx).2.2 e
   constructor <;> intro _ <;> omega
 ·have:=(R.pn hx).2.2 h0;omega
 ·have:=(R.pn hx).2.2 h0;omega
theorem Z68 {u:UnT.D}{P T:List Int}(R:Rpo (nb u) (fun b=>(Zaz u).getD b []) P T):Ybw u P T (JJ u P):=by
 refine⟨fun j I h=>h.d.len,fun j I h=>h.d.upOk,fun j I h a b ha hb ha0 hb0=>?_,fun j I h hj=>?_,fun I h=>Or.inr ⟨I,Zk2 R h⟩⟩
 ·obtain⟨c,_,⟨D,hD,hm⟩,_⟩:=Z0v R h.d ha hb ha0 hb0
  exact⟨D,c,hD,hm⟩
 ·obtain⟨b,h1,_,_,h2,_⟩:=Ztf R h hj
  rw [h1,Int.toNat_natCast]
  exact h2
def wI (n:Nat)(P:List Int)(v:Int):Nat:=if v < 0 then n else (P.getD v.toNat 0).toNat
def mI (n:Nat)(P I:List Int):Nat:=(I.map (wI n P)).sum
theorem Z5o (l:List Nat){k:Nat}(hk:k < l.length)(x:Nat):(l.set k x).sum+l.getD k 0=l.sum+x:=by
 induction l generalizing k with
 | nil=>simp at hk
 | cons a r ih =>
  cases k with
  | zero=>simp;omega
  | succ k =>
   have:=ih (k:=k) (by simpa using hk)
   simp at this ⊢
   omega
theorem Z86 {n:Nat}{P I:List Int}{b:Nat}(hb:b < I.length)(v:Int):mI n P (I.set b v)+wI n P (I.getD b 0)=mI n P I+wI n P v:=by
 unfold mI
 rw [List.map_set]
 have:=Z5o (I.map (wI n P)) (k:=b) (by simpa using hb) (wI n P v)
 have e:(I.map (wI n P)).getD b 0=wI n P (I.getD b 0):=by
  rw [List.getD_eq_getElem?_getD,List.getElem?_map,List.getElem?_eq_getElem hb,List.getD_eq_getElem?_getD,List.getElem?_eq_getElem hb];rfl
 rw [e] at this
 exact this
theorem Zvi {l:List Int}{b:Nat}(hb:b < l.length){v:Int}(h:l.getD b 0=v):l.set b v=l:=by
 apply Ziw (by simp)
 intro k hk
 rw [Zbo _ _ _ _ hb]
 split
 ·rename_i e;rw [← e,h]
 ·rfl
theorem Zqe {u:UnT.D}{P T:List Int}(R:Rpo (nb u) (fun b=>(Zaz u).getD b []) P T):∀ (k j:Nat) (I:List Int) (ch:Bool),T.length - j=k→j≤T.length→JJ u P j I→
  JJ u P T.length ((T.drop j).foldl (Zo3 u P) (I,ch)).1∧mI (nb u) P ((T.drop j).foldl (Zo3 u P) (I,ch)).1≤mI (nb u) P I∧
  (((T.drop j).foldl (Zo3 u P) (I,ch)).2=true→ch=true∨mI (nb u) P ((T.drop j).foldl (Zo3 u P) (I,ch)).1 < mI (nb u) P I)∧
  (((T.drop j).foldl (Zo3 u P) (I,ch)).2=false→ch=false∧((T.drop j).foldl (Zo3 u P) (I,ch)).1=I∧∀ i,j≤i→i < T.length→I.getD (T.getD i 0).toNat 0=Zha u P I (T.getD i 0).toNat):=by
 intro k
 induction k with
 | zero =>
  intro j I ch hk hj h
  have:j=T.length:=by omega
  subst this
  rw [List.drop_of_length_le (Nat.le_refl _),List.foldl_nil]
  exact⟨h,Nat.le_refl _,fun h=>Or.inl h,fun h=>⟨h,rfl,fun i h1 h2=>by omega⟩⟩
 | succ k ih =>
  intro j I ch hk hj h
  have hjt:j < T.length:=by omega
  obtain⟨b,h1,h2,h3,h4,h5,h6,h7⟩:=Ztf R h hjt
  have hbl:b < I.length:=by rw [h.d.len];exact h2
  rw [Zco hjt,List.foldl_cons,h1]
  have eB:Zo3 u P (I,ch) (b:Int)=(I.set b (Zha u P I b),ch || !decide (I.getD b 0=Zha u P I b)):=by unfold Zo3;rw [Int.toNat_natCast]
  rw [eB]
  obtain⟨g1,g2,g3,g4⟩:=ih (j+1) _ (ch || !decide (I.getD b 0=Zha u P I b)) (by omega) (by omega) h4
  have hs:=Z86 (n:=nb u) (P:=P) hbl (Zha u P I b)
  have hd0:=h5
  obtain⟨d,hd⟩:∃ d:Nat,Zha u P I b=(d:Int):=⟨(Zha u P I b).toNat,by omega⟩
  have hpd:=R.pn (show d < nb u by omega)
  have wd:wI (nb u) P (Zha u P I b)=(P.getD d 0).toNat:=by unfold wI;rw [hd,if_neg (by omega),Int.toNat_natCast]
  rw [hd,Int.toNat_natCast] at h7
  have hle:wI (nb u) P (Zha u P I b)≤wI (nb u) P (I.getD b 0)∧(I.getD b 0≠Zha u P I b→wI (nb u) P (Zha u P I b) < wI (nb u) P (I.getD b 0)):=by
   rw [wd]
   by_cases hn:I.getD b 0 < 0
   ·have:wI (nb u) P (I.getD b 0)=nb u:=by unfold wI;rw [if_pos hn]
    rw [this]
    exact⟨by omega,fun _=>by omega⟩
   ·obtain⟨e,he⟩:∃ d:Nat,I.getD b 0=(d:Int):=⟨(I.getD b 0).toNat,by omega⟩
    have hen:e < nb u:=by have:=(h.d.rg b h2).2;omega
    have hpe:=R.pn hen
    have w2:wI (nb u) P (I.getD b 0)=(P.getD e 0).toNat:=by unfold wI;rw [he,if_neg (by omega),Int.toNat_natCast]
    have h8:=h7 (by omega)
    rw [he,Int.toNat_natCast] at h8
    rw [w2,he,hd]
    refine⟨by omega,fun hne=>?_⟩
    have:P.getD d 0≠P.getD e 0:=fun e2=>hne (by rw [R.inj (by omega) hen e2])
    omega
  refine⟨g1,by omega,fun hc=>?_,fun hc=>?_⟩
  ·rcases g3 hc with h9 | h9
   ·rw [Bool.or_eq_true] at h9
    rcases h9 with h9 | h9
    ·exact Or.inl h9
    ·have:=hle.2 (by simpa using h9)
     exact Or.inr (by omega)
   ·exact Or.inr (by omega)
  ·obtain⟨c1,c2,c3⟩:=g4 hc
   rw [Bool.or_eq_false_iff] at c1
   have heq:I.getD b 0=Zha u P I b:=by simpa using c1.2
   have hss:=Zvi hbl heq
   rw [hss] at c2 c3
   refine⟨c1.1,by rw [hss];exact c2,fun i hi1 hi2=>?_⟩
   by_cases e:i=j
   ·rw [e,h1,Int.toNat_natCast];exact heq
   ·exact c3 i (by omega) hi2
theorem Z7w {u:UnT.D}{P T:List Int}(R:Rpo (nb u) (fun b=>(Zaz u).getD b []) P T):∀ (M:Nat) (I:List Int),JJ u P 0 I→mI (nb u) P I≤M→
    ∃ D I',Zgz u P T D (I,true)=some I'∧J2 (nb u) (fun b=>(Zaz u).getD b []) P 0 I' I'∧∀ b < nb u,b≠0→I'.getD b 0=Zha u P I' b:=by
  intro M
  induction M with
  | zero =>
    intro I h hM
    obtain⟨g1,g2,g3,g4⟩:=Zqe R _ 0 I false rfl (by omega) h
    rw [List.drop_zero] at g1 g2 g3 g4
    cases hc:(T.foldl (Zo3 u P) (I,false)).2 with
    | true => rcases g3 hc with h1 | h1
              · cases h1
              · omega
    | false =>
      obtain⟨_,c2,c3⟩:=g4 hc
      rw [c2] at g1
      have e:Z3h u P T (I,false)=(I,false):=Prod.ext c2 hc
      refine⟨1,I,by rw [Zgz,if_pos rfl,e];rfl,Zk2 R g1,fun b hb hb0=>?_⟩
      obtain⟨i,hi,hT⟩:=R.all b hb hb0
      have:=c3 i (by omega) hi
      rwa [hT,Int.toNat_natCast] at this
  | succ M ih =>
    intro I h hM
    obtain⟨g1,g2,g3,g4⟩:=Zqe R _ 0 I false rfl (by omega) h
    rw [List.drop_zero] at g1 g2 g3 g4
    cases hc:(T.foldl (Zo3 u P) (I,false)).2 with
    | true =>
      have h1:mI (nb u) P (T.foldl (Zo3 u P) (I,false)).1 < mI (nb u) P I:=by
        rcases g3 hc with h1 | h1
        · cases h1
        · exact h1
      obtain⟨D,I',e1,e2,e3⟩:=ih _ (Or.inr ⟨_,Zk2 R g1⟩) (by omega)
      have e:Z3h u P T (I,false)=((T.foldl (Zo3 u P) (I,false)).1,true):=Prod.ext rfl hc
      exact⟨D+1,I',by rw [Zgz,if_pos rfl,e];exact e1,e2,e3⟩
    | false =>
      obtain⟨_,c2,c3⟩:=g4 hc
      rw [c2] at g1
      have e:Z3h u P T (I,false)=(I,false):=Prod.ext c2 hc
      refine⟨1,I,by rw [Zgz,if_pos rfl,e];rfl,Zk2 R g1,fun b hb hb0=>?_⟩
      obtain⟨i,hi,hT⟩:=R.all b hb hb0
      have:=c3 i (by omega) hi
      rwa [hT,Int.toNat_natCast] at this
theorem Yaf {u:UnT.D}{P T I:List Int}(R:Rpo (nb u) (fun b=>(Zaz u).getD b []) P T)(h:DJ (nb u) P I)(hp:∀ x < nb u,0≤I.getD x 0)(a:Int):∀ (M b:Nat),b < nb u→(P.getD b 0).toNat≤M→∃ d r,d≤M+1∧Zlj (I.set 0 (-1)) a d b=some r:=by
 have hl:0 < I.length:=by rw [h.len];exact R.pos
 have hset:∀ x,(I.set 0 (-1:Int)).getD x 0=if 0=x then -1 else I.getD x 0:=fun x=>Zbo _ _ _ _ hl
 intro M
 induction M with
 | zero =>
  intro b hb hM
  by_cases e:a=(b:Int)
  ·exact⟨0,true,by omega,by rw [Zlj,if_neg (by omega),if_pos e]⟩
  ·have hb0:b=0:=by
    apply Decidable.byContradiction
    intro h0
    have:=(R.pn hb).2.2 h0
    omega
   refine⟨1,false,by omega,?_⟩
   rw [Zlj,if_neg (by omega),if_neg e,Int.toNat_natCast,hset,if_pos hb0.symm,Zlj,if_pos (by omega)]
 | succ M ih =>
  intro b hb hM
  by_cases e:a=(b:Int)
  ·exact⟨0,true,by omega,by rw [Zlj,if_neg (by omega),if_pos e]⟩
  ·by_cases hb0:b=0
   ·refine⟨1,false,by omega,?_⟩
    rw [Zlj,if_neg (by omega),if_neg e,Int.toNat_natCast,hset,if_pos hb0.symm,Zlj,if_pos (by omega)]
   ·have hu:=(h.up b hb hb0 (hp b hb)).2
    have hr:=h.upOk b hb (hp b hb)
    obtain⟨c,hc⟩:∃ c:Nat,I.getD b 0=(c:Int):=⟨(I.getD b 0).toNat,by have:=hp b hb;omega⟩
    rw [hc] at hu hr
    rw [Int.toNat_natCast] at hu hr
    have hcn:c < nb u:=by omega
    have hpc:=R.pn hcn
    obtain⟨d,r,h1,h2⟩:=ih c hcn (by omega)
    refine⟨d+1,r,by omega,?_⟩
    rw [Zlj,if_neg (by omega),if_neg e,Int.toNat_natCast,hset,if_neg (Ne.symm hb0),hc]
    exact h2
theorem Z7h {u:UnT.D}(hnx:Zvc u)(hb:0 < nb u):∃ O I,Z14 u O I∧(∃ sn,Z4i u (sn,O.reverse,[]))∧
  (O.length=nb u→∃ I',I=I'.set 0 (-1)∧Rpo (nb u) (fun b=>(Zaz u).getD b []) (Zg8 (nb u) O) (O.drop 1)∧J2 (nb u) (fun b=>(Zaz u).getD b []) (Zg8 (nb u) O) 0 I' I'∧∀ b < nb u,b≠0→I'.getD b 0=Zha u (Zg8 (nb u) O) I' b):=by
 obtain⟨D,O',sn,hO,hinv⟩:=Z6s hnx _ (Zqs u) (Z39 hb) (Nat.le_refl _)
 by_cases hl:O'.reverse.length=nb u
 ·have hl':O'.length=nb u:=by simpa using hl
  obtain⟨h1,R⟩:=Z88 hnx hb hinv hl'
  obtain⟨D2,I',h2,h3,h4⟩:=Z7w R _ _ (Yav R) (Nat.le_refl _)
  have hset:∀ x,(I'.set 0 (-1:Int)).getD x 0=if 0=x then -1 else I'.getD x 0:=fun x=>Zbo _ _ _ _ (by rw [h3.d.len];exact hb)
  refine⟨O'.reverse,I'.set 0 (-1),⟨⟨D,O',hO,rfl⟩,fun _=>h1,fun _=>⟨JJ u (Zg8 (nb u) O'.reverse),D2,I',Z68 R,Yav R,h2,rfl⟩,fun _=>⟨by simpa using h3.d.len,fun x hx=>?_⟩,fun _ a b hb'=>?_⟩,⟨sn,by rw [List.reverse_reverse];exact hinv⟩,fun _=>⟨I',rfl,R,h3,h4⟩⟩
  ·rw [hset]
   split
   ·omega
   ·exact (h3.d.rg x hx).2
  ·have hpb:=R.pn hb'
   obtain⟨d,r,g1,g2⟩:=Yaf R h3.d h3.p a _ b hb' (Nat.le_refl _)
   refine⟨d,by omega,?_⟩
   rw [Z9 g2 (show d < nb u+2 by omega)]
   exact g2
 ·exact⟨O'.reverse,[],⟨⟨D,O',hO,rfl⟩,fun h=>absurd h hl,fun h=>absurd h hl,fun h=>absurd h hl,fun h=>absurd h hl⟩,⟨sn,by rw [List.reverse_reverse];exact hinv⟩,fun h=>absurd h hl⟩
end Go.Proofs.YtlogdohlcdhepaaDoor.base
end
