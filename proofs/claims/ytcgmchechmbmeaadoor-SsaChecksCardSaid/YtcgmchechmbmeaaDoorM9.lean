/- This text proves, in Zrh Lean, how two blocks of the dominators' tree meet. No condition. -/
import Derived.Test.YtcgmchechmbmeaaDoorM8
import Derived.Test.YtcgmchechmbmeaaDoorM2
set_option linter.unusedVariables false
set_option linter.unusedSimpArgs false
section
set_option maxRecDepth 100000
namespace Go.Proofs.YtcgmchechmbmeaaDoor.base
open Go.Sh gen
inductive Anc (I:List Int):Nat→Nat→Prop
 | refl (x:Nat):Anc I x x
 | up {x y:Nat}:Anc I (I.getD x 0).toNat y→Anc I x y
theorem Anc.trans {I:List Int}{x y z:Nat}(h:Anc I x y)(k:Anc I y z):Anc I x z:=by
 induction h with
 | refl=>exact k
 | up _ ih=>exact .up (ih k)
theorem Rpo.pn {n:Nat}{pd:Nat→List Int}{P T:List Int}(R:Rpo n pd P T){x:Nat}(hx:x < n):0≤P.getD x 0∧P.getD x 0 < n∧(x≠0→0 < P.getD x 0):=by
 by_cases e:x=0
 ·rw [e,R.p0]
  have:=R.pos
  exact⟨by omega,by omega,fun h=>absurd rfl h⟩
 ·obtain⟨j,hj,hT⟩:=R.all x hx e
  obtain⟨b,h1,h2,h3,h4⟩:=R.t j hj
  have:b=x:=by rw [hT] at h1;omega
  rw [this] at h4
  have:=R.len
  rw [h4]
  exact⟨by omega,by omega,fun _=>by omega⟩
theorem Rpo.inj {n:Nat}{pd:Nat→List Int}{P T:List Int}(R:Rpo n pd P T){x y:Nat}(hx:x < n)(hy:y < n)(h:P.getD x 0=P.getD y 0):x=y:=by
 by_cases ex:x=0
 ·by_cases ey:y=0
  ·rw [ex,ey]
  ·have:=(R.pn hy).2.2 ey;rw [ex,R.p0] at h;omega
 ·by_cases ey:y=0
  ·have:=(R.pn hx).2.2 ex;rw [ey,R.p0] at h;omega
  ·obtain⟨j,hj,h1⟩:=R.all x hx ex
   obtain⟨b,h2,_,_,h3⟩:=R.t j hj
   obtain⟨j',hj',h1'⟩:=R.all y hy ey
   obtain⟨b',h2',_,_,h3'⟩:=R.t j' hj'
   have e1:b=x:=by rw [h1] at h2;omega
   have e2:b'=y:=by rw [h1'] at h2';omega
   rw [e1] at h3
   rw [e2] at h3'
   have:j=j':=by omega
   rw [this,h1'] at h1
   omega
structure DJ (n:Nat)(P I:List Int):Prop where
 len:I.length=n
 z:I.getD 0 0=0
 rg:∀ x < n,-1≤I.getD x 0∧I.getD x 0 < n
 up:∀ x < n,x≠0→0≤I.getD x 0→0≤I.getD (I.getD x 0).toNat 0∧P.getD (I.getD x 0).toNat 0 < P.getD x 0
theorem DJ.upOk {n:Nat}{P I:List Int}(h:DJ n P I):Z82 n I:=by
 intro x hx h0
 refine⟨(h.rg x hx).2,?_⟩
 by_cases e:x=0
 ·rw [e,h.z];simp only [Int.toNat_zero];rw [h.z];omega
 ·exact (h.up x hx e h0).1
theorem DJ.anc {n:Nat}{P I:List Int}(h:DJ n P I){x y:Nat}(ha:Anc I x y):x < n→0≤I.getD x 0→y < n∧0≤I.getD y 0∧P.getD y 0≤P.getD x 0:=by
 induction ha with
 | refl x=>exact fun hx h0=>⟨hx,h0,Int.le_refl _⟩
 | @up x y _ ih =>
  intro hx h0
  have hr:=h.upOk x hx h0
  have:=ih (by omega) hr.2
  refine⟨this.1,this.2.1,?_⟩
  by_cases e:x=0
  ·rw [e,h.z] at this;rw [e];exact this.2.2
  ·have:=(h.up x hx e h0).2;omega
theorem DJ.anc0 {n:Nat}{P I:List Int}(h:DJ n P I){w:Nat}(hw:Anc I 0 w):w=0:=by
 have:∀ a b,Anc I a b→a=0→b=0:=by
  intro a b hab
  induction hab with
  | refl=>exact id
  | up _ ih2=>intro e;subst e;rw [h.z] at ih2;exact ih2 rfl
 exact this 0 w hw rfl
theorem Z41 {n:Nat}{pd:Nat→List Int}{P T I:List Int}(R:Rpo n pd P T)(h:DJ n P I):∀ (M a b:Nat),a < n→b < n→0≤I.getD a 0→0≤I.getD b 0→(P.getD a 0+P.getD b 0).toNat≤M→
  ∃ D c,D≤M∧Zdt P I D a b=some c∧Anc I a c∧Anc I b c∧∀ z,Anc I a z→Anc I b z→Anc I c z:=by
 intro M
 induction M with
 | zero =>
  intro a b ha hb ha0 hb0 hM
  have h1:=R.pn ha
  have h2:=R.pn hb
  have:a=b:=R.inj ha hb (by omega)
  subst this
  exact⟨0,a,Nat.le_refl _,by rw [Zdt,if_pos rfl],.refl _,.refl _,fun z hz _=>hz⟩
 | succ M ih =>
  intro a b ha hb ha0 hb0 hM
  have h1:=R.pn ha
  have h2:=R.pn hb
  by_cases e:a=b
  ·subst e
   exact⟨0,a,by omega,by rw [Zdt,if_pos rfl],.refl _,.refl _,fun z hz _=>hz⟩
  by_cases hp:P.getD b 0 < P.getD a 0
  ·have ane:a≠0:=fun e0=>by rw [e0,R.p0] at hp;omega
   have hu:=h.upOk a ha ha0
   have hu2:=(h.up a ha ane ha0).2
   have ha':(I.getD a 0).toNat < n:=by omega
   have hpa:=R.pn ha'
   obtain⟨D,c,g1,g2,g3,g4,g5⟩:=ih (I.getD a 0).toNat b ha' hb hu.2 hb0 (by omega)
   refine⟨D+1,c,by omega,by rw [Zdt,if_neg e,if_pos hp];exact g2,.up g3,g4,fun z hz1 hz2=>g5 z ?_ hz2⟩
   cases hz1 with
   | refl=>have:=(h.anc hz2 hb hb0).2.2;omega
   | up hz=>exact hz
  ·have hne:P.getD a 0≠P.getD b 0:=fun e2=>e (R.inj ha hb e2)
   have bne:b≠0:=fun e0=>by rw [e0,R.p0] at hp hne;omega
   have hu:=h.upOk b hb hb0
   have hu2:=(h.up b hb bne hb0).2
   have hb':(I.getD b 0).toNat < n:=by omega
   have hpb:=R.pn hb'
   obtain⟨D,c,g1,g2,g3,g4,g5⟩:=ih a (I.getD b 0).toNat ha hb' ha0 hu.2 (by omega)
   refine⟨D+1,c,by omega,by rw [Zdt,if_neg e,if_neg hp];exact g2,g3,.up g4,fun z hz1 hz2=>g5 z hz1 ?_⟩
   cases hz2 with
   | refl=>have:=(h.anc hz1 ha ha0).2.2;omega
   | up hz=>exact hz
theorem Zzr {n:Nat}{pd:Nat→List Int}{P T I:List Int}(R:Rpo n pd P T)(h:DJ n P I){a b:Nat}(ha:a < n)(hb:b < n)(ha0:0≤I.getD a 0)(hb0:0≤I.getD b 0) :
  ∃ c,Zl P I (2 * I.length+2) a b=c∧(∃ D,D≤2 * I.length+2∧Zdt P I D a b=some c)∧Anc I a c∧Anc I b c∧∀ z,Anc I a z→Anc I b z→Anc I c z:=by
 have h1:=R.pn ha
 have h2:=R.pn hb
 have hl:=h.len
 obtain⟨D,c,g1,g2,g3,g4,g5⟩:=Z41 R h (2 * I.length+2) a b ha hb ha0 hb0 (by omega)
 exact⟨c,Zr g2 g1,⟨D,g1,g2⟩,g3,g4,g5⟩
theorem Z0a {n:Nat}{pd:Nat→List Int}{P T I:List Int}(R:Rpo n pd P T)(h:DJ n P I):∀ (l:List Int) (dd:Int),(∀ a∈l,(0:Int)≤a∧a < n)→-1≤dd→dd < n→(0≤dd→0≤I.getD dd.toNat 0)→
  -1≤l.foldl (Zn9 P I) dd∧l.foldl (Zn9 P I) dd < n∧(l.foldl (Zn9 P I) dd < 0→dd < 0∧∀ a∈l,I.getD a.toNat 0 < 0)∧
  (0≤l.foldl (Zn9 P I) dd→0≤I.getD (l.foldl (Zn9 P I) dd).toNat 0∧(0≤dd→Anc I dd.toNat (l.foldl (Zn9 P I) dd).toNat)∧(∀ a∈l,0≤I.getD a.toNat 0→Anc I a.toNat (l.foldl (Zn9 P I) dd).toNat)∧
   ∀ z,(0≤dd→Anc I dd.toNat z)→(∀ a∈l,0≤I.getD a.toNat 0→Anc I a.toNat z)→Anc I (l.foldl (Zn9 P I) dd).toNat z):=by
 intro l
 induction l with
 | nil =>
  intro dd _ h1 h2 h3
  exact⟨h1,h2,fun h=>⟨h,fun a ha=>by simp at ha⟩,fun h0=>⟨h3 h0,fun _=>.refl _,fun a ha=>by simp at ha,fun z hz _=>hz h0⟩⟩
 | cons a r ih =>
  intro dd hl h1 h2 h3
  rw [List.foldl_cons]
  have ha:=hl a (by simp)
  have hlr:∀ x∈r,(0:Int)≤x∧x < n:=fun x hx=>hl x (by simp [hx])
  by_cases hia:I.getD a.toNat 0 < 0
  ·have e:Zn9 P I dd a=dd:=by unfold Zn9;rw [if_pos hia]
   rw [e]
   obtain⟨g1,g2,g3,g4⟩:=ih dd hlr h1 h2 h3
   refine⟨g1,g2,fun h=>⟨(g3 h).1,fun x hx=>?_⟩,fun h=>?_⟩
   ·rcases List.mem_cons.1 hx with rfl | hx
    ·exact hia
    ·exact (g3 h).2 x hx
   ·obtain⟨q1,q2,q3,q4⟩:=g4 h
    refine⟨q1,q2,fun x hx hx0=>?_,fun z hz hz2=>q4 z hz fun x hx=>hz2 x (by simp [hx])⟩
    rcases List.mem_cons.1 hx with rfl | hx
    ·omega
    ·exact q3 x hx hx0
  ·by_cases hdd:dd < 0
   ·have e:Zn9 P I dd a=a:=by unfold Zn9;rw [if_neg hia,if_pos hdd]
    rw [e]
    obtain⟨g1,g2,g3,g4⟩:=ih a hlr (by omega) ha.2 (fun _=>by omega)
    refine⟨g1,g2,fun h=>?_,fun h=>?_⟩
    ·have:=(g3 h).1;omega
    ·obtain⟨q1,q2,q3,q4⟩:=g4 h
     refine⟨q1,fun h=>by omega,fun x hx hx0=>?_,fun z hz hz2=>q4 z (fun _=>hz2 a (by simp) (by omega)) fun x hx=>hz2 x (by simp [hx])⟩
     rcases List.mem_cons.1 hx with rfl | hx
     ·exact q2 ha.1
     ·exact q3 x hx hx0
   ·obtain⟨c,hc,⟨D,hD,hm⟩,c1,c2,c3⟩:=Zzr R h (a:=dd.toNat) (b:=a.toNat) (by omega) (by omega) (h3 (by omega)) (by omega)
    have e:Zn9 P I dd a=(c:Int):=by unfold Zn9;rw [if_neg hia,if_neg hdd,hc]
    rw [e]
    have hcu:=h.anc c1 (by omega) (h3 (by omega))
    obtain⟨g1,g2,g3,g4⟩:=ih (c:Int) hlr (by omega) (by omega) (fun _=>by rw [Int.toNat_natCast];exact hcu.2.1)
    refine⟨g1,g2,fun h=>?_,fun h=>?_⟩
    ·have:=(g3 h).1;omega
    ·obtain⟨q1,q2,q3,q4⟩:=g4 h
     rw [Int.toNat_natCast] at q2 q4
     refine⟨q1,fun _=>c1.trans (q2 (by omega)),fun x hx hx0=>?_,fun z hz hz2=>q4 z (fun _=>c3 z (hz (by omega)) (hz2 a (by simp) (by omega))) fun x hx=>hz2 x (by simp [hx])⟩
     rcases List.mem_cons.1 hx with rfl | hx
     ·exact c2.trans (q2 (by omega))
     ·exact q3 x hx hx0
end Go.Proofs.YtcgmchechmbmeaaDoor.base
end
section
set_option maxRecDepth 100000
namespace Go.Proofs.YtcgmchechmbmeaaDoor.base
open Go.Sh gen
def FwX (n:Nat)(pd:Nat→List Int)(P I:List Int)(x:Nat):Prop:=∀ a < n,(a:Int)∈pd x→P.getD a 0 < P.getD x 0→Anc I a (I.getD x 0).toNat
def UpX (n:Nat)(pd:Nat→List Int)(P I:List Int)(x:Nat):Prop:=∀ z < n,(∀ a < n,(a:Int)∈pd x→0≤I.getD a 0→Anc I a z)→P.getD z 0≤P.getD (I.getD x 0).toNat 0
structure J1 (n:Nat)(pd:Nat→List Int)(P:List Int)(j:Nat)(I:List Int):Prop where
 d:DJ n P I
 p:∀ x < n,0≤I.getD x 0↔P.getD x 0≤j
 f:∀ x < n,x≠0→P.getD x 0≤j→FwX n pd P I x
 u:∀ x < n,x≠0→P.getD x 0≤j→UpX n pd P I x
structure J2 (n:Nat)(pd:Nat→List Int)(P:List Int)(j:Nat)(Is I:List Int):Prop where
 ds:DJ n P Is
 d:DJ n P I
 ps:∀ x < n,0≤Is.getD x 0
 p:∀ x < n,0≤I.getD x 0
 fs:∀ x < n,x≠0→FwX n pd P Is x
 u:∀ x < n,x≠0→UpX n pd P I x
 f:∀ x < n,x≠0→P.getD x 0≤j→FwX n pd P I x
 q:∀ y < n,P.getD y 0≤j→∀ x z,Anc Is y x→Anc I y z→P.getD z 0≤P.getD x 0→Anc I x z
 w:∀ y < n,(j:Int) < P.getD y 0→I.getD y 0=Is.getD y 0
theorem Zhc {n:Nat}{P I:List Int}(h:DJ n P I){b:Nat}(hb:b < n)(d:Int){x y:Nat}(hx:x < n)(h0:0≤I.getD x 0)(hp:P.getD x 0 < P.getD b 0):Anc (I.set b d) x y↔Anc I x y:=by
 have hl:b < I.length:=by rw [h.len];exact hb
 constructor
 ·intro ha
  revert hx h0 hp
  induction ha with
  | refl x=>exact fun _ _ _=>.refl x
  | @up x y _ ih =>
   intro hx h0 hp
   have hne:b≠x:=fun e=>by rw [e] at hp;omega
   rw [Zbg _ _ _ _ hl,if_neg hne] at ih
   have hr:=h.upOk x hx h0
   have h2:=(h.anc (.up (.refl _)) hx h0:_∧_∧P.getD (I.getD x 0).toNat 0≤P.getD x 0).2.2
   exact .up (ih (by omega) hr.2 (by omega))
 ·intro ha
  revert hx h0 hp
  induction ha with
  | refl x=>exact fun _ _ _=>.refl x
  | @up x y _ ih =>
   intro hx h0 hp
   have hne:b≠x:=fun e=>by rw [e] at hp;omega
   have hr:=h.upOk x hx h0
   have h2:=(h.anc (.up (.refl _)) hx h0:_∧_∧P.getD (I.getD x 0).toNat 0≤P.getD x 0).2.2
   refine .up ?_
   rw [Zbg _ _ _ _ hl,if_neg hne]
   exact ih (by omega) hr.2 (by omega)
theorem Zzt {n:Nat}{P I:List Int}(h:DJ n P I){b d:Nat}(hb:b < n)(hb0:b≠0)(hd:d < n)(hd0:0≤I.getD d 0)(hp:P.getD d 0 < P.getD b 0):DJ n P (I.set b (d:Int)):=by
 have hl:b < I.length:=by rw [h.len];exact hb
 refine⟨by simpa using h.len,?_,fun x hx=>?_,fun x hx hx0 hi=>?_⟩
 ·rw [Zbg _ _ _ _ hl,if_neg hb0];exact h.z
 ·rw [Zbg _ _ _ _ hl]
  split
  ·omega
  ·exact h.rg x hx
 ·have hset:∀ x,(I.set b (d:Int)).getD x 0=if b=x then (d:Int) else I.getD x 0:=fun x=>Zbg _ _ _ _ hl
  rw [hset x] at hi ⊢
  by_cases e:b=x
  ·rw [if_pos e,Int.toNat_natCast]
   refine⟨?_,by rw [← e];exact hp⟩
   rw [hset]
   split
   ·omega
   ·exact hd0
  ·rw [if_neg e] at hi ⊢
   refine⟨?_,(h.up x hx hx0 hi).2⟩
   rw [hset]
   split
   ·omega
   ·exact (h.up x hx hx0 hi).1
theorem Zk {u:UnT.D}{P T I:List Int}(R:Rpo (nb u) (fun b=>(Zak u).getD b []) P T)(h:DJ (nb u) P I){b:Nat}(hb:b < nb u)(hb0:b≠0)(hfw:∀ a < nb u,(a:Int)∈(Zak u).getD b []→P.getD a 0 < P.getD b 0→0≤I.getD a 0) :
  ∃ d:Nat,Zg0 u P I b=(d:Int)∧d < nb u∧0≤I.getD d 0∧P.getD d 0 < P.getD b 0∧(∀ a < nb u,(a:Int)∈(Zak u).getD b []→0≤I.getD a 0→Anc I a d)∧
   ∀ z,(∀ a < nb u,(a:Int)∈(Zak u).getD b []→0≤I.getD a 0→Anc I a z)→Anc I d z:=by
 have hrow:=R.pr b hb
 obtain⟨g1,g2,g3,g4⟩:=Z0a R h ((Zak u).getD b []) (-1) hrow (by omega) (by have:=R.pos;omega) (fun h=>by omega)
 have hD:Zg0 u P I b=((Zak u).getD b []).foldl (Zn9 P I) (-1):=rfl
 rw [← hD] at g1 g2 g3 g4
 obtain⟨a,ha,ham,hap⟩:=R.fw b hb hb0
 have ha0:=hfw a ha ham hap
 have hnn:0≤Zg0 u P I b:=by
  apply Decidable.byContradiction
  intro hn
  have:=(g3 (by omega)).2 _ ham
  rw [Int.toNat_natCast] at this
  omega
 obtain⟨q1,q2,q3,q4⟩:=g4 hnn
 obtain⟨d,hd⟩:∃ d:Nat,Zg0 u P I b=(d:Int):=⟨(Zg0 u P I b).toNat,by omega⟩
 rw [hd,Int.toNat_natCast] at q1 q3 q4
 rw [hd] at g2
 have hall:∀ a < nb u,(a:Int)∈(Zak u).getD b []→0≤I.getD a 0→Anc I a d:=fun a _ hm h0=>by have:=q3 _ hm (by rw [Int.toNat_natCast];exact h0);rwa [Int.toNat_natCast] at this
 have h3:=(h.anc (hall a ha ham ha0) ha ha0).2.2
 refine⟨d,hd,by omega,q1,by omega,hall,fun z hz=>q4 z (fun h=>by omega) fun x hx h0=>?_⟩
 have hxr:=hrow x hx
 obtain⟨a',rfl⟩:∃ a':Nat,x=(a':Int):=⟨x.toNat,by omega⟩
 rw [Int.toNat_natCast] at h0 ⊢
 exact hz a' (by omega) hx h0
theorem Z40 {u:UnT.D}{P T I:List Int}(R:Rpo (nb u) (fun b=>(Zak u).getD b []) P T){j:Nat}(h:J1 (nb u) (fun b=>(Zak u).getD b []) P j I){b:Nat}(hb:b < nb u)(hb0:b≠0)(hpb:P.getD b 0=((j+1:Nat):Int)) :
  J1 (nb u) (fun b=>(Zak u).getD b []) P (j+1) (I.set b (Zg0 u P I b))∧I.getD b 0 < 0∧0≤Zg0 u P I b∧Zg0 u P I b < nb u:=by
 have hl:b < I.length:=by rw [h.d.len];exact hb
 have hIb:I.getD b 0 < 0:=by have:=(h.p b hb).1;omega
 obtain⟨d,hd,d1,d2,d3,d4,d5⟩:=Zk R h.d hb hb0 (fun a ha _ hp=>(h.p a ha).2 (by omega))
 rw [hd]
 have hDJ:=Zzt h.d hb hb0 d1 d2 d3
 have hP:∀ x < nb u,P.getD x 0≤((j+1:Nat):Int)→x≠b→P.getD x 0≤j:=fun x hx h1 h2=>by
  have:P.getD x 0≠P.getD b 0:=fun e=>h2 (R.inj hx hb e)
  omega
 have hset:∀ x,(I.set b (d:Int)).getD x 0=if b=x then (d:Int) else I.getD x 0:=fun x=>Zbg _ _ _ _ hl
 refine⟨⟨hDJ,fun x hx=>?_,fun x hx hx0 hpx=>?_,fun x hx hx0 hpx=>?_⟩,hIb,by omega,by omega⟩
 ·rw [hset]
  split
  ·rename_i e;rw [← e,hpb];constructor <;> intro _ <;> omega
  ·rename_i e
   rw [h.p x hx]
   exact⟨fun h1=>by omega,fun h1=>hP x hx h1 (Ne.symm e)⟩
 ·intro a ha ham hap
  rw [hset]
  by_cases e:b=x
  ·subst e
   rw [if_pos rfl,Int.toNat_natCast]
   have ha0:=(h.p a ha).2 (by omega)
   exact (Zhc h.d hb _ ha ha0 hap).2 (d4 a ha ham ha0)
  ·rw [if_neg e]
   have hpx':=hP x hx hpx (Ne.symm e)
   have ha0:=(h.p a ha).2 (by omega)
   exact (Zhc h.d hb _ ha ha0 (by omega)).2 (h.f x hx hx0 hpx' a ha ham hap)
 ·intro z hz hall
  rw [hset]
  have key:∀ a < nb u,0≤I.getD a 0→Anc (I.set b (d:Int)) a z→Anc I a z:=fun a ha ha0 hA=>(Zhc h.d hb _ ha ha0 (by have:=(h.p a ha).1 ha0;omega)).1 hA
  have hp0:∀ a < nb u,0≤I.getD a 0→0≤(I.set b (d:Int)).getD a 0:=fun a ha ha0=>by
   rw [hset];split
   ·omega
   ·exact ha0
  by_cases e:b=x
  ·subst e
   rw [if_pos rfl,Int.toNat_natCast]
   have:=d5 z fun a ha ham ha0=>key a ha ha0 (hall a ha ham (hp0 a ha ha0))
   exact (h.d.anc this d1 d2).2.2
  ·rw [if_neg e]
   exact h.u x hx hx0 (hP x hx hpx (Ne.symm e)) z hz fun a ha ham ha0=>key a ha ha0 (hall a ha ham (hp0 a ha ha0))
theorem Z3k {u:UnT.D}{P T Is I:List Int}(R:Rpo (nb u) (fun b=>(Zak u).getD b []) P T){j:Nat}(h:J2 (nb u) (fun b=>(Zak u).getD b []) P j Is I){b:Nat}(hb:b < nb u)(hb0:b≠0)(hpb:P.getD b 0=((j+1:Nat):Int)) :
  J2 (nb u) (fun b=>(Zak u).getD b []) P (j+1) Is (I.set b (Zg0 u P I b))∧0≤Zg0 u P I b∧Zg0 u P I b < nb u∧P.getD (Zg0 u P I b).toNat 0≤P.getD (I.getD b 0).toNat 0:=by
 have hl:b < I.length:=by rw [h.d.len];exact hb
 obtain⟨d,hd,d1,d2,d3,d4,d5⟩:=Zk R h.d hb hb0 (fun a ha _ _=>h.p a ha)
 rw [hd,Int.toNat_natCast]
 have hDJ:=Zzt h.d hb hb0 d1 d2 d3
 have hset:∀ x,(I.set b (d:Int)).getD x 0=if b=x then (d:Int) else I.getD x 0:=fun x=>Zbg _ _ _ _ hl
 have hP:∀ x < nb u,P.getD x 0≤((j+1:Nat):Int)→x≠b→P.getD x 0≤j:=fun x hx h1 h2=>by
  have:P.getD x 0≠P.getD b 0:=fun e=>h2 (R.inj hx hb e)
  omega
 obtain⟨a,ha,ham,hap⟩:=R.fw b hb hb0
 have haj:P.getD a 0≤j:=by omega
 have e0:I.getD b 0=Is.getD b 0:=h.w b hb (by omega)
 have hFs:=h.fs b hb hb0 a ha ham hap
 have hIsb:=h.ds.upOk b hb (h.ps b hb)
 obtain⟨d0,hd0⟩:∃ d0:Nat,Is.getD b 0=(d0:Int):=⟨(Is.getD b 0).toNat,by have:=h.ps b hb;omega⟩
 rw [hd0,Int.toNat_natCast] at hFs
 rw [hd0] at e0 hIsb
 have hd0n:d0 < nb u:=by omega
 have hU:P.getD d 0≤P.getD d0 0:=by
  have:=h.u b hb hb0 d d1 (fun a ha ham ha0=>d4 a ha ham ha0)
  rwa [e0,Int.toNat_natCast] at this
 have hup:Anc I d0 d:=h.q a ha haj d0 d hFs (d4 a ha ham (h.p a ha)) hU
 have shrink:∀ x y,Anc (I.set b (d:Int)) x y→Anc I x y:=by
  intro x y hxy
  induction hxy with
  | refl x=>exact .refl x
  | @up x y _ ih =>
   rw [hset] at ih
   by_cases e:b=x
   ·subst e
    rw [if_pos rfl,Int.toNat_natCast] at ih
    refine .up ?_
    rw [e0,Int.toNat_natCast]
    exact hup.trans ih
   ·rw [if_neg e] at ih
    exact .up ih
 have hd0b:P.getD d0 0 < P.getD b 0:=by have:=(h.d.up b hb hb0 (h.p b hb)).2;rwa [e0,Int.toNat_natCast] at this
 refine⟨⟨h.ds,hDJ,h.ps,fun x hx=>?_,h.fs,fun x hx hx0=>?_,fun x hx hx0 hpx=>?_,fun y hy hpy x z h1 h2 h3=>?_,fun y hy hpy=>?_⟩,by omega,by omega,by rw [e0,Int.toNat_natCast];exact hU⟩
 ·rw [hset]
  split
  ·omega
  ·exact h.p x hx
 ·intro z hz hall
  rw [hset]
  have hall2:∀ a < nb u,(a:Int)∈(Zak u).getD x []→0≤I.getD a 0→Anc I a z:=fun a ha ham ha0=>shrink a z (hall a ha ham (by
   rw [hset];split
   ·omega
   ·exact ha0))
  by_cases e:b=x
  ·subst e
   rw [if_pos rfl,Int.toNat_natCast]
   exact (h.d.anc (d5 z hall2) d1 d2).2.2
  ·rw [if_neg e]
   exact h.u x hx hx0 z hz hall2
 ·intro a' ha' ham' hap'
  rw [hset]
  by_cases e:b=x
  ·subst e
   rw [if_pos rfl,Int.toNat_natCast]
   exact (Zhc h.d hb _ ha' (h.p a' ha') hap').2 (d4 a' ha' ham' (h.p a' ha'))
  ·rw [if_neg e]
   have hpx':=hP x hx hpx (Ne.symm e)
   exact (Zhc h.d hb _ ha' (h.p a' ha') (by omega)).2 (h.f x hx hx0 hpx' a' ha' ham' hap')
 ·by_cases e:y=b
  ·subst e
   cases h1 with
   | refl=>exact h2
   | up h1 =>
    rw [hd0,Int.toNat_natCast] at h1
    have hx:=h.ds.anc h1 hd0n (h.ps d0 hd0n)
    have hd0x:=hx.2.2
    have hzb:z≠y:=fun e=>by rw [e] at h3;omega
    cases h2 with
    | refl=>exact absurd rfl hzb
    | up h2 =>
     rw [hset,if_pos rfl,Int.toNat_natCast] at h2
     have h5:=shrink d z h2
     have h6:=h.q a ha haj x z (hFs.trans h1) ((d4 a ha ham (h.p a ha)).trans h5) h3
     exact (Zhc h.d hb _ hx.1 (h.p x hx.1) (by omega)).2 h6
  ·have hpy':=hP y hy hpy e
   have h6:=h.q y hy hpy' x z h1 (shrink y z h2) h3
   have hx:=h.ds.anc h1 hy (h.ps y hy)
   exact (Zhc h.d hb _ hx.1 (h.p x hx.1) (by omega)).2 h6
 ·rw [hset,if_neg (fun e=>by rw [← e,hpb] at hpy;omega)]
  exact h.w y hy (by omega)
end Go.Proofs.YtcgmchechmbmeaaDoor.base
end
section
set_option maxRecDepth 100000
namespace Go.Proofs.YtcgmchechmbmeaaDoor.base
open Go.Sh gen
def JJ (u:UnT.D)(P:List Int)(j:Nat)(I:List Int):Prop:=J1 (nb u) (fun b=>(Zak u).getD b []) P j I∨∃ Is,J2 (nb u) (fun b=>(Zak u).getD b []) P j Is I
theorem JJ.d {u:UnT.D}{P I:List Int}{j:Nat}(h:JJ u P j I):DJ (nb u) P I:=by
 rcases h with h | ⟨_,h⟩
 ·exact h.d
 ·exact h.d
theorem Ztq {u:UnT.D}{P T I:List Int}(R:Rpo (nb u) (fun b=>(Zak u).getD b []) P T){j:Nat}(h:JJ u P j I)(hj:j < T.length) :
  ∃ b:Nat,T.getD j 0=(b:Int)∧b < nb u∧b≠0∧JJ u P (j+1) (I.set b (Zg0 u P I b))∧0≤Zg0 u P I b∧Zg0 u P I b < nb u∧(0≤I.getD b 0→P.getD (Zg0 u P I b).toNat 0≤P.getD (I.getD b 0).toNat 0):=by
 obtain⟨b,h1,h2,h3,h4⟩:=R.t j hj
 refine⟨b,h1,h2,h3,?_⟩
 rcases h with h | ⟨Is,h⟩
 ·obtain⟨g1,g2,g3,g4⟩:=Z40 R h h2 h3 h4
  exact⟨Or.inl g1,g3,g4,fun h=>by omega⟩
 ·obtain⟨g1,g2,g3,g4⟩:=Z3k R h h2 h3 h4
  exact⟨Or.inr ⟨Is,g1⟩,g2,g3,fun _=>g4⟩
theorem Zk2 {u:UnT.D}{P T I:List Int}(R:Rpo (nb u) (fun b=>(Zak u).getD b []) P T)(h:JJ u P T.length I):J2 (nb u) (fun b=>(Zak u).getD b []) P 0 I I:=by
 have hP:∀ x < nb u,P.getD x 0≤(T.length:Int):=fun x hx=>by have:=(R.pn hx).2.1;have:=R.len;omega
 have mk:DJ (nb u) P I→(∀ x < nb u,0≤I.getD x 0)→(∀ x < nb u,x≠0→FwX (nb u) (fun b=>(Zak u).getD b []) P I x)→(∀ x < nb u,x≠0→UpX (nb u) (fun b=>(Zak u).getD b []) P I x)→J2 (nb u) (fun b=>(Zak u).getD b []) P 0 I I:=by
  intro hd hp hf hu
  refine⟨hd,hd,hp,hp,hf,hu,fun x hx h0 _=>hf x hx h0,fun y hy hpy x z h1 h2 _=>?_,fun y hy _=>rfl⟩
  have:y=0:=by
   apply Decidable.byContradiction
   intro h0
   have:=(R.pn hy).2.2 h0
   omega
  subst this
  rw [hd.anc0 h1,hd.anc0 h2]
  exact .refl 0
 rcases h with h | ⟨Is,h⟩
 ·exact mk h.d (fun x hx=>(h.p x hx).2 (hP x hx)) (fun x hx h0=>h.f x hx h0 (hP x hx)) (fun x hx h0=>h.u x hx h0 (hP x hx))
 ·exact mk h.d h.p (fun x hx h0=>h.f x hx h0 (hP x hx)) h.u
theorem Zyw {n:Nat}(hn:0 < n){x:Nat}(hx:x < n):((List.replicate n (-1:Int)).set 0 0).getD x 0=if x=0 then 0 else -1:=by
 rw [Zbg _ _ _ _ (by simpa using hn)]
 by_cases e:x=0
 ·rw [if_pos e.symm,if_pos e]
 ·rw [if_neg (Ne.symm e),if_neg e,List.getD_eq_getElem?_getD,List.getElem?_replicate,if_pos hx];rfl
theorem Z8x {u:UnT.D}{P T:List Int}(R:Rpo (nb u) (fun b=>(Zak u).getD b []) P T):JJ u P 0 ((List.replicate (nb u) (-1)).set 0 0):=by
 have hn:=R.pos
 refine Or.inl ⟨⟨by simp,?_,fun x hx=>?_,fun x hx h0 h=>?_⟩,fun x hx=>?_,fun x hx h0 h=>?_,fun x hx h0 h=>?_⟩
 ·rw [Zyw hn hn,if_pos rfl]
 ·rw [Zyw hn hx];split <;> omega
 ·rw [Zyw hn hx,if_neg h0] at h;omega
 ·rw [Zyw hn hx]
  by_cases e:x=0
  ·rw [if_pos e,e,R.p0];simp
  ·rw [if_neg e]
   have:=(R.pn hx).2.2 e
   constructor <;> intro _ <;> omega
 ·have:=(R.pn hx).2.2 h0;omega
 ·have:=(R.pn hx).2.2 h0;omega
theorem Z4p {u:UnT.D}{P T:List Int}(R:Rpo (nb u) (fun b=>(Zak u).getD b []) P T):Z9h u P T (JJ u P):=by
 refine⟨fun j I h=>h.d.len,fun j I h=>h.d.upOk,fun j I h a b ha hb ha0 hb0=>?_,fun j I h hj=>?_,fun I h=>Or.inr ⟨I,Zk2 R h⟩⟩
 ·obtain⟨c,_,⟨D,hD,hm⟩,_⟩:=Zzr R h.d ha hb ha0 hb0
  exact⟨D,c,hD,hm⟩
 ·obtain⟨b,h1,_,_,h2,_⟩:=Ztq R h hj
  rw [h1,Int.toNat_natCast]
  exact h2
def wI (n:Nat)(P:List Int)(v:Int):Nat:=if v < 0 then n else (P.getD v.toNat 0).toNat
def mI (n:Nat)(P I:List Int):Nat:=(I.map (wI n P)).sum
theorem Z3q (l:List Nat){k:Nat}(hk:k < l.length)(x:Nat):(l.set k x).sum+l.getD k 0=l.sum+x:=by
 induction l generalizing k with
 | nil=>simp at hk
 | cons a r ih =>
  cases k with
  | zero=>simp;omega
  | succ k =>
   have:=ih (k:=k) (by simpa using hk)
   simp at this ⊢
   omega
theorem Z75 {n:Nat}{P I:List Int}{b:Nat}(hb:b < I.length)(v:Int):mI n P (I.set b v)+wI n P (I.getD b 0)=mI n P I+wI n P v:=by
 unfold mI
 rw [List.map_set]
 have:=Z3q (I.map (wI n P)) (k:=b) (by simpa using hb) (wI n P v)
 have e:(I.map (wI n P)).getD b 0=wI n P (I.getD b 0):=by
  rw [List.getD_eq_getElem?_getD,List.getElem?_map,List.getElem?_eq_getElem hb,List.getD_eq_getElem?_getD,List.getElem?_eq_getElem hb];rfl
 rw [e] at this
 exact this
theorem Zum {l:List Int}{b:Nat}(hb:b < l.length){v:Int}(h:l.getD b 0=v):l.set b v=l:=by
 apply Zik (by simp)
 intro k hk
 rw [Zbg _ _ _ _ hb]
 split
 ·rename_i e;rw [← e,h]
 ·rfl
theorem Zpf {u:UnT.D}{P T:List Int}(R:Rpo (nb u) (fun b=>(Zak u).getD b []) P T):∀ (k j:Nat) (I:List Int) (ch:Bool),T.length - j=k→j≤T.length→JJ u P j I→
  JJ u P T.length ((T.drop j).foldl (Zou u P) (I,ch)).1∧mI (nb u) P ((T.drop j).foldl (Zou u P) (I,ch)).1≤mI (nb u) P I∧
  (((T.drop j).foldl (Zou u P) (I,ch)).2=true→ch=true∨mI (nb u) P ((T.drop j).foldl (Zou u P) (I,ch)).1 < mI (nb u) P I)∧
  (((T.drop j).foldl (Zou u P) (I,ch)).2=false→ch=false∧((T.drop j).foldl (Zou u P) (I,ch)).1=I∧∀ i,j≤i→i < T.length→I.getD (T.getD i 0).toNat 0=Zg0 u P I (T.getD i 0).toNat):=by
 intro k
 induction k with
 | zero =>
  intro j I ch hk hj h
  have:j=T.length:=by omega
  subst this
  rw [List.drop_of_length_le (Nat.le_refl _),List.foldl_nil]
  exact⟨h,Nat.le_refl _,fun h=>Or.inl h,fun h=>⟨h,rfl,fun i h1 h2=>by omega⟩⟩
 | succ k ih =>
  intro j I ch hk hj h
  have hjt:j < T.length:=by omega
  obtain⟨b,h1,h2,h3,h4,h5,h6,h7⟩:=Ztq R h hjt
  have hbl:b < I.length:=by rw [h.d.len];exact h2
  rw [Za9 hjt,List.foldl_cons,h1]
  have eB:Zou u P (I,ch) (b:Int)=(I.set b (Zg0 u P I b),ch || !decide (I.getD b 0=Zg0 u P I b)):=by unfold Zou;rw [Int.toNat_natCast]
  rw [eB]
  obtain⟨g1,g2,g3,g4⟩:=ih (j+1) _ (ch || !decide (I.getD b 0=Zg0 u P I b)) (by omega) (by omega) h4
  have hs:=Z75 (n:=nb u) (P:=P) hbl (Zg0 u P I b)
  have hd0:=h5
  obtain⟨d,hd⟩:∃ d:Nat,Zg0 u P I b=(d:Int):=⟨(Zg0 u P I b).toNat,by omega⟩
  have hpd:=R.pn (show d < nb u by omega)
  have wd:wI (nb u) P (Zg0 u P I b)=(P.getD d 0).toNat:=by unfold wI;rw [hd,if_neg (by omega),Int.toNat_natCast]
  rw [hd,Int.toNat_natCast] at h7
  have hle:wI (nb u) P (Zg0 u P I b)≤wI (nb u) P (I.getD b 0)∧(I.getD b 0≠Zg0 u P I b→wI (nb u) P (Zg0 u P I b) < wI (nb u) P (I.getD b 0)):=by
   rw [wd]
   by_cases hn:I.getD b 0 < 0
   ·have:wI (nb u) P (I.getD b 0)=nb u:=by unfold wI;rw [if_pos hn]
    rw [this]
    exact⟨by omega,fun _=>by omega⟩
   ·obtain⟨e,he⟩:∃ d:Nat,I.getD b 0=(d:Int):=⟨(I.getD b 0).toNat,by omega⟩
    have hen:e < nb u:=by have:=(h.d.rg b h2).2;omega
    have hpe:=R.pn hen
    have w2:wI (nb u) P (I.getD b 0)=(P.getD e 0).toNat:=by unfold wI;rw [he,if_neg (by omega),Int.toNat_natCast]
    have h8:=h7 (by omega)
    rw [he,Int.toNat_natCast] at h8
    rw [w2,he,hd]
    refine⟨by omega,fun hne=>?_⟩
    have:P.getD d 0≠P.getD e 0:=fun e2=>hne (by rw [R.inj (by omega) hen e2])
    omega
  refine⟨g1,by omega,fun hc=>?_,fun hc=>?_⟩
  ·rcases g3 hc with h9 | h9
   ·rw [Bool.or_eq_true] at h9
    rcases h9 with h9 | h9
    ·exact Or.inl h9
    ·have:=hle.2 (by simpa using h9)
     exact Or.inr (by omega)
   ·exact Or.inr (by omega)
  ·obtain⟨c1,c2,c3⟩:=g4 hc
   rw [Bool.or_eq_false_iff] at c1
   have heq:I.getD b 0=Zg0 u P I b:=by simpa using c1.2
   have hss:=Zum hbl heq
   rw [hss] at c2 c3
   refine⟨c1.1,by rw [hss];exact c2,fun i hi1 hi2=>?_⟩
   by_cases e:i=j
   ·rw [e,h1,Int.toNat_natCast];exact heq
   ·exact c3 i (by omega) hi2
theorem Z3u {u:UnT.D}{P T:List Int}(R:Rpo (nb u) (fun b=>(Zak u).getD b []) P T):∀ (M:Nat) (I:List Int),JJ u P 0 I→mI (nb u) P I≤M→
    ∃ D I',Zgr u P T D (I,true)=some I'∧J2 (nb u) (fun b=>(Zak u).getD b []) P 0 I' I'∧∀ b < nb u,b≠0→I'.getD b 0=Zg0 u P I' b:=by
  intro M
  induction M with
  | zero =>
    intro I h hM
    obtain⟨g1,g2,g3,g4⟩:=Zpf R _ 0 I false rfl (by omega) h
    rw [List.drop_zero] at g1 g2 g3 g4
    cases hc:(T.foldl (Zou u P) (I,false)).2 with
    | true => rcases g3 hc with h1 | h1
              · cases h1
              · omega
    | false =>
      obtain⟨_,c2,c3⟩:=g4 hc
      rw [c2] at g1
      have e:Z1d u P T (I,false)=(I,false):=Prod.ext c2 hc
      refine⟨1,I,by rw [Zgr,if_pos rfl,e];rfl,Zk2 R g1,fun b hb hb0=>?_⟩
      obtain⟨i,hi,hT⟩:=R.all b hb hb0
      have:=c3 i (by omega) hi
      rwa [hT,Int.toNat_natCast] at this
  | succ M ih =>
    intro I h hM
    obtain⟨g1,g2,g3,g4⟩:=Zpf R _ 0 I false rfl (by omega) h
    rw [List.drop_zero] at g1 g2 g3 g4
    cases hc:(T.foldl (Zou u P) (I,false)).2 with
    | true =>
      have h1:mI (nb u) P (T.foldl (Zou u P) (I,false)).1 < mI (nb u) P I:=by
        rcases g3 hc with h1 | h1
        · cases h1
        · exact h1
      obtain⟨D,I',e1,e2,e3⟩:=ih _ (Or.inr ⟨_,Zk2 R g1⟩) (by omega)
      have e:Z1d u P T (I,false)=((T.foldl (Zou u P) (I,false)).1,true):=Prod.ext rfl hc
      exact⟨D+1,I',by rw [Zgr,if_pos rfl,e];exact e1,e2,e3⟩
    | false =>
      obtain⟨_,c2,c3⟩:=g4 hc
      rw [c2] at g1
      have e:Z1d u P T (I,false)=(I,false):=Prod.ext c2 hc
      refine⟨1,I,by rw [Zgr,if_pos rfl,e];rfl,Zk2 R g1,fun b hb hb0=>?_⟩
      obtain⟨i,hi,hT⟩:=R.all b hb hb0
      have:=c3 i (by omega) hi
      rwa [hT,Int.toNat_natCast] at this
theorem Z6e {u:UnT.D}{P T I:List Int}(R:Rpo (nb u) (fun b=>(Zak u).getD b []) P T)(h:DJ (nb u) P I)(hp:∀ x < nb u,0≤I.getD x 0)(a:Int):∀ (M b:Nat),b < nb u→(P.getD b 0).toNat≤M→∃ d r,d≤M+1∧Zlo (I.set 0 (-1)) a d b=some r:=by
 have hl:0 < I.length:=by rw [h.len];exact R.pos
 have hset:∀ x,(I.set 0 (-1:Int)).getD x 0=if 0=x then -1 else I.getD x 0:=fun x=>Zbg _ _ _ _ hl
 intro M
 induction M with
 | zero =>
  intro b hb hM
  by_cases e:a=(b:Int)
  ·exact⟨0,true,by omega,by rw [Zlo,if_neg (by omega),if_pos e]⟩
  ·have hb0:b=0:=by
    apply Decidable.byContradiction
    intro h0
    have:=(R.pn hb).2.2 h0
    omega
   refine⟨1,false,by omega,?_⟩
   rw [Zlo,if_neg (by omega),if_neg e,Int.toNat_natCast,hset,if_pos hb0.symm,Zlo,if_pos (by omega)]
 | succ M ih =>
  intro b hb hM
  by_cases e:a=(b:Int)
  ·exact⟨0,true,by omega,by rw [Zlo,if_neg (by omega),if_pos e]⟩
  ·by_cases hb0:b=0
   ·refine⟨1,false,by omega,?_⟩
    rw [Zlo,if_neg (by omega),if_neg e,Int.toNat_natCast,hset,if_pos hb0.symm,Zlo,if_pos (by omega)]
   ·have hu:=(h.up b hb hb0 (hp b hb)).2
    have hr:=h.upOk b hb (hp b hb)
    obtain⟨c,hc⟩:∃ c:Nat,I.getD b 0=(c:Int):=⟨(I.getD b 0).toNat,by have:=hp b hb;omega⟩
    rw [hc] at hu hr
    rw [Int.toNat_natCast] at hu hr
    have hcn:c < nb u:=by omega
    have hpc:=R.pn hcn
    obtain⟨d,r,h1,h2⟩:=ih c hcn (by omega)
    refine⟨d+1,r,by omega,?_⟩
    rw [Zlo,if_neg (by omega),if_neg e,Int.toNat_natCast,hset,if_neg (Ne.symm hb0),hc]
    exact h2
theorem Z47 {u:UnT.D}(hnx:Znc u)(hb:0 < nb u):∃ O I,Zye u O I∧(∃ sn,Zwy u (sn,O.reverse,[]))∧
  (O.length=nb u→∃ I',I=I'.set 0 (-1)∧Rpo (nb u) (fun b=>(Zak u).getD b []) (Zgz (nb u) O) (O.drop 1)∧J2 (nb u) (fun b=>(Zak u).getD b []) (Zgz (nb u) O) 0 I' I'∧∀ b < nb u,b≠0→I'.getD b 0=Zg0 u (Zgz (nb u) O) I' b):=by
 obtain⟨D,O',sn,hO,hinv⟩:=Z5d hnx _ (Zqd u) (Z07 hb) (Nat.le_refl _)
 by_cases hl:O'.reverse.length=nb u
 ·have hl':O'.length=nb u:=by simpa using hl
  obtain⟨h1,R⟩:=Z8m hnx hb hinv hl'
  obtain⟨D2,I',h2,h3,h4⟩:=Z3u R _ _ (Z8x R) (Nat.le_refl _)
  have hset:∀ x,(I'.set 0 (-1:Int)).getD x 0=if 0=x then -1 else I'.getD x 0:=fun x=>Zbg _ _ _ _ (by rw [h3.d.len];exact hb)
  refine⟨O'.reverse,I'.set 0 (-1),⟨⟨D,O',hO,rfl⟩,fun _=>h1,fun _=>⟨JJ u (Zgz (nb u) O'.reverse),D2,I',Z4p R,Z8x R,h2,rfl⟩,fun _=>⟨by simpa using h3.d.len,fun x hx=>?_⟩,fun _ a b hb'=>?_⟩,⟨sn,by rw [List.reverse_reverse];exact hinv⟩,fun _=>⟨I',rfl,R,h3,h4⟩⟩
  ·rw [hset]
   split
   ·omega
   ·exact (h3.d.rg x hx).2
  ·have hpb:=R.pn hb'
   obtain⟨d,r,g1,g2⟩:=Z6e R h3.d h3.p a _ b hb' (Nat.le_refl _)
   refine⟨d,by omega,?_⟩
   rw [Z7d g2 (show d < nb u+2 by omega)]
   exact g2
 ·exact⟨O'.reverse,[],⟨⟨D,O',hO,rfl⟩,fun h=>absurd h hl,fun h=>absurd h hl,fun h=>absurd h hl,fun h=>absurd h hl⟩,⟨sn,by rw [List.reverse_reverse];exact hinv⟩,fun h=>absurd h hl⟩
end Go.Proofs.YtcgmchechmbmeaaDoor.base
end
section
set_option maxRecDepth 100000
namespace Go.Proofs.YtcgmchechmbmeaaDoor.base
open Go.Sh gen
variable {S:Zb7}{m:Mem}
inductive Ro where
 | go (V:Vv)
 | tired (V:Vv)
 | left (V:Vv) (st:Nat) (val:Int)
structure BOk (u:UnT.D)(at_:Nat)(b:Zcj.D):Prop where
 vl:List.length b.1≤1000000
 vin:∀ v∈(show List Int from b.1),(0:Int)≤v∧v < (nv u:Int)
 ed:b.2.1=3→(0:Int)≤(show Int from b.2.2.2.2.2.1)∧(show Int from b.2.2.2.2.2.1) < (ns u:Int)
 cd:b.2.1=2→(0:Int)≤(show Int from b.2.2.1)∧(show Int from b.2.2.1) < (nv u:Int)
 nl:List.length b.2.2.2.1≤1000000∧List.length b.2.2.2.2.1≤1000000
 n2:b.2.1≠3→(if b.2.1=2 then 1 else 0) < List.length b.2.2.2.1
 nx:∀ t∈(show List Int from b.2.2.2.1),(0:Int)≤t∧t < (nb u:Int)∧(Zcl u t.toNat).2.2.2.2.1≠([]:List Int)∧
  ∀ v∈(show List Int from (Zcl u t.toNat).1),(Za0 u v).1=21→Z8z (Zcl u t.toNat).2.2.2.2.1 (at_:Int) < (Za0 u v).2.2.2.2.1.length∧(Za0 u v).2.2.2.2.1.length≤1000000∧(0:Int)≤(show List Int from (Za0 u v).2.2.2.2.1).getD (Z8z (Zcl u t.toNat).2.2.2.2.1 (at_:Int)) 0∧(show List Int from (Za0 u v).2.2.2.2.1).getD (Z8z (Zcl u t.toNat).2.2.2.2.1 (at_:Int)) 0 < (nv u:Int)
structure UOk (u:UnT.D):Prop where
 n:0 < nv u∧nv u≤1000000
 b:0 < nb u∧nb u≤1000000
 s:ns u≤1000000
 bl:∀ i,i < nb u→BOk u i (Zcl u i)
 vl:∀ x∈u.2.2.1,x.1≠1→x.1≠21→VOk u x
 pa:∀ x∈u.2.2.1,x.1=1→(0:Int)≤x.2.2.2.1∧x.2.2.2.1≤9223372036854775807
 gd:∀ x∈u.2.2.1,x.1=22→(0:Int)≤x.2.1∧x.2.1 < (nv u:Int)
 lv:∀ x∈u.2.2.1,x.1=22∨x.1=23→(0:Int)≤x.2.2.2.2.2.1∧x.2.2.2.2.2.1 < (ns u:Int)
 fr:∀ st,(h:st < ns u)→(u.2.2.2.2.1[st]).1.length≤1000000∧∀ f∈(u.2.2.2.2.1[st]).1,f.2.2.1.length≤1000000∧f.2.2.2.1.length≤1000000∧(∀ v∈(show List Int from f.2.2.1),(0:Int)≤v∧v < (nv u:Int))∧(∀ v∈(show List Int from f.2.2.2.1),(0:Int)≤v∧v < (nv u:Int))
end Go.Proofs.YtcgmchechmbmeaaDoor.base
end
section
set_option maxRecDepth 100000
namespace Go.Proofs.YtcgmchechmbmeaaDoor.base
open Go.Sh gen
theorem Zn3 {u:UnT.D}{b:Nat}{l:List Int}{k:Nat}{s s':StS}(h:Zcm u b k l s=some s'):s'.2.2.2=s.2.2.2+l.length:=by
 induction l generalizing k s with
 | nil=>rw [Zcm,Option.some.injEq] at h;rw [← h];rfl
 | cons v r ih =>
  rw [Zcm] at h
  cases hv:Ze8 u b k s v with
  | none=>rw [hv] at h;cases h
  | some s1 =>
   rw [hv,Option.bind_some] at h
   obtain⟨n,_,_,_,e,_⟩:=Zhi hv
   rw [ih h,e,List.length_cons]
   dsimp only
   omega
theorem Zwb {u:UnT.D}{bs:List Zcj.D}{b:Nat}{s s':StS}(h:Zci u b bs s=some s'):∀ x∈bs,s.2.2.2+List.length x.1≤s'.2.2.2:=by
 induction bs generalizing b s with
 | nil=>intro x hx;simp at hx
 | cons y r ih =>
  rw [Zci] at h
  cases hv:Zcm u b 0 y.1 (s.1,s.2.1,true,s.2.2.2) with
  | none=>rw [hv] at h;cases h
  | some s1 =>
   rw [hv,Option.bind_some] at h
   have h1:=Zn3 hv
   dsimp only at h1
   intro x hx
   rcases List.mem_cons.1 hx with rfl | hx
   ·have h2:s1.2.2.2≤s'.2.2.2:=by
     have key:∀ (r:List Zcj.D) (b:Nat) (s1:StS),Zci u b r s1=some s'→s1.2.2.2≤s'.2.2.2:=by
      intro r
      induction r with
      | nil=>intro b s1 h;rw [Zci,Option.some.injEq] at h;rw [h];exact Nat.le_refl _
      | cons z r ih =>
       intro b s1 h
       rw [Zci] at h
       cases hv:Zcm u b 0 z.1 (s1.1,s1.2.1,true,s1.2.2.2) with
       | none=>rw [hv] at h;cases h
       | some s2 =>
        rw [hv,Option.bind_some] at h
        have h3:=Zn3 hv
        have:=ih _ _ h
        dsimp only at h3
        omega
     exact key r _ _ h
    have e:List.length (show List Int from x.1)=List.length x.1:=rfl
    omega
   ·have:=ih h x hx
    omega
theorem Zwf {u:UnT.D}{s:StS}(h:Zcf u=some s){i:Nat}(hi:i < nb u):(vlD u i).length≤nv u:=by
 unfold Zcf at h
 cases hB:Zci u 0 u.2.2.2.1 (List.replicate (nv u) (-1),List.replicate (nv u) 0,true,0) with
 | none=>rw [hB] at h;cases h
 | some s1 =>
  rw [hB] at h
  have h2:=(Option.filter_eq_some_iff.1 h).2
  have h3:=Zwb hB (Zcl u i) (Zfk hi)
  have h4:s1.2.2.2=nv u:=by
   have:=(Option.filter_eq_some_iff.1 h).1
   simp only [Option.some.injEq] at this
   rw [this];simpa using h2
  have e:(vlD u i).length=List.length (Zcl u i).1:=rfl
  dsimp only at h3
  omega
end Go.Proofs.YtcgmchechmbmeaaDoor.base
end
