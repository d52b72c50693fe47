/- This text proves that the units of turnstonehand.Unit are small, in plain Lean. No condition but what the theorems themselves say. -/
import Derived.Test.YtcgmchechmbmeaaDoorM15
import Derived.Test.YtcgmchechmbmeaaDoorM10
set_option linter.unusedVariables false
set_option linter.unusedSimpArgs false
section
set_option maxRecDepth 100000
namespace Go.Proofs.YtcgmchechmbmeaaDoor.base
open Go.Sh gen
variable {s s1:Us}{ops:List Int}
structure Sz (s:Us):Prop where
 v:∀ x∈s.vals,(Zec x).length≤2∧-1048576≤(show Int from x.2.2.2.1)∧(show Int from x.2.2.2.1)≤1048576
 b:∀ x∈s.blks,List.length x.1≤s.vals.length∧List.length x.2.2.2.1≤2∧List.length x.2.2.2.2.1≤2
 t:∀ x∈s.sts,List.length x.1≤1∧∀ f∈x.1,List.length f.2.2.1≤4∧List.length f.2.2.2.1≤4
 p:s.bp.length≤2
 n:s.bv.length≤s.vals.length
theorem Sz.at (h:Sz s)(a:Nat):Sz { s with at_:=a }:=⟨h.v,h.b,h.t,h.p,h.n⟩
theorem Sz.next (h:Sz s)(k:Int):Sz (Zat ops k s).1:=by
 obtain⟨a,e⟩:=Zg2 ops k s
 rw [e];exact h.at a
theorem Sz.any (h:Sz s):Sz (Zbc ops s).1:=h.next _
theorem Sz.kn (h:Sz s)(l:List Int):Sz { s with known:=l }:=⟨h.v,h.b,h.t,h.p,h.n⟩
theorem Sz.bp (h:Sz s){l:List Int}(hl:l.length≤2):Sz (bpP l s):=⟨h.v,h.b,h.t,hl,h.n⟩
theorem Sz.cut (h:Sz s)(k:Nat):Sz (Zi8 k s):=h.kn _
theorem Sz.put (h:Sz s){d:Za9.D}(hd:(Zec d).length≤2∧-1048576≤(show Int from d.2.2.2.1)∧(show Int from d.2.2.2.1)≤1048576):Sz (Zbu d s):=by
 refine⟨fun x hx=>?_,fun x hx=>?_,h.t,h.p,?_⟩
 ·simp only [Zbu,List.mem_append,List.mem_singleton] at hx
  rcases hx with hx | rfl
  ·exact h.v x hx
  ·exact hd
 ·have:=h.b x hx
  simp only [Zbu,List.length_append,List.length_cons,List.length_nil]
  omega
 ·have:=h.n
  simp only [Zbu,List.length_append,List.length_cons,List.length_nil]
  omega
theorem Sz.knp (h:Sz s){d:Za9.D}(hd:(Zec d).length≤2∧-1048576≤(show Int from d.2.2.2.1)∧(show Int from d.2.2.2.1)≤1048576):Sz (knP d s):=(h.put hd).kn _
theorem Zus (k:Nat):∀ {s:Us} {l:List Int},(∃ a,(Zft ops k s l).1={ s with at_:=a })∧(Zft ops k s l).2.length=l.length+k:=by
 induction k with
 | zero=>intro s l;exact⟨⟨s.at_,rfl⟩,rfl⟩
 | succ k ih =>
  intro s l
  rw [Zft]
  obtain⟨⟨a,e⟩,e2⟩:=ih (s:=(Zbc ops s).1) (l:=l++[(Zbc ops s).2])
  obtain⟨a2,e3⟩:=Zg2 ops (s.known.length:Nat) s
  have e3:(Zbc ops s).1={ s with at_:=a2 }:=e3
  refine⟨⟨a,?_⟩,?_⟩
  ·rw [e,e3]
  ·rw [e2];simp;omega
theorem Sz.state (h:Sz s):Sz (Zac ops s).1:=by
 have q:=Zco (ops:=ops) (s:=s) (k:=4) (by omega)
 obtain⟨⟨a,e⟩,e2⟩:=Zus (ops:=ops) (Zat ops 4 s).2.toNat (s:=(Zat ops 4 s).1) (l:=[])
 have h1:Sz (Zft ops (Zat ops 4 s).2.toNat (Zat ops 4 s).1 []).1:=by rw [e];exact (h.next 4).at a
 refine⟨h1.v,h1.b,fun x hx=>?_,h1.p,h1.n⟩
 simp only [Zac,List.mem_append,List.mem_singleton] at hx
 rcases hx with hx | rfl
 ·exact h1.t x hx
 ·refine⟨by simp,fun f hf=>?_⟩
  simp only [List.mem_singleton] at hf
  subst hf
  simp only [e2,List.length_cons,List.length_nil]
  omega
theorem Sz.end (h:Sz s){e c:Int}{next:List Int}{st:Int}(hn:next.length≤2):Sz (Zb6 e c next st s):=by
 refine⟨h.v,fun x hx=>?_,h.t,by simp [Zb6],by simp [Zb6]⟩
 simp only [Zb6,List.mem_append,List.mem_singleton] at hx
 rcases hx with hx | rfl
 ·exact h.b x hx
 ·exact⟨h.n,hn,h.p⟩
theorem Sz.sets (h:Sz s){p:Nat}{l:List Int}(hl:l.length≤2):Sz (Zbl p l s):=by
 unfold Zbl
 split
 ·rename_i hp
  refine⟨fun x hx=>?_,fun x hx=>?_,h.t,h.p,?_⟩
  ·rcases List.mem_or_eq_of_mem_set hx with hx | rfl
   ·exact h.v x hx
   ·exact⟨hl,(h.v _ (List.getElem_mem hp)).2⟩
  ·have:=h.b x hx
   simpa using this
  ·have:=h.n
   simpa using this
 ·exact h
theorem Z19 (h:Sz s)(a b:Int){k:Int}:Sz (Zd0 ops a b k s):=by
 have q1:=Zco (ops:=ops) (s:=s) (k:=1048576) (by omega)
 have q2:=Zco (ops:=ops) (s:=s) (k:=5) (by omega)
 unfold Zd0
 split
 ·exact h.knp ⟨Nat.le_of_ble_eq_true rfl,by simp,by simp⟩
 split
 ·exact (h.next _).knp ⟨Nat.le_of_ble_eq_true rfl,by dsimp only;omega,by dsimp only;omega⟩
 split
 ·exact (h.next _).knp ⟨Nat.le_of_ble_eq_true rfl,by dsimp only;omega,by dsimp only;omega⟩
 split
 ·exact h.knp ⟨Nat.le_of_ble_eq_true rfl,by simp,by simp⟩
 split
 ·exact (h.next _).put ⟨Nat.le_of_ble_eq_true rfl,by dsimp only;omega,by dsimp only;omega⟩
 split
 ·exact h.any.put ⟨Nat.le_of_ble_eq_true rfl,by simp,by simp⟩
 split
 ·exact h.state.put ⟨Nat.le_of_ble_eq_true rfl,by simp,by simp⟩
 split
 ·exact h.state.put ⟨Nat.le_of_ble_eq_true rfl,by simp,by simp⟩
 ·exact (h.next _).knp ⟨Nat.le_of_ble_eq_true rfl,by simp,by simp⟩
theorem Z1j (k:Nat):∀ {s:Us},Sz s→Sz (Zgf ops k s):=by
 induction k with
 | zero=>intro s h;exact h
 | succ k ih =>
  intro s h
  rw [Zgf]
  split
  ·exact ih (Z19 ((h.any.any).next 20) _ _)
  ·exact h
theorem Zhb (h:Sz s):Sz (Zgv ops s):=Z1j _ (h.next 6)
theorem Zz2 (h:Sz s):Sz (Zq1 ops s):=Zhb ((((Zhb (h.any.end (by simp) |>.bp (by simp))).state.end (by simp)).cut _).bp (by simp))
theorem Z3v (h:Sz s):Sz (Zzx ops s):=by
 unfold Zzx
 have h4:=Zhb (ops:=ops) ((h.any (ops:=ops)).end (e:=2) (c:=(Zbc ops s).2) (next:=[(s.blks.length:Nat)+1,(s.blks.length:Nat)+2]) (st:=0) (by simp) |>.bp (l:=[(s.blks.length:Nat)]) (by simp))
 exact Zhb (((Zhb (((h4.cut _).end (by simp)).bp (by simp))).cut _ |>.end (by simp) |>.bp (by simp)).knp ⟨Nat.le_of_ble_eq_true rfl,by simp,by simp⟩)
theorem Z1u (h:Sz s){q:Nat}{x:Int}{k:Nat}{hh:Int}:Sz (Zpb ops q x k hh s):=Zhb ((((h.sets (by simp)).cut _).end (by simp)).bp (by simp))
theorem Z1n (h:Sz s):Sz (Zpo ops s):=by
 unfold Zpo
 dsimp only
 refine Z1u ?_
 split
 ·exact (((Zhb ((((((((((h.any.end (by simp)).bp (by simp)).put ⟨Nat.le_of_ble_eq_true rfl,by simp,by simp⟩).any.put ⟨Nat.le_of_ble_eq_true rfl,by simp,by simp⟩).kn _).state.put ⟨Nat.le_of_ble_eq_true rfl,by simp,by simp⟩).put ⟨Nat.le_of_ble_eq_true rfl,by simp,by simp⟩).knp ⟨Nat.le_of_ble_eq_true rfl,by simp,by simp⟩).end (by simp)).bp (by simp))).sets (by simp)).next _).sets (by simp)
 ·exact ((Zhb ((((((((((h.any.end (by simp)).bp (by simp)).put ⟨Nat.le_of_ble_eq_true rfl,by simp,by simp⟩).any.put ⟨Nat.le_of_ble_eq_true rfl,by simp,by simp⟩).kn _).state.put ⟨Nat.le_of_ble_eq_true rfl,by simp,by simp⟩).put ⟨Nat.le_of_ble_eq_true rfl,by simp,by simp⟩).knp ⟨Nat.le_of_ble_eq_true rfl,by simp,by simp⟩).end (by simp)).bp (by simp))).sets (by simp)).next _
theorem Zns:∀ (l:List Int) (k:Nat) {s:Us},Sz s→Sz (Ze8 ops l k s)
 | [],_,s,h=>by rw [Ze8];exact h
 | _::_,0,s,h=>by rw [Ze8];exact h
 | x::r,k+1,s,h=>by
  rw [Ze8]
  split
  ·refine Zns r k ?_
   split
   ·exact Z3v h
   split
   ·exact Z1n h
   ·exact Zz2 h
  ·exact h
theorem Zwu (k:Nat)(hk:k≤100):Sz (Zb9 k):=by
 induction k with
 | zero=>exact⟨by simp [Zb9,Us0],by simp [Zb9,Us0],by simp [Zb9,Us0],by simp [Zb9,Us0],by simp [Zb9,Us0]⟩
 | succ k ih=>exact (ih (by omega)).knp ⟨Nat.le_of_ble_eq_true rfl,by dsimp only;omega,by dsimp only;omega⟩
theorem Z14 (ops sh:List Int)(n:Int):Sz (Zje ops sh n):=((Zns sh 6 (Zhb ((Zwu _ (by omega)).knp ⟨Nat.le_of_ble_eq_true rfl,by simp,by simp⟩))).state).end (by simp)
end Go.Proofs.YtcgmchechmbmeaaDoor.base
end
section
set_option maxRecDepth 100000
namespace Go.Proofs.YtcgmchechmbmeaaDoor.base
open Go.Sh gen
inductive Av (u:UnT.D) (a:Nat):Nat→Prop
 | z:a≠0→Av u a 0
 | s {p b:Nat}:Av u a p→p < nb u→b < nb u→(p:Int)∈(Zal u).getD b []→b≠a→Av u a b
def Kp (u:UnT.D)(I:List Int):Prop:=∀ x < nb u,0≤I.getD x 0→∀ a < nb u,¬ Anc I x a→Av u a x
abbrev pdU (u:UnT.D):Nat→List Int:=fun b=>(Zal u).getD b []
theorem Z4t {u:UnT.D}{P T I:List Int}(R:Rpo (nb u) (pdU u) P T)(hd:DJ (nb u) P I)(hp:∀ x < nb u,0≤I.getD x 0)(hf:∀ x < nb u,x≠0→FwX (nb u) (pdU u) P I x){a y:Nat}(hAv:Av u a y)(hpa:P.getD a 0 < P.getD y 0) :
  ∀ (M z:Nat),z < nb u→(P.getD z 0).toNat≤M→Anc I z y→Av u a z:=by
 intro M
 induction M with
 | zero =>
  intro z hz hM hA
  have h0:z=0:=by
   apply Decidable.byContradiction
   intro h;have:=(R.pn hz).2.2 h;omega
  subst h0
  rw [hd.anc0 hA] at hAv
  exact hAv
 | succ M ih =>
  intro z hz hM hA
  have hza:=(hd.anc hA hz (hp z hz)).2.2
  by_cases h0:z=0
  ·subst h0
   rw [hd.anc0 hA] at hAv
   exact hAv
  cases hA with
  | refl=>exact hAv
  | up hA =>
   obtain⟨p,hpn,hpm,hpp⟩:=R.fw z hz h0
   have h1:=hf z hz h0 p hpn hpm hpp
   have h2:=ih p hpn (by have:=(R.pn hpn).1;omega) (h1.trans hA)
   exact .s h2 hpn hz hpm (fun e=>by subst e;omega)
theorem Zuz {n:Nat}{P I I':List Int}{b:Nat}(hd:DJ n P I)(hs:∀ x,x≠b→I'.getD x 0=I.getD x 0){x a:Nat}(h:Anc I x a):x < n→0≤I.getD x 0→P.getD b 0 < P.getD a 0→Anc I' x a:=by
 induction h with
 | refl x=>intro _ _ _;exact .refl x
 | @up x a h ih =>
  intro hx h0 hp
  have h1:=hd.upOk x hx h0
  have h2:=(hd.anc (.up h) hx h0).2.2
  refine .up ?_
  rw [hs x (fun e=>by subst e;omega)]
  exact ih (by omega) h1.2 hp
theorem Zte {I I':List Int}{b:Nat}(hs:∀ x,x≠b→I'.getD x 0=I.getD x 0){x a:Nat}(h:Anc I x a):¬ Anc I' x b→Anc I' x a:=by
 induction h with
 | refl x=>intro _;exact .refl x
 | @up x a h ih =>
  intro hn
  have hxb:x≠b:=fun e=>hn (by rw [e];exact .refl b)
  refine .up ?_
  have e:=hs x hxb
  rw [e]
  exact ih (fun h2=>hn (.up (by rw [e];exact h2)))
theorem Zyi {n:Nat}{pd:Nat→List Int}{P T I' Is:List Int}(R:Rpo n pd P T){b:Nat}(hb:b < n)(hd:DJ n P I')(hp:∀ x < n,0≤I'.getD x 0)(hs:∀ x < n,P.getD b 0 < P.getD x 0→I'.getD x 0=Is.getD x 0){x y:Nat}(h:Anc I' x y):y=b→x < n→Anc Is x b:=by
 induction h with
 | refl x=>intro e _;subst e;exact .refl _
 | @up x y h ih =>
  intro e hx
  subst e
  by_cases hxb:x=y
  ·subst hxb;exact .refl _
  have h2:=(hd.anc (.up h) hx (hp x hx)).2.2
  have h3:P.getD x 0≠P.getD y 0:=fun e=>hxb (R.inj hx hb e)
  have h4:=hd.upOk x hx (hp x hx)
  have e2:=hs x hx (by omega)
  refine .up ?_
  rw [← e2]
  exact ih rfl (by have:=hp x hx;omega)
theorem Z55 {u:UnT.D}{P T I:List Int}(R:Rpo (nb u) (pdU u) P T){j:Nat}(h:JJ u P j I)(hK:Kp u I){b:Nat}(hb:b < nb u)(hb0:b≠0)(hpb:P.getD b 0=((j+1:Nat):Int)):Kp u (I.set b (Zgu u P I b)):=by
 have hd:=h.d
 have hl:b < I.length:=by rw [hd.len];exact hb
 have hfw:∀ a < nb u,(a:Int)∈(Zal u).getD b []→P.getD a 0 < P.getD b 0→0≤I.getD a 0:=by
  intro a ha _ hp
  rcases h with h | ⟨Is,h⟩
  ·exact (h.p a ha).2 (by omega)
  ·exact h.p a ha
 obtain⟨d,hdd,d1,d2,d3,d4,d5⟩:=Zj1 R hd hb hb0 hfw
 rw [hdd]
 have hDJ:=Zxg hd hb hb0 d1 d2 d3
 have hset:∀ x,(I.set b (d:Int)).getD x 0=if b=x then (d:Int) else I.getD x 0:=fun x=>Zbd _ _ _ _ hl
 have hne:∀ x,x≠b→(I.set b (d:Int)).getD x 0=I.getD x 0:=fun x hx=>by rw [hset,if_neg (Ne.symm hx)]
 have heq:(I.set b (d:Int)).getD b 0=(d:Int):=by rw [hset,if_pos rfl]
 obtain⟨I',hI'⟩:∃ I',I.set b (d:Int)=I':=⟨_,rfl⟩
 have hav:∀ a < nb u,¬ Anc I' b a→Av u a b:=by
  intro a ha hn
  have hab:a≠b:=fun e=>hn (by rw [e];exact .refl b)
  have hn2:¬ Anc I d a:=fun hA=>hn (.up (by rw [← hI',heq,Int.toNat_natCast];exact (Zg4 hd hb _ d1 d2 d3).2 hA))
  apply Classical.byContradiction
  intro hc
  refine hn2 (d5 a fun p hp hpm hp0=>?_)
  apply Classical.byContradiction
  intro hnp
  exact hc (.s (hK p hp hp0 a ha hnp) hp hb hpm (Ne.symm hab))
 rw [hI'] at hDJ hne heq ⊢
 intro x hx h0 a ha hna
 by_cases hxb:x=b
 ·subst hxb;exact hav a ha hna
 have hIx:=hne x hxb
 rw [hIx] at h0
 by_cases hpx:P.getD x 0 < P.getD b 0
 ·exact hK x hx h0 a ha (fun hA=>hna (by rw [← hI'];exact (Zg4 hd hb _ hx h0 hpx).2 hA))
 have hpne:P.getD x 0≠P.getD b 0:=fun e=>hxb (R.inj hx hb e)
 rcases h with h | ⟨Is,h⟩
 ·have:=(h.p x hx).1 h0;omega
 ·have hp':∀ y < nb u,0≤I'.getD y 0:=by
   intro y hy
   by_cases e:y=b
   ·rw [e,heq];omega
   ·rw [hne y e];exact h.p y hy
  by_cases hA:Anc I' x b
  ·have h1:=hav a ha (fun h2=>hna (hA.trans h2))
   by_cases hpa:P.getD a 0 < P.getD b 0
   ·have hw:∀ y < nb u,P.getD b 0 < P.getD y 0→I'.getD y 0=Is.getD y 0:=fun y hy hp=>by
     rw [hne y (fun e=>by subst e;omega)];exact h.w y hy (by omega)
    exact Z4t R h.ds h.ps h.fs h1 hpa _ x hx (Nat.le_refl _) (Zyi R hb hDJ hp' hw hA rfl hx)
   ·have hpab:P.getD a 0≠P.getD b 0:=fun e=>by
     have:=R.inj ha hb e
     subst this
     exact hna hA
    exact hK x hx h0 a ha (fun h2=>hna (Zuz hd hne h2 hx h0 (by omega)))
  ·exact hK x hx h0 a ha (fun h2=>hna (Zte hne h2 hA))
theorem Z28 {u:UnT.D}{P T:List Int}(R:Rpo (nb u) (pdU u) P T):∀ (k j:Nat) (I:List Int) (ch:Bool),T.length - j=k→j≤T.length→JJ u P j I→Kp u I→JJ u P T.length ((T.drop j).foldl (Zoa u P) (I,ch)).1∧Kp u ((T.drop j).foldl (Zoa u P) (I,ch)).1:=by
 intro k
 induction k with
 | zero =>
  intro j I ch hk hj h hK
  have:j=T.length:=by omega
  subst this
  rw [List.drop_of_length_le (Nat.le_refl _),List.foldl_nil]
  exact⟨h,hK⟩
 | succ k ih =>
  intro j I ch hk hj h hK
  have hjt:j < T.length:=by omega
  obtain⟨b,h1,h2,h3,h4⟩:=R.t j hjt
  obtain⟨b',g1,g2,g3,g4,_⟩:=Zsy R h hjt
  have e:b'=b:=by rw [h1] at g1;omega
  subst e
  rw [Za7 hjt,List.foldl_cons,h1]
  have eB:Zoa u P (I,ch) (b':Int)=(I.set b' (Zgu u P I b'),ch || !decide (I.getD b' 0=Zgu u P I b')):=by unfold Zoa;rw [Int.toNat_natCast]
  rw [eB]
  exact ih (j+1) _ _ (by omega) (by omega) g4 (Z55 R h hK h2 h3 h4)
theorem Z8u {u:UnT.D}{P T:List Int}(R:Rpo (nb u) (pdU u) P T):∀ (D:Nat) (I:List Int) (ch:Bool) (I':List Int),JJ u P 0 I→Kp u I→Zgr u P T D (I,ch)=some I'→Kp u I':=by
 intro D
 induction D with
 | zero =>
  intro I ch I' h hK he
  rw [Zgr] at he
  split at he
  ·cases he
  ·simp at he;rw [← he];exact hK
 | succ D ih =>
  intro I ch I' h hK he
  rw [Zgr] at he
  split at he
  ·obtain⟨g1,g2⟩:=Z28 R _ 0 I false rfl (by omega) h hK
   rw [List.drop_zero] at g1 g2
   exact ih (Z0g u P T (I,false)).1 (Z0g u P T (I,false)).2 I' (Or.inr ⟨_,Zkr R g1⟩) g2 he
  ·cases he
theorem k_0 {u:UnT.D}{P T:List Int}(R:Rpo (nb u) (pdU u) P T):Kp u ((List.replicate (nb u) (-1)).set 0 0):=by
 intro x hx h0 a ha hn
 rw [Zyf R.pos hx] at h0
 split at h0
 ·rename_i e
  subst e
  exact .z (fun e=>hn (by rw [e];exact .refl 0))
 ·omega
theorem Z6 {u:UnT.D}(hnx:Zm4 u)(hb:0 < nb u):∃ O I,Zw0 u O I∧(∃ sn,Zwd u (sn,O.reverse,[]))∧
  (O.length=nb u→∀ a b:Nat,a < nb u→b < nb u→(upF I (a:Int) (nb u+2) (b:Int)=true↔¬ Av u a b)):=by
 obtain⟨O,I,hT,hO,hI⟩:=Z4a hnx hb
 refine⟨O,I,hT,hO,fun hl=>?_⟩
 obtain⟨I',e1,R,hJ,hfix⟩:=hI hl
 obtain⟨J,D2,I2,_,_,hdom,e2⟩:=hT.dom hl
 have hK:=Z8u R D2 _ true I2 (Z78 R) (k_0 R) hdom
 have hz2:I2.getD 0 0=0:=by
  have:∀ (D:Nat) (I:List Int) (ch:Bool) (I':List Int),JJ u (Zgl (nb u) O) 0 I→Zgr u (Zgl (nb u) O) (O.drop 1) D (I,ch)=some I'→I'.length=nb u∧I'.getD 0 0=0:=by
   intro D
   induction D with
   | zero =>
    intro I ch I' h he
    rw [Zgr] at he
    split at he
    ·cases he
    ·simp at he;rw [← he];exact⟨h.d.len,h.d.z⟩
   | succ D ih =>
    intro I ch I' h he
    rw [Zgr] at he
    split at he
    ·obtain⟨g1,_⟩:=Zpn R _ 0 I false rfl (by omega) h
     rw [List.drop_zero] at g1
     exact ih (Z0g u (Zgl (nb u) O) (O.drop 1) (I,false)).1 (Z0g u (Zgl (nb u) O) (O.drop 1) (I,false)).2 I' (Or.inr ⟨_,Zkr R g1⟩) he
    ·cases he
  exact (this D2 _ true I2 (Z78 R) hdom).2
 have hl2:I2.length=nb u:=by
  have:=congrArg List.length (e1.symm.trans e2)
  simp only [List.length_set] at this
  rw [← this];exact hJ.d.len
 have e12:I2=I':=by
  apply Zih (by rw [hl2,hJ.d.len])
  intro k hk
  have h1:(I'.set 0 (-1)).getD k 0=(I2.set 0 (-1)).getD k 0:=by rw [← e1,← e2]
  rw [Zbd _ _ _ _ (by rw [hJ.d.len];exact hb),Zbd _ _ _ _ (by rw [hl2];exact hb)] at h1
  by_cases h0:0=k
  ·rw [← h0,hz2,hJ.d.z]
  ·rw [if_neg h0,if_neg h0] at h1;exact h1.symm
 rw [e12] at hK
 have hs:∀ x,I.getD x 0=if 0=x then -1 else I'.getD x 0:=fun x=>by rw [e1];exact Zbd _ _ _ _ (by rw [hJ.d.len];exact hb)
 have hup:∀ (a d b:Nat) (r:Bool),b < nb u→Zk4 I a d b=some r→(r=true↔Anc I' b a):=by
  intro a d
  induction d with
  | zero =>
   intro b r hbn he
   rw [Zk4,if_neg (by omega)] at he
   split at he
   ·rename_i e
    have e:a=b:=by omega
    subst e
    simp at he;subst he
    exact⟨fun _=>.refl a,fun _=>rfl⟩
   ·cases he
  | succ d ih =>
   intro b r hbn he
   rw [Zk4,if_neg (by omega)] at he
   split at he
   ·cases he
   ·rename_i hab
    rw [Int.toNat_natCast,hs] at he
    by_cases h0:0=b
    ·rw [if_pos h0] at he
     have hr:r=false:=by
      cases d with
      | zero=>rw [Zk4,if_pos (by omega)] at he;simpa using he.symm
      | succ d=>rw [Zk4,if_pos (by omega)] at he;cases he
     subst hr
     refine⟨fun h=>(by cases h),fun h=>?_⟩
     subst h0
     have:=hJ.d.anc0 h
     omega
    ·rw [if_neg h0] at he
     obtain⟨c,hc⟩:∃ c:Nat,I'.getD b 0=(c:Int):=⟨(I'.getD b 0).toNat,by have:=hJ.p b hbn;omega⟩
     rw [hc] at he
     have h1:=ih c r (by have:=(hJ.d.rg b hbn).2;omega) he
     rw [h1]
     constructor
     ·intro h;exact .up (by rw [hc,Int.toNat_natCast];exact h)
     ·intro h
      cases h with
      | refl=>omega
      | up h=>rwa [hc,Int.toNat_natCast] at h
 have hanc:∀ a b:Nat,Av u a b→b < nb u→¬ Anc I' b a:=by
  intro a b hA
  induction hA with
  | z h=>intro _ h2;exact h (hJ.d.anc0 h2)
  | @s p b hp hpn hbn hm hba ih =>
   intro _ h2
   by_cases h0:b=0
   ·subst h0;exact hba (hJ.d.anc0 h2).symm
   cases h2 with
   | refl=>exact hba rfl
   | up h2 =>
    obtain⟨d,hdd,d1,d2,d3,d4,d5⟩:=Zj1 R hJ.d hbn h0 (fun a ha _ _=>hJ.p a ha)
    rw [hfix b hbn h0,hdd,Int.toNat_natCast] at h2
    exact ih hpn ((d4 p hpn hm (hJ.p p hpn)).trans h2)
 intro a b ha hbn
 obtain⟨d,_,hd⟩:=hT.up hl a b hbn
 rw [hup a d b _ hbn hd]
 constructor
 ·intro h hA;exact hanc a b hA hbn h
 ·intro h
  apply Classical.byContradiction
  intro hn
  exact h (hK b hbn (hJ.p b hbn) a ha hn)
end Go.Proofs.YtcgmchechmbmeaaDoor.base
end
section
set_option maxRecDepth 100000
namespace Go.Proofs.YtcgmchechmbmeaaDoor.base
open Go.Sh gen
def Zhj (B:List Nat)(i:Nat):List Int:=List.map Int.ofNat ((List.range B.length).filter fun v=>decide (B.getD v 0=i))
theorem Zez {B:List Nat}{i:Nat}{z:Int}:z∈Zhj B i↔∃ n:Nat,z=n∧n < B.length∧B.getD n 0=i:=by
 unfold Zhj
 simp only [List.mem_map,List.mem_filter,List.mem_range,decide_eq_true_eq]
 constructor
 ·rintro⟨n,⟨h1,h2⟩,rfl⟩;exact⟨n,rfl,h1,h2⟩
 ·rintro⟨n,rfl,h1,h2⟩;exact⟨n,⟨h1,h2⟩,rfl⟩
theorem Zo3 (B:List Nat)(i:Nat):(Zhj B i).Pairwise (· < ·):=by
 unfold Zhj
 rw [List.pairwise_map]
 exact ((List.pairwise_lt_range).filter _).imp (fun h=>by simp only [Int.ofNat_eq_natCast];omega)
theorem Z6j {l:List Int}(h:l.Pairwise (· < ·)){i j:Nat}(hj:j < l.length)(hij:i < j):l.getD i 0 < l.getD j 0:=by
 rw [List.getD_eq_getElem?_getD,List.getElem?_eq_getElem (show i < l.length by omega),List.getD_eq_getElem?_getD,List.getElem?_eq_getElem hj]
 exact List.pairwise_iff_getElem.1 h i j (by omega) hj hij
def stL (fs:List Zeg.D):List Int:=fs.flatMap fun f=>(show List Int from f.2.2.1)++(show List Int from f.2.2.2.1)
def OkV (u:UnT.D)(B:List Nat)(D:List (List Nat))(i w:Nat)(z:Int):Prop:=∃ n:Nat,z=n∧n < w∧noW (Za3 u (n:Nat)).1=false∧B.getD n 0∈D.getD i []
abbrev agV (u:UnT.D)(v:Nat):List Int:=(Za3 u (v:Nat)).2.2.2.2.1
structure VCu (u:UnT.D)(B:List Nat)(D:List (List Nat))(v:Nat):Prop where
 op:Zpg (Za3 u (v:Nat)).1=true
 ph:(Za3 u (v:Nat)).1=21→(agV u v).length=(prD u (B.getD v 0)).length∧∀ j < (agV u v).length,∃ q:Nat,(prD u (B.getD v 0)).getD j 0=q∧q < nb u∧OkV u B D q (nv u) ((agV u v).getD j 0)
 us:(Za3 u (v:Nat)).1≠21→∀ z∈Zfb (Za3 u (v:Nat)),OkV u B D (B.getD v 0) v z
 pa:(Za3 u (v:Nat)).1=20→(agV u v).length=1
 lv:lvs (Za3 u (v:Nat)).1=true→∃ st < ns u,(show Int from (Za3 u (v:Nat)).2.2.2.2.2.1)=(st:Nat)∧∀ z∈stL (stD u st),OkV u B D (B.getD v 0) v z
 pm:(Za3 u (v:Nat)).1=1→0≤(show Int from (Za3 u (v:Nat)).2.2.2.1)∧(show Int from (Za3 u (v:Nat)).2.2.2.1) < 40∧∀ w < v,Zka (show Int from (Za3 u (v:Nat)).2.2.2.1) (Za3 u (w:Nat))=false
structure UR (u:UnT.D)(B:List Nat)(D:List (List Nat)):Prop where
 sz:Zj u=true
 lb:B.length=nv u
 vb:∀ v < nv u,B.getD v 0 < nb u
 vl:∀ i < nb u,vlD u i=Zhj B i
 hd:∀ v w,v < w→w < nv u→B.getD v 0=B.getD w 0→Zay (Za3 u (w:Nat)).1=true→Zay (Za3 u (v:Nat)).1=true
 h1:∀ v < nv u,(Za3 u (v:Nat)).1=1→B.getD v 0=0
 h2:∀ v < nv u,(Za3 u (v:Nat)).1=21→B.getD v 0≠0
 pr:∀ b < nb u,(Zal u).getD b []=prD u b
 p0:prD u 0=[]
 dm:∀ b < nb u,b≠0→∀ p∈prD u b,∃ q:Nat,p=q∧q < nb u∧∀ a∈D.getD b [],a=b∨a∈D.getD q []
 d0:∀ a∈D.getD 0 [],a=0
 rc:∀ b < nb u,b≠0→∃ p:Nat,p < b∧(p:Int)∈prD u b
 nx:∀ i < nb u,∀ t∈nxD u i,(0:Int)≤t∧t < nb u
 en:∀ i < nb u,((Zda u i).2.1=1∧(nxD u i).length=1)∨((Zda u i).2.1=2∧(nxD u i).length=2∧(∀ t∈nxD u i,(prD u t.toNat).length=1)∧OkV u B D i (nv u) (Zda u i).2.2.1)∨
  ((Zda u i).2.1=3∧(nxD u i).length=0∧∃ st < ns u,(show Int from (Zda u i).2.2.2.2.2.1)=(st:Nat)∧∀ z∈stL (stD u st),OkV u B D i (nv u) z)
 va:∀ v < nv u,VCu u B D v
 st:∀ s < ns u,Zee u (stD u s)=true
variable {u:UnT.D}{B:List Nat}{D:List (List Nat)}
theorem UR.av (h:UR u B D){a x:Nat}(hA:Av u a x):x < nb u→a∉D.getD x []:=by
 induction hA with
 | z h0=>intro _ hm;exact h0 (h.d0 _ hm)
 | @s p b hp hpn hbn hm hba ih =>
  intro _ ha
  by_cases hb0:b=0
  ·subst hb0
   rw [h.pr 0 hbn,h.p0] at hm
   simp at hm
  rw [h.pr b hbn] at hm
  obtain⟨q,hq,_,hD⟩:=h.dm b hbn hb0 _ hm
  have:p=q:=by omega
  subst this
  rcases hD a ha with e | e
  ·exact hba e.symm
  ·exact ih hpn e
theorem Z9e {a b:Nat}(h:Av u a b):b≠a:=by
 cases h with
 | z h=>exact fun e=>h e.symm
 | s _ _ _ _ h=>exact h
theorem Zws (b:Nat):∀ (l:List Int) (k:Nat) (s:StS),l.Pairwise (· < ·)→(∀ z∈l,∃ n:Nat,z=n∧n < nv u∧s.1.getD n 0 < 0)→s.1.length=nv u→
  l.Pairwise (fun v w=>Zay (Za3 u w).1=true→Zay (Za3 u v).1=true)→(s.2.2.1=false→∀ z∈l,Zay (Za3 u z).1=false)→(∀ z∈l,Zay (Za3 u z).1=true→((Za3 u z).1=1↔b=0))→
  ∃ s',Zci u b k l s=some s'∧s'.1.length=nv u∧∀ n:Nat,(n:Int)∉l→s'.1.getD n 0=s.1.getD n 0:=by
 intro l
 induction l with
 | nil=>intro k s _ _ hl _ _ _;exact⟨s,rfl,hl,fun _ _=>rfl⟩
 | cons v r ih =>
  intro k s hpw hm hl hh hf hb
  obtain⟨n,rfl,hn,hneg⟩:=hm v (by simp)
  rw [List.pairwise_cons] at hpw hh
  have e:Zey u b k s (n:Int)=some (s.1.set n b,s.2.1.set n k,Zay (Za3 u (n:Int)).1,s.2.2.2+1):=by
   unfold Zey
   rw [if_neg (by
    rw [Int.toNat_natCast,Bool.or_eq_true,not_or]
    refine⟨?_,by rw [decide_eq_true_eq];omega⟩
    have:Zas (n:Int) (nv u)=true:=Zbe.2 ⟨by omega,by omega⟩
    rw [this];simp),if_neg (by
    rw [Bool.or_eq_true,not_or]
    refine⟨fun h2=>?_,fun h2=>?_⟩
    ·rw [Bool.and_eq_true,Bool.not_eq_true'] at h2
     have:=hf h2.2 (n:Int) (by simp)
     rw [h2.1] at this;cases this
    ·rw [Bool.and_eq_true] at h2
     have:=hb (n:Int) (by simp) h2.2
     have h3:=h2.1
     by_cases e0:b=0
     ·rw [decide_eq_true (this.2 e0),decide_eq_true e0] at h3;cases h3
     ·rw [decide_eq_false (fun h=>e0 (this.1 h)),decide_eq_false e0] at h3;cases h3),Int.toNat_natCast]
  obtain⟨s',g1,g2,g3⟩:=ih (k+1) (s.1.set n b,s.2.1.set n k,Zay (Za3 u (n:Int)).1,s.2.2.2+1) hpw.2 (fun z hz=>by
   obtain⟨q,rfl,hq,hqn⟩:=hm z (by simp [hz])
   have:=hpw.1 _ hz
   refine⟨q,rfl,hq,?_⟩
   dsimp only
   rw [Zbd _ _ _ _ (by rw [hl];exact hn),if_neg (by omega)]
   exact hqn) (by simpa using hl) hh.2 (fun h2 z hz=>by
    have:=hh.1 z hz
    dsimp only at h2
    cases h3:Zay (Za3 u z).1 with
    | false=>rfl
    | true=>rw [this h3] at h2;cases h2) (fun z hz=>hb z (by simp [hz]))
  refine⟨s',by rw [Zci,e];exact g1,g2,fun q hq=>?_⟩
  rw [List.mem_cons,not_or] at hq
  rw [g3 q hq.2]
  dsimp only
  rw [Zbd _ _ _ _ (by rw [hl];exact hn),if_neg (by omega)]
theorem Zxz:∀ (bs:List Zct.D) (b:Nat) (s:StS) (Bf:Nat→Nat),(∀ j x,bs[j]?=some x→(show List Int from x.1).Pairwise (· < ·)∧(∀ z∈(show List Int from x.1),∃ n:Nat,z=n∧n < nv u∧Bf n=b+j)∧
   (show List Int from x.1).Pairwise (fun v w=>Zay (Za3 u w).1=true→Zay (Za3 u v).1=true)∧(∀ z∈(show List Int from x.1),Zay (Za3 u z).1=true→((Za3 u z).1=1↔b+j=0)))→
  (∀ n < nv u,b≤Bf n→s.1.getD n 0 < 0)→s.1.length=nv u→∃ s',Zcg u b bs s=some s':=by
 intro bs
 induction bs with
 | nil=>intro b s Bf _ _ _;exact⟨s,rfl⟩
 | cons x r ih =>
  intro b s Bf hx hneg hl
  obtain⟨h1,h2,h3,h4⟩:=hx 0 x rfl
  obtain⟨s',g1,g2,g3⟩:=Zws (u:=u) b x.1 0 (s.1,s.2.1,true,s.2.2.2) h1 (fun z hz=>by
   obtain⟨n,rfl,hn,hB⟩:=h2 z hz
   exact⟨n,rfl,hn,hneg n hn (by omega)⟩) hl h3 (fun h=>by cases h) (fun z hz=>by have:=h4 z hz;rwa [Nat.add_zero] at this)
  rw [Zcg,g1]
  refine ih (b+1) s' Bf (fun j y hj=>?_) (fun n hn hB=>?_) g2
  ·have:=hx (j+1) y (by simpa using hj)
   rw [show b+(j+1)=b+1+j by omega] at this
   exact this
  ·rw [g3 n (fun hm=>by obtain⟨q,hq,_,hB2⟩:=h2 _ hm;have:n=q:=(by omega);subst this;omega)]
   exact hneg n hn (by omega)
theorem Zt2 {i:Nat}{x:Zct.D}(h:u.2.2.2.1[i]?=some x):i < nb u∧x=Zda u i:=by
 obtain⟨h1,h2⟩:=List.getElem?_eq_some_iff.1 h
 exact⟨h1,by rw [Zb2 h1];exact h2.symm⟩
theorem UR.stand (h:UR u B D):∃ s,Zcd u=some s:=by
 have hne:∀ i,(Zhj B i).Pairwise (fun v w=>Zay (Za3 u w).1=true→Zay (Za3 u v).1=true):=by
  intro i
  refine List.Pairwise.imp_of_mem (fun {a b} ha hb hab hw=>?_) (Zo3 B i)
  obtain⟨n,rfl,hn,e1⟩:=Zez.1 ha
  obtain⟨q,rfl,hq,e2⟩:=Zez.1 hb
  exact h.hd n q (by omega) (by rw [← h.lb];exact hq) (by rw [e1,e2]) hw
 obtain⟨s,hs⟩:=Zxz (u:=u) u.2.2.2.1 0 (List.replicate (nv u) (-1),List.replicate (nv u) 0,true,0) (fun n=>B.getD n 0) (fun j x hx=>by
   obtain⟨hj,rfl⟩:=Zt2 hx
   have e:=h.vl j hj
   rw [show (show List Int from (Zda u j).1)=Zhj B j from e]
   refine⟨Zo3 B j,fun z hz=>?_,hne j,fun z hz hh=>?_⟩
   ·obtain⟨n,rfl,hn,e1⟩:=Zez.1 hz
    exact⟨n,rfl,by rw [← h.lb];exact hn,by omega⟩
   ·obtain⟨n,rfl,hn,e1⟩:=Zez.1 hz
    rw [h.lb] at hn
    constructor
    ·intro h1;have:=h.h1 n hn h1;omega
    ·intro h0
     unfold Zay at hh
     rw [Bool.or_eq_true,decide_eq_true_eq,decide_eq_true_eq] at hh
     rcases hh with hh | hh
     ·exact absurd (show B.getD n 0=0 by omega) (h.h2 n hn hh)
     ·exact hh)
  (fun n hn _=>by dsimp only;rw [List.getD_eq_getElem?_getD,List.getElem?_replicate,if_pos hn];simp) (by simp)
 have i0:Z0y u (nb u) (List.replicate (nv u) (-1),List.replicate (nv u) 0,true,0):=by
  refine⟨by simp,by simp,?_,fun i hi=>?_⟩
  ·simp [Z2r,List.countP_replicate]
  ·dsimp only
   rw [List.getD_eq_getElem?_getD,List.getElem?_replicate,if_pos hi]
   simp
   omega
 obtain⟨a1,_,a3⟩:=Zn7 (N:=nb u) (by rw [Nat.zero_add];exact Nat.le_refl _) i0 hs
 have hall:∀ x∈s.1,0≤x:=by
  intro x hx
  obtain⟨n,hn,rfl⟩:=List.mem_iff_getElem.1 hx
  have hn':n < nv u:=by rw [← a1.lb];exact hn
  have hbn:=h.vb n hn'
  have hm:(n:Int)∈Zhj B (B.getD n 0):=Zez.2 ⟨n,rfl,by rw [h.lb];exact hn',rfl⟩
  rw [← h.vl _ hbn] at hm
  obtain⟨q,hq,hqe⟩:=List.mem_iff_getElem.1 hm
  have e:vlD u (B.getD n 0)=(u.2.2.2.1[B.getD n 0]).1:=congrArg (fun x:Zct.D=>x.1) (Zb2 hbn)
  obtain⟨n',g1,g2,g3,g4⟩:=a3 (B.getD n 0) _ (List.getElem?_eq_getElem hbn) q (by rw [← e];exact hq)
  rw [← e,List.getD_eq_getElem?_getD,List.getElem?_eq_getElem hq] at g1
  have:n'=n:=by
   have g1':(vlD u (B.getD n 0))[q]=(n':Int):=g1
   omega
  subst this
  rw [List.getD_eq_getElem?_getD,List.getElem?_eq_getElem hn] at g3
  have g3':s.1[n']=((0+B.getD n' 0:Nat):Int):=g3
  omega
 have hc:s.2.2.2=nv u:=by
  rw [a1.ct,← a1.lb]
  unfold Z2r
  rw [List.countP_eq_length]
  intro x hx
  exact decide_eq_true (hall x hx)
 exact⟨s,by unfold Zcd;rw [hs];simp [Option.filter,hc]⟩
end Go.Proofs.YtcgmchechmbmeaaDoor.base
end
section
set_option maxRecDepth 100000
namespace Go.Proofs.YtcgmchechmbmeaaDoor.base
open Go.Sh gen
variable {u:UnT.D}{B:List Nat}{D:List (List Nat)}
theorem OkV.there {i w:Nat}{z:Int}(hw:w≤nv u)(h:OkV u B D i w z):(Zas z (nv u) && !noW (Za3 u z).1)=true:=by
 obtain⟨n,rfl,hn,h1,_⟩:=h
 rw [h1,Zbe.2 ⟨by omega,by omega⟩];rfl
theorem Zqr {i w:Nat}{l:List Int}(hw:w≤nv u)(h:∀ z∈l,OkV u B D i w z):Zcb u l=true:=by
 unfold Zcb
 rw [List.all_eq_true]
 exact fun z hz=>(h z hz).there hw
theorem UR.pos (h:UR u B D):0 < nb u:=Zk h.sz
theorem UR.bl (h:UR u B D){bl pl:List Int}(hS:Zg7 u bl pl){n:Nat}(hn:n < nv u):bl.getD n 0=(B.getD n 0:Nat)∧∃ q:Nat,pl.getD n 0=(q:Int)∧q < (vlD u (B.getD n 0)).length∧(vlD u (B.getD n 0)).getD q 0=(n:Int):=by
 have hbn:=h.vb n hn
 have hm:(n:Int)∈Zhj B (B.getD n 0):=Zez.2 ⟨n,rfl,by rw [h.lb];exact hn,rfl⟩
 rw [← h.vl _ hbn] at hm
 obtain⟨q,hq,hqe⟩:=List.mem_iff_getElem.1 hm
 obtain⟨n',g1,g2,g3,g4⟩:=hS.at_ (B.getD n 0) hbn q hq
 have e:(vlD u (B.getD n 0)).getD q 0=(n:Int):=by rw [List.getD_eq_getElem?_getD,List.getElem?_eq_getElem hq];exact hqe
 have:n'=n:=by omega
 subst this
 exact⟨g3,q,g4,hq,e⟩
theorem UR.pl_lt (h:UR u B D){bl pl:List Int}(hS:Zg7 u bl pl){n w:Nat}(hw:w < nv u)(hnw:n < w)(hB:B.getD n 0=B.getD w 0):pl.getD n 0 < pl.getD w 0:=by
 obtain⟨_,q,h1,h2,h3⟩:=h.bl hS (show n < nv u by omega)
 obtain⟨_,r,h4,h5,h6⟩:=h.bl hS hw
 rw [hB,h.vl _ (h.vb w hw)] at h2 h3
 rw [h.vl _ (h.vb w hw)] at h5 h6
 rw [h1,h4]
 apply Decidable.byContradiction
 intro hc
 by_cases e:q=r
 ·subst e;omega
 ·have:=Z6j (Zo3 B _) h2 (show r < q by omega)
  omega
section
variable {bl pl I:List Int}
theorem UR.seen (h:UR u B D)(hS:Zg7 u bl pl)(hI:∀ a b:Nat,a < nb u→b < nb u→(upF I (a:Int) (nb u+2) (b:Int)=true↔¬ Av u a b)){i w:Nat}{place z:Int}(hi:i < nb u)(hw:w≤nv u)(hz:OkV u B D i w z)
  (hp:∀ n:Nat,n < w→z=n→B.getD n 0=i→pl.getD n 0 < place):Zks u bl pl I i place z=true:=by
 obtain⟨n,rfl,hn,_,hD⟩:=hz
 have hb:=(h.bl hS (show n < nv u by omega)).1
 have hbn:=h.vb n (by omega)
 unfold Zks
 rw [Int.toNat_natCast,hb,(hI _ _ hbn hi).2 (fun hA=>h.av hA hi hD),Bool.and_true,Bool.not_eq_true',Bool.and_eq_false_iff]
 by_cases e:B.getD n 0=i
 ·have:=hp n hn rfl e
  exact Or.inr (decide_eq_false (by omega))
 ·exact Or.inl (decide_eq_false (by omega))
theorem Zjl {i:Nat}{place:Int}{l:List Int}(h:∀ z∈l,Zks u bl pl I i place z=true):Zgt u bl pl I i place l=true:=by
 unfold Zgt;exact List.all_eq_true.2 h
theorem Zob {i:Nat}{place:Int}{fs:List Zeg.D}(h:∀ z∈stL fs,Zks u bl pl I i place z=true):Zfo u bl pl I i place fs=true:=by
 unfold Zfo
 rw [List.all_eq_true]
 intro f hf
 unfold Zn6
 rw [Bool.and_eq_true]
 refine⟨Zjl fun z hz=>h z ?_,Zjl fun z hz=>h z ?_⟩
 ·unfold stL;rw [List.mem_flatMap];exact⟨f,hf,List.mem_append_left _ hz⟩
 ·unfold stL;rw [List.mem_flatMap];exact⟨f,hf,List.mem_append_right _ hz⟩
theorem Zyn:∀ (l p:List Int),(∀ j < l.length,j < p.length→Zks u bl pl I (p.getD j 0) (vlD u (p.getD j 0).toNat).length (l.getD j 0)=true)→Zzr u bl pl I l p=true
 | [],p,_=>by cases p <;> rfl
 | a::r,[],_=>rfl
 | a::r,p::q,h=>by
  rw [Zzr,Bool.and_eq_true]
  refine⟨?_,Zyn r q fun j h1 h2=>?_⟩
  ·have:=h 0 (by simp) (by simp)
   unfold Zgt
   rw [List.all_cons,List.all_nil,Bool.and_true]
   exact this
  ·have:=h (j+1) (by simpa using h1) (by simpa using h2)
   exact this
theorem Zrk (i:Nat):∀ (l:List Int) (k:Nat),(∀ j < l.length,Zn3 u bl pl I i (k+j) (l.getD j 0)=true)→Zhz u bl pl I i k l=true
 | [],_,_=>rfl
 | n::r,k,h=>by
  rw [Zhz,Bool.and_eq_true]
  refine⟨h 0 (by simp),Zrk i r (k+1) fun j hj=>?_⟩
  have:=h (j+1) (by simpa using hj)
  rw [show k+(j+1)=k+1+j by omega] at this
  exact this
theorem UR.taken (h:UR u B D)(hS:Zg7 u bl pl)(hI:∀ a b:Nat,a < nb u→b < nb u→(upF I (a:Int) (nb u+2) (b:Int)=true↔¬ Av u a b)){i:Nat}(hi:i < nb u):Zhp u bl pl I i=true:=by
 have hend:∀ (j:Nat) (z:Int),j < nb u→OkV u B D j (nv u) z→Zks u bl pl I j (vlD u j).length z=true:=by
  intro j z hj hz
  refine h.seen hS hI hj (Nat.le_refl _) hz fun n hn _ hB=>?_
  obtain⟨_,q,h1,h2,_⟩:=h.bl hS hn
  rw [hB] at h2
  omega
 unfold Zhp
 rw [Bool.and_eq_true]
 constructor
 ·refine Zrk i _ 0 fun k hk=>?_
  rw [Nat.zero_add]
  obtain⟨v,g1,g2,g3,g4⟩:=hS.at_ i hi k hk
  rw [g1]
  have hbv:B.getD v 0=i:=by have:=(h.bl hS g2).1;omega
  have hv:=h.va v g2
  unfold Zn3
  split
  ·rename_i h21
   obtain⟨p1,p2⟩:=hv.ph h21
   rw [hbv] at p1 p2
   refine Zyn _ _ fun j hj hj2=>?_
   obtain⟨q,hq,hqn,hok⟩:=p2 j hj
   have e:(prD u i).getD j 0=(q:Int):=hq
   rw [e,Int.toNat_natCast]
   exact hend q _ hqn hok
  ·rename_i h21
   have hsee:∀ z,OkV u B D (B.getD v 0) v z→Zks u bl pl I i k z=true:=by
    intro z hz
    rw [hbv] at hz
    refine h.seen hS hI hi (by omega) hz fun n hn _ hB=>?_
    have:=h.pl_lt hS g2 hn (by rw [hB,hbv])
    omega
   rw [Bool.and_eq_true]
   refine⟨Zjl fun z hz=>hsee z (hv.us h21 z hz),?_⟩
   cases hl:lvs (Za3 u (v:Nat)).1 with
   | false=>rfl
   | true =>
    obtain⟨st,hst,e,hz⟩:=hv.lv hl
    have e':(show Int from (Za3 u (v:Nat)).2.2.2.2.2.1).toNat=st:=by rw [e,Int.toNat_natCast]
    rw [e']
    exact Zob fun z hz'=>hsee z (hz z hz')
 ·unfold Zmm
  split
  ·rename_i h2
   rcases h.en i hi with⟨e,_⟩ | ⟨_,_,_,hc⟩ | ⟨e,_⟩
   ·rw [h2] at e;cases e
   ·exact Zjl fun z hz=>by
     rw [List.mem_singleton] at hz;subst hz;exact hend i _ hi hc
   ·rw [h2] at e;cases e
  ·split
   ·rename_i h3
    rcases h.en i hi with⟨e,_⟩ | ⟨e,_⟩ | ⟨_,_,st,hst,e,hz⟩
    ·rw [h3] at e;cases e
    ·rw [h3] at e;cases e
    ·have e':(show Int from (Zda u i).2.2.2.2.2.1).toNat=st:=by rw [e,Int.toNat_natCast]
     rw [e']
     exact Zob fun z hz'=>hend i z hi (hz z hz')
   ·rfl
end
theorem UR.ends (h:UR u B D):Zm1 u=true:=by
 refine Zcj.2 fun i hi=>?_
 unfold Zhn
 rw [Bool.and_eq_true]
 refine⟨List.all_eq_true.2 fun k hk=>Zbe.2 (h.nx i hi k hk),?_⟩
 rcases h.en i hi with⟨e,e2⟩ | ⟨e,e2,_,hc⟩ | ⟨e,e2,st,hst,e3,_⟩
 ·rw [if_pos e];exact decide_eq_true e2
 ·rw [if_neg (by rw [e];decide),if_pos e,Bool.and_eq_true]
  refine⟨decide_eq_true e2,Zqr (Nat.le_refl _) (B:=B) (D:=D) (i:=i) fun z hz=>?_⟩
  rw [List.mem_singleton] at hz;subst hz;exact hc
 ·rw [if_neg (by rw [e];decide),if_neg (by rw [e];decide),if_pos e,Bool.and_eq_true]
  exact⟨decide_eq_true e2,Zbe.2 (by rw [e3];omega)⟩
theorem UR.led (h:UR u B D):Zni u=true:=by
 refine Zcj.2 fun i hi=>?_
 unfold Zwi
 rw [Bool.and_eq_true]
 constructor
 ·rw [Bool.or_eq_true]
  refine Or.inr (Zcj.2 fun k hk=>?_)
  unfold Zzs eqF
  rw [h.pr k hk,Bool.and_eq_true]
  refine⟨decide_eq_true rfl,?_⟩
  by_cases e:k=0
  ·subst e;rw [h.p0];rfl
  ·rw [decide_eq_false e];rfl
 ·rw [List.all_eq_true]
  intro t ht
  unfold Z1o
  rcases h.en i hi with⟨e,_⟩ | ⟨_,_,ht2,_⟩ | ⟨e,_⟩
  ·rw [decide_eq_false (by rw [e];decide)];rfl
  ·rw [decide_eq_true (ht2 t ht)];simp
  ·rw [decide_eq_false (by rw [e];decide)];rfl
theorem UR.vals (h:UR u B D){bl pl:List Int}(hS:Zg7 u bl pl):Zp4 u bl=true:=by
 refine Zcj.2 fun v hv=>?_
 have hc:=h.va v hv
 unfold Zve
 rw [Bool.and_eq_true,Bool.and_eq_true,Bool.and_eq_true]
 refine⟨⟨⟨hc.op,?_⟩,?_⟩,?_⟩
 ·by_cases h21:(Za3 u (v:Nat)).1=21
  ·obtain⟨p1,p2⟩:=hc.ph h21
   unfold Zcb
   rw [List.all_eq_true]
   intro z hz
   have hu:Zfb (Za3 u (v:Nat))=agV u v:=by
    unfold Zfb Zcm
    rw [h21];rfl
   rw [hu] at hz
   obtain⟨j,hj,rfl⟩:=List.mem_iff_getElem.1 hz
   obtain⟨q,_,_,hok⟩:=p2 j hj
   rw [List.getD_eq_getElem?_getD,List.getElem?_eq_getElem hj] at hok
   exact hok.there (Nat.le_refl _)
  ·exact Zqr (Nat.le_of_lt hv) (hc.us h21)
 ·cases hl:lvs (Za3 u (v:Nat)).1 with
  | false=>rfl
  | true =>
   obtain⟨st,hst,e,_⟩:=hc.lv hl
   rw [Zbe.2 (by rw [e];omega)];rfl
 ·split
  ·rename_i e;exact decide_eq_true (hc.pa e)
  ·split
   ·rename_i e
    refine decide_eq_true ?_
    unfold Zlg
    rw [(h.bl hS hv).1,Int.toNat_natCast]
    exact (hc.ph e).1
   ·split
    ·rename_i e
     obtain⟨a1,a2,a3⟩:=hc.pm e
     rw [Bool.and_eq_true,Bool.and_eq_true,Bool.not_eq_true']
     refine⟨⟨decide_eq_true a1,decide_eq_true a2⟩,?_⟩
     rw [List.any_eq_false]
     intro x hx
     obtain⟨w,hw,rfl⟩:=List.mem_iff_getElem.1 hx
     rw [List.length_take] at hw
     rw [List.getElem_take]
     have:=a3 w (by omega)
     rw [Zc6 (show w < nv u by omega)] at this
     rw [this];simp
    ·rfl
theorem UR.pre (h:UR u B D):∃ s,Zjj u=some s:=by
 obtain⟨s,hs⟩:=h.stand
 have hS:=Zex hs
 refine⟨s,?_⟩
 unfold Zjj
 rw [if_pos (by rw [Bool.and_eq_true];exact⟨h.sz,Zcj.2 fun k hk=>h.st k hk⟩),hs]
 simp [Option.filter,h.vals hS,h.ends,h.led]
theorem Zsc {u:UnT.D}{s:StS}(h:Zjj u=some s):Zcd u=some s:=by
 unfold Zjj at h
 split at h
 ·exact (Option.filter_eq_some_iff.1 h).1
 ·cases h
theorem UR.right (h:UR u B D){O I:List Int}(hT:Zw0 u O I)(hO:∃ sn,Zwd u (sn,O.reverse,[]))(hI:O.length=nb u→∀ a b:Nat,a < nb u→b < nb u→(upF I (a:Int) (nb u+2) (b:Int)=true↔¬ Av u a b)):Zht u O I=true:=by
  obtain⟨s,hp⟩:=h.pre
  have hs:=Zsc hp
  have hS:=Zex hs
  have hnx:=Zpy h.ends
  have hlen:O.length=nb u:=by
    obtain⟨sn,hV⟩:=hO
    have hz:(0:Int)∈O.reverse:=List.mem_of_getLast? (hV.ne rfl)
    have hall:∀ M k:Nat,k≤M→k < nb u→(k:Int)∈O.reverse:=by
      intro M
      induction M with
      | zero => intro k hk _;have:k=0:=by omega
                subst this;exact hz
      | succ M ih =>
        intro k hk hkn
        by_cases e:k=0
        · subst e;exact hz
        obtain⟨p,hpk,hpm⟩:=h.rc k hkn e
        have hpo:=ih p (by omega) (by omega)
        rw [← h.pr k hkn] at hpm
        have hkp:=((Zij hnx hkn).1 hpm).2
        have:=hV.cp _ hpo (k:Int) (by rw [Int.toNat_natCast];exact hkp)
        dsimp only at this
        rw [Int.toNat_natCast] at this
        rcases (hV.mem k hkn).1 this with h1 | ⟨i,h1⟩
        · exact h1
        · cases h1
    have hc:=hV.cnt
    dsimp only at hc
    have hsn:sn.count true=nb u:=by
      rw [← hV.sl]
      rw [List.count_eq_length]
      intro b hb
      obtain⟨k,hk,rfl⟩:=List.mem_iff_getElem.1 hb
      have hkn:k < nb u:=by rw [← hV.sl];exact hk
      have:=(hV.mem k hkn).2 (Or.inl (hall k k (Nat.le_refl _) hkn))
      dsimp only at this
      rw [List.getD_eq_getElem?_getD,List.getElem?_eq_getElem hk] at this
      exact this.symm
    rw [hsn] at hc
    simpa using hc
  unfold Zht
  rw [hp]
  dsimp only
  rw [Bool.and_eq_true]
  exact⟨decide_eq_true hlen,Zcj.2 fun i hi=>h.taken hS (hI hlen) hi⟩
end Go.Proofs.YtcgmchechmbmeaaDoor.base
end
