/- This text proves, in Zrh Lean, that what the document's Check reckons is what the program's Check reckons: reach, what is taken, all of it. No condition. -/
import Derived.Test.YtcgmchechmbmeaaDoorM21
set_option linter.unusedVariables false
set_option linter.unusedSimpArgs false
section
set_option maxRecDepth 100000
namespace Go.Proofs.YtcgmchechmbmeaaDoor.base
open Go.Sh gen
variable {u:UnT.D}
theorem Z03 {i:Nat}(h:i < nb u):(nxL u).getD i []=nxD u i:=by rw [Zx0 h];unfold nxD;rw [Zb4 h]
theorem Z98 (hnx:Znc u)(hb:0 < nb u){a b:Nat}:Wo (nxL u) a b↔Av u a b:=by
 constructor
 ·intro h
  induction h with
  | z h=>exact .z h
  | s _ hp hq hm hne ih =>
   rw [Zi9] at hp hq
   rw [Z03 hp] at hm
   exact .s ih hp hq ((Zis hnx hq).2 ⟨hp,hm⟩) hne
 ·intro h
  induction h with
  | z h=>exact .z h
  | s _ hp hq hm hne ih =>
   have:=(Zis hnx hq).1 hm
   exact .s ih (by rw [Zi9];exact hp) (by rw [Zi9];exact hq) (by rw [Z03 hp];exact this.2) hne
theorem Zrz (hnx:Znc u)(hb:0 < nb u){O:List Int}(hO:∃ sn,Zwy u (sn,O.reverse,[])):O.length=nb u↔Zdm (woB (nxL u) (nb u)) 0 (nb u)=true:=by
 obtain⟨sn,hV⟩:=hO
 have hz:(0:Int)∈O.reverse:=List.mem_of_getLast? (hV.ne rfl)
 have hin:∀ k:Nat,Wo (nxL u) (nb u) k→k < nb u→(k:Int)∈O.reverse:=by
  intro k h
  induction h with
  | z _=>intro _;exact hz
  | @s p k _ hp hq hm hne ih =>
   intro hk
   rw [Zi9] at hp hq
   have h1:=hV.cp _ (ih hp) (k:Int) (by rw [Int.toNat_natCast,← Z03 hp];exact hm)
   dsimp only at h1
   rw [Int.toNat_natCast] at h1
   rcases (hV.mem k hk).1 h1 with h2 | ⟨i,h2⟩
   ·exact h2
   ·simp at h2
 have hcnt:=hV.cnt
 dsimp only at hcnt
 rw [List.length_nil,Nat.add_zero,List.length_reverse] at hcnt
 have hnd:=hV.nd
 dsimp only at hnd
 rw [List.map_nil,List.append_nil] at hnd
 have hsl:sn.length=nb u:=hV.sl
 rw [Zco]
 constructor
 ·intro hl k hk
  rw [Zto]
  have hall:∀ k < nb u,sn.getD k false=true:=by
   intro k hk
   have:sn.count true=sn.length:=by omega
   rw [List.count_eq_length] at this
   have:=this _ (List.getElem_mem (show k < sn.length by omega))
   rw [List.getD_eq_getElem?_getD,List.getElem?_eq_getElem (by omega)]
   exact this.symm
  have hmem:∀ k < nb u,(k:Int)∈O.reverse:=by
   intro k hk
   rcases (hV.mem k hk).1 (hall k hk) with h2 | ⟨i,h2⟩
   ·exact h2
   ·simp at h2
  have hback:∀ (M:Nat) (x:Int),x∈O.reverse→(O.reverse.length - O.reverse.idxOf x)≤M→Wo (nxL u) (nb u) x.toNat:=by
   intro M
   induction M with
   | zero =>
    intro x hx hM
    have:=List.idxOf_lt_length_of_mem hx
    omega
   | succ M ih =>
    intro x hx hM
    by_cases e:x=0
    ·subst e;exact .z (by omega)
    obtain⟨y,h1,h2⟩:=hV.par x hx e
    rcases h2 with⟨i,h2⟩ | h2
    ·simp at h2
    obtain⟨l1,l2,hl,hx1,hy2⟩:=h2
    dsimp only at hl
    have hrx:=hV.rp x hx
    have hy:(y:Int)∈O.reverse:=by rw [hl];simp [hy2]
    have hry:=hV.rp _ hy
    have hyn:y < nb u:=by omega
    have hidx:O.reverse.idxOf x < O.reverse.idxOf (y:Int):=by
     rw [hl] at hnd ⊢
     have hyn1:(y:Int)∉l1:=fun h=>(List.nodup_append.1 hnd).2.2 _ h _ hy2 rfl
     rw [List.idxOf_append,if_pos hx1,List.idxOf_append,if_neg hyn1]
     have:=List.idxOf_lt_length_of_mem hx1
     omega
    have hw:=ih (y:Int) hy (by omega)
    rw [Int.toNat_natCast] at hw
    refine .s hw (by rw [Zi9];exact hyn) (by rw [Zi9];omega) ?_ (by omega)
    rw [Z03 hyn]
    have:((x.toNat:Nat):Int)=x:=by omega
    rw [this];exact h1
  have:=hback _ (k:Int) (hmem k hk) (Nat.le_refl _)
  rw [Int.toNat_natCast] at this
  exact this
 ·intro hall
  have:sn.count true=sn.length:=by
   rw [List.count_eq_length]
   intro b hbm
   obtain⟨k,hk,rfl⟩:=List.getElem_of_mem hbm
   have hkn:k < nb u:=by omega
   have:=(hV.mem k hkn).2 (Or.inl (hin k (Zto.1 (hall k hkn)) hkn))
   rw [List.getD_eq_getElem?_getD,List.getElem?_eq_getElem hk] at this
   exact this.symm
  omega
theorem Zl7 (hnx:Znc u)(hb0:0 < nb u){bl pl I:List Int}(hS:Zhh u bl pl)(hI:∀ a b:Nat,a < nb u→b < nb u→(upF I (a:Int) (nb u+2) (b:Int)=true↔¬ Av u a b)){b:Nat}(hb:b < nb u){k k' v:Int}(hv:0≤v∧v < nv u)
  (hk:bl.getD v.toNat 0=(b:Int)→(pl.getD v.toNat 0 < k↔pl.getD v.toNat 0 < k')):Zkx u bl pl I b k v=Zb5 (nxL u) bl pl v b k':=by
 obtain⟨n,rfl⟩:∃ n:Nat,v=(n:Int):=⟨v.toNat,by omega⟩
 rw [Int.toNat_natCast] at hk
 have hbb:=hS.bb n (by omega)
 obtain⟨x,hx⟩:∃ x:Nat,bl.getD n 0=(x:Int):=⟨(bl.getD n 0).toNat,by omega⟩
 unfold Zkx Zb5
 rw [Int.toNat_natCast,hx]
 rw [hx] at hk hbb
 have hxn:x < nb u:=by omega
 rw [Int.toNat_natCast,Int.toNat_natCast]
 by_cases e:(x:Int)=(b:Int)
 ·have:x=b:=by omega
  subst this
  have hu:upF I (x:Int) (nb u+2) (x:Int)=true:=(hI x x hb hb).2 (fun h=>Z9r h rfl)
  rw [if_pos rfl,hu,Bool.and_true,decide_eq_true rfl,Bool.true_and]
  have:=hk rfl
  by_cases h:pl.getD n 0 < k
  ·rw [decide_eq_true (this.1 h),decide_eq_false (show ¬ k≤pl.getD n 0 by omega)];rfl
  ·rw [decide_eq_false (fun h'=>h (this.2 h')),decide_eq_true (show k≤pl.getD n 0 by omega)];rfl
 ·rw [if_neg e,decide_eq_false e,Bool.false_and,Bool.not_false,Bool.true_and]
  rw [Bool.eq_iff_iff,hI x b hxn hb,Zq3,Z98 hnx hb0]
theorem Zmm {l:List Int}{p q:Int→Bool}(h:∀ x∈l,p x=q x):l.all p=l.all q:=by
 induction l with
 | nil=>rfl
 | cons x r ih=>rw [List.all_cons,List.all_cons,h x (by simp),ih (fun y hy=>h y (by simp [hy]))]
theorem Zrf (hnx:Znc u)(hb0:0 < nb u){bl pl I:List Int}(hS:Zhh u bl pl)(hI:∀ a b:Nat,a < nb u→b < nb u→(upF I (a:Int) (nb u+2) (b:Int)=true↔¬ Av u a b)){b:Nat}(hb:b < nb u){k k':Int}(fs:List Zei.D)(hv:∀ v∈Zbl fs,(0:Int)≤v∧v < nv u)
  (hk:∀ v:Int,0≤v→v < nv u→bl.getD v.toNat 0=(b:Int)→(pl.getD v.toNat 0 < k↔pl.getD v.toNat 0 < k')):Zfz u bl pl I b k fs=(Zbl fs).all fun a=>Zb5 (nxL u) bl pl a b k':=by
 unfold Zfz
 induction fs with
 | nil=>rfl
 | cons f r ih =>
  have hc:Zbl (f::r)=Zty f++Zbl r:=by unfold Zbl;rw [List.flatMap_cons]
  rw [hc] at hv ⊢
  rw [List.all_cons,List.all_append,ih (fun v h=>hv v (by simp [h]))]
  congr 1
  unfold Zn4 Zgx Zty
  rw [List.all_append]
  congr 1
  ·exact Zmm fun x hx=>by
    have:=hv x (by unfold Zty;simp [hx])
    exact Zl7 hnx hb0 hS hI hb this (hk x this.1 this.2)
  ·exact Zmm fun x hx=>by
    have:=hv x (by unfold Zty;simp [hx])
    exact Zl7 hnx hb0 hS hI hb this (hk x this.1 this.2)
structure TkA (u:UnT.D)(bl pl:List Int):Prop where
 nx:Znc u
 b0:0 < nb u
 nvs:nv u≤3000
 S:Zhh u bl pl
 all:∀ n < nv u,∃ b < nb u,∃ q < (vlD u b).length,(vlD u b).getD q 0=(n:Int)∧bl.getD n 0=(b:Int)∧pl.getD n 0=(q:Int)
 us:∀ n < nv u,∀ z∈Zfj (Za0 u (n:Nat)),(0:Int)≤z∧z < nv u
 st:∀ s < ns u,∀ v∈Zbl (stD u s),(0:Int)≤v∧v < nv u
 vst:∀ n < nv u,lvs (Za0 u (n:Nat)).1=true→(0:Int)≤(Za0 u (n:Nat)).2.2.2.2.2.1∧(show Int from (Za0 u (n:Nat)).2.2.2.2.2.1) < ns u
 cond:∀ b < nb u,(Zcl u b).2.1=2→(0:Int)≤(Zcl u b).2.2.1∧(show Int from (Zcl u b).2.2.1) < nv u
 bst:∀ b < nb u,(Zcl u b).2.1=3→(0:Int)≤(Zcl u b).2.2.2.2.2.1∧(show Int from (Zcl u b).2.2.2.2.2.1) < ns u
 A:∀ k < nb u,(Zak u).getD k []=prD u k
 rl:∀ b < nb u,(vlD u b).length≤nv u
theorem TkA.pl_lt {bl pl:List Int}(h:TkA u bl pl){v:Int}(hv:0≤v∧v < nv u):∃ b < nb u,bl.getD v.toNat 0=(b:Int)∧pl.getD v.toNat 0 < (vlD u b).length:=by
 obtain⟨n,rfl⟩:∃ n:Nat,v=(n:Int):=⟨v.toNat,by omega⟩
 obtain⟨b,hb,q,hq,h1,h2,h3⟩:=h.all n (by omega)
 rw [Int.toNat_natCast]
 exact⟨b,hb,h2,by rw [h3];omega⟩
theorem TkA.big {bl pl:List Int}(h:TkA u bl pl){b:Nat}(hb:b < nb u){v:Int}(hv:0≤v∧v < nv u):bl.getD v.toNat 0=(b:Int)→(pl.getD v.toNat 0 < ((vlD u b).length:Int)↔pl.getD v.toNat 0 < 1073741824):=by
 intro e
 obtain⟨b',hb',h1,h2⟩:=h.pl_lt hv
 have:b'=b:=by omega
 subst this
 have:=h.rl b' hb'
 have:=h.nvs
 exact⟨fun _=>by omega,fun _=>h2⟩
theorem Z8a {bl pl I:List Int}(h:TkA u bl pl)(hI:∀ a b:Nat,a < nb u→b < nb u→(upF I (a:Int) (nb u+2) (b:Int)=true↔¬ Av u a b)):∀ (l p:List Int),(∀ z∈l,(0:Int)≤z∧z < nv u)→(∀ z∈p,(0:Int)≤z∧z < nb u)→Z0d u bl pl I l p=Zvx (nxL u) bl pl l p:=by
 intro l
 induction l with
 | nil=>intro p _ _;cases p <;> rfl
 | cons a r ih =>
  intro p hl hp
  cases p with
  | nil=>rfl
  | cons q t =>
   rw [Z0d,Zvx,ih t (fun z hz=>hl z (by simp [hz])) (fun z hz=>hp z (by simp [hz]))]
   congr 1
   unfold Zgx
   rw [List.all_cons,List.all_nil,Bool.and_true]
   obtain⟨q1,q2⟩:=hp q (by simp)
   obtain⟨n,rfl⟩:∃ n:Nat,q=(n:Int):=⟨q.toNat,by omega⟩
   rw [Int.toNat_natCast]
   have ha:=hl a (by simp)
   exact Zl7 h.nx h.b0 h.S hI (by omega) ha (h.big (by omega) ha)
theorem Zxy {bl pl I:List Int}(h:TkA u bl pl)(hI:∀ a b:Nat,a < nb u→b < nb u→(upF I (a:Int) (nb u+2) (b:Int)=true↔¬ Av u a b)){b k n:Nat}(hb:b < nb u)(hn:n < nv u):Zom u bl pl I b k (n:Nat)=Z0p u (nxL u) (Zak u) bl pl b k (n:Nat):=by
 unfold Zom Z0p
 have hus:=h.us n hn
 by_cases e21:(Za0 u (n:Nat)).1=21
 ·have eu:Zfj (Za0 u (n:Nat))=(Za0 u (n:Nat)).2.2.2.2.1:=by unfold Zfj Zcs;rw [e21];rfl
  have el:lvs (Za0 u (n:Nat)).1=false:=by rw [e21];rfl
  rw [if_pos e21,if_pos e21,el,Bool.not_false,Bool.true_or,Bool.and_true,← eu,h.A b hb]
  exact Z8a h hI _ _ hus (fun z hz=>by rw [← h.A b hb] at hz;exact Zgv u b z hz)
 ·rw [if_neg e21,if_neg e21]
  congr 1
  ·unfold Zgx
   exact Zmm fun x hx=>Zl7 h.nx h.b0 h.S hI hb (hus x hx) (fun _=>Iff.rfl)
  ·by_cases hl:lvs (Za0 u (n:Nat)).1=true
   ·obtain⟨v1,v2⟩:=h.vst n hn hl
    congr 1
    unfold Zub
    exact Zrf h.nx h.b0 h.S hI hb _ (h.st _ (by have v2':(show Int from (Za0 u (n:Nat)).2.2.2.2.2.1) < ns u:=v2;have v1':(0:Int)≤(show Int from (Za0 u (n:Nat)).2.2.2.2.2.1):=v1;omega)) (fun _ _ _ _=>Iff.rfl)
   ·rw [Bool.not_eq_true] at hl
    rw [hl];rfl
theorem Zqz {bl pl I:List Int}(h:TkA u bl pl)(hI:∀ a b:Nat,a < nb u→b < nb u→(upF I (a:Int) (nb u+2) (b:Int)=true↔¬ Av u a b)){b:Nat}(hb:b < nb u):∀ (l:List Int) (k:Nat),(∀ z∈l,(0:Int)≤z∧z < nv u)→Zh8 u bl pl I b k l=Znv u (nxL u) (Zak u) bl pl b k l:=by
 intro l
 induction l with
 | nil=>intro k _;rfl
 | cons v r ih =>
  intro k hl
  obtain⟨v1,v2⟩:=hl v (by simp)
  obtain⟨n,rfl⟩:∃ n:Nat,v=(n:Int):=⟨v.toNat,by omega⟩
  rw [Zh8,Znv,ih _ (fun z hz=>hl z (by simp [hz])),Zxy h hI hb (by omega)]
theorem Zrk {bl pl I:List Int}(h:TkA u bl pl)(hI:∀ a b:Nat,a < nb u→b < nb u→(upF I (a:Int) (nb u+2) (b:Int)=true↔¬ Av u a b)){b:Nat}(hb:b < nb u):Zm0 u bl pl I b=Zvb u (nxL u) bl pl b (Zcl u b):=by
 unfold Zm0 Zvb
 by_cases e2:(Zcl u b).2.1=2
 ·have hc:=h.cond b hb e2
  rw [if_pos e2,decide_eq_true e2,decide_eq_false (show ¬ (Zcl u b).2.1=3 by rw [e2];decide)]
  rw [Bool.not_true,Bool.false_or,Bool.not_false,Bool.true_or,Bool.and_true]
  unfold Zgx
  rw [List.all_cons,List.all_nil,Bool.and_true]
  exact Zl7 h.nx h.b0 h.S hI hb hc (h.big hb hc)
 ·rw [if_neg e2,decide_eq_false e2,Bool.not_false,Bool.true_or,Bool.true_and]
  by_cases e3:(Zcl u b).2.1=3
  ·obtain⟨v1,v2⟩:=h.bst b hb e3
   rw [if_pos e3,decide_eq_true e3,Bool.not_true,Bool.false_or]
   unfold Zub
   exact Zrf h.nx h.b0 h.S hI hb _ (h.st _ (by have v2':(show Int from (Zcl u b).2.2.2.2.2.1) < ns u:=v2;have v1':(0:Int)≤(show Int from (Zcl u b).2.2.2.2.2.1):=v1;omega)) (fun v a1 a2=>h.big hb ⟨a1,a2⟩)
  ·rw [if_neg e3,decide_eq_false e3];rfl
theorem Zyo (L A:List (List Int))(bl pl:List Int):∀ (bs:List Zcj.D) (b:Nat),Zm u L A bl pl b bs=true↔∀ (j:Nat) (x:Zcj.D),bs[j]?=some x→Znv u L A bl pl (b+j) 0 x.1=true∧Zvb u L bl pl (b+j) x=true:=by
 intro bs
 induction bs with
 | nil=>intro b;simp [Zm]
 | cons y r ih =>
  intro b
  rw [Zm,Bool.and_eq_true,Bool.and_eq_true,ih]
  constructor
  ·rintro⟨⟨h1,h2⟩,h3⟩ j x hx
   cases j with
   | zero=>simp only [List.getElem?_cons_zero,Option.some.injEq] at hx;subst hx;exact⟨h1,h2⟩
   | succ j =>
    simp only [List.getElem?_cons_succ] at hx
    have:=h3 j x hx
    rw [show b+(j+1)=b+1+j by omega];exact this
  ·intro h
   refine⟨h 0 y rfl,fun j x hx=>?_⟩
   have:=h (j+1) x (by simpa using hx)
   rw [show b+(j+1)=b+1+j by omega] at this;exact this
theorem Zry {bl pl I:List Int}(h:TkA u bl pl)(hI:∀ a b:Nat,a < nb u→b < nb u→(upF I (a:Int) (nb u+2) (b:Int)=true↔¬ Av u a b)):Zdm (Zia u bl pl I) 0 (nb u)=true↔Zm u (nxL u) (Zak u) bl pl 0 u.2.2.2.1=true:=by
 rw [Zco,Zyo]
 have hvl:∀ b < nb u,∀ z∈vlD u b,(0:Int)≤z∧z < nv u:=by
  intro b hb z hz
  obtain⟨q,hq,hqv⟩:=List.getElem_of_mem hz
  obtain⟨n,g1,g2,_⟩:=h.S.at_ b hb q hq
  have:(vlD u b).getD q 0=z:=by rw [List.getD_eq_getElem?_getD,List.getElem?_eq_getElem hq,← hqv];rfl
  omega
 constructor
 ·intro hh j x hx
  obtain⟨hj,rfl⟩:=Zt2 hx
  have:=hh j hj
  unfold Zia at this
  rw [Bool.and_eq_true,Zqz h hI hj _ _ (hvl j hj),Zrk h hI hj] at this
  rw [Nat.zero_add];exact this
 ·intro hh b hb
  have:=hh b (Zcl u b) (by rw [Zb4 hb];exact List.getElem?_eq_getElem hb)
  rw [Nat.zero_add] at this
  unfold Zia
  rw [Bool.and_eq_true,Zqz h hI hb _ _ (hvl b hb),Zrk h hI hb]
  exact this
theorem Zxq:∀ (l:List Int) {s t:SeS},Zhb u l s=some t→∀ v∈l,Zat v (nv u)=true:=by
 intro l
 induction l with
 | nil=>intro s t _ v hv;simp at hv
 | cons x r ih =>
  intro s t h v hv
  rw [Zhb] at h
  split at h
  ·cases h
  ·rename_i hc
   rcases List.mem_cons.1 hv with rfl | hv
   ·simp only [Bool.or_eq_true,not_or,Bool.not_eq_true',Bool.not_eq_false] at hc
    exact hc.1
   ·exact ih h v hv
theorem Zz0:∀ (bs:List Zcj.D) {s t:SeS},Zky u bs s=some t→∀ x∈bs,∀ v∈(show List Int from x.1),Zat v (nv u)=true:=by
 intro bs
 induction bs with
 | nil=>intro s t _ x hx;simp at hx
 | cons y r ih =>
  intro s t h x hx
  rw [Zky] at h
  cases hq:Zhb u y.1 s with
  | none=>rw [hq] at h;cases h
  | some s' =>
   rw [hq,Option.bind_some] at h
   rcases List.mem_cons.1 hx with rfl | hx
   ·exact Zxq _ hq
   ·exact ih h x hx
theorem Zjc (h:Zec u=true):Znn u=true∧(show List StT.D from u.2.2.2.2.1).all (fun s=>Zsb u s.1)=true∧(show List Zb.D from u.2.2.1).all (Ziw u)=true∧(show List Zcj.D from u.2.2.2.1).all (Zq8 u)=true∧∃ t,Zky u u.2.2.2.1 (List.replicate (nv u) false,0)=some t∧t.2=nv u:=by
 unfold Zec at h
 simp only [Bool.and_eq_true] at h
 obtain⟨h1,h2,h3,h4⟩:=h
 rw [Z3f,Bool.and_eq_true] at h4
 refine⟨h1,h2,h3,h4.1,?_⟩
 cases hq:Zky u u.2.2.2.1 (List.replicate (nv u) false,0) with
 | none=>rw [hq] at h4;exact absurd h4.2 (by simp)
 | some t=>rw [hq] at h4;exact⟨t,rfl,of_decide_eq_true h4.2⟩
theorem Zq0 (h:Zec u=true):Znu u:=by
 obtain⟨_,_,h3,_⟩:=Zjc h
 rw [List.all_eq_true] at h3
 intro v hv
 have:=h3 v hv
 unfold Ziw Zhs at this
 simp only [Bool.and_eq_true,Bool.not_eq_true',Bool.or_eq_false_iff,decide_eq_false_iff_not] at this
 obtain⟨⟨⟨⟨⟨⟨g1,g2⟩,_⟩,_⟩,_⟩,_⟩,_⟩:=this
 unfold Zpq
 simp only [Bool.and_eq_true,decide_eq_true_eq]
 obtain⟨o,ho⟩:∃ o:Int,v.1=o:=⟨_,rfl⟩
 rw [ho] at g1 g2 ⊢
 omega
theorem Zmf {k:Int}(h:Ze4 u k=true):(0:Int)≤k∧k < nv u:=by
 unfold Ze4 at h
 rw [Bool.and_eq_true] at h
 exact Zbd.1 h.1
theorem Zp5 (h:Zec u=true):Zyh u:=by
 have ho:=Zq0 h
 obtain⟨h1,h2,h3,h4,t,h5,h6⟩:=Zjc h
 rw [Zpn] at h1
 obtain⟨s1,s2,s3,s4⟩:=Zr9 h1
 rw [List.all_eq_true] at h2 h3 h4
 have he:∀ b∈u.2.2.2.1,Zht u b=true:=fun b hb=>by rw [← Ztu ho];exact h4 b hb
 have hval:∀ v∈u.2.2.1,Zhs (ns u) v.1 (vNf v) (show Int from v.2.2.2.2.2.1) v.2.2.2.2.1=true∧(Zcs v.1 v.2.1 v.2.2.1 v.2.2.2.2.1).all (Ze4 u)=true:=fun v hv=>by
  have:=h3 v hv
  unfold Ziw at this
  rw [Bool.and_eq_true] at this
  exact this
 have hvo:∀ v∈u.2.2.1,((!lvs v.1 || Zat (show Int from v.2.2.2.2.2.1) (ns u)) && (if v.1=20 then decide (List.length v.2.2.2.2.1=1) else if v.1=1 then Zat (vNf v) 40 else true))=true:=fun v hv=>by
  rw [← Zuq (ho v hv)];exact (hval v hv).1
 refine⟨s1,s2,s4,s3,fun b hb=>?_,fun b hb v hv=>Zbd.1 (Zz0 _ h5 b hb v hv),fun b hb e=>?_,fun b hb e=>?_,fun v hv z hz=>?_,fun v hv e=>?_,fun v hv e=>?_,fun s hs=>?_⟩
 ·obtain⟨g1,g2⟩:=Zkh (he b hb)
  refine⟨?_,g1⟩
  have:=he b hb
  unfold Zht at this
  rw [Bool.and_eq_true] at this
  have g:=this.2
  by_cases e1:b.2.1=1
  ·rw [if_pos e1] at g;have:=of_decide_eq_true g;omega
  rw [if_neg e1] at g
  by_cases e2:b.2.1=2
  ·rw [if_pos e2,Bool.and_eq_true] at g;have:=of_decide_eq_true g.1;omega
  rw [if_neg e2] at g
  by_cases e3:b.2.1=3
  ·rw [if_pos e3,Bool.and_eq_true] at g;have:=of_decide_eq_true g.1;omega
  rw [if_neg e3] at g;cases g
 ·have:=he b hb
  unfold Zht at this
  rw [Bool.and_eq_true] at this
  have g:=this.2
  rw [if_neg (by rw [e];decide),if_pos e,Bool.and_eq_true] at g
  exact Zgm g.2 _ (by simp)
 ·have:=he b hb
  unfold Zht at this
  rw [Bool.and_eq_true] at this
  have g:=this.2
  rw [if_neg (by rw [e];decide),if_neg (by rw [e];decide),if_pos e,Bool.and_eq_true] at g
  exact Zbd.1 g.2
 ·have:=(hval v hv).2
  rw [List.all_eq_true] at this
  exact Zmf (this z hz)
 ·have:=hvo v hv
  rw [Bool.and_eq_true,if_neg (by rw [e];decide),if_pos e] at this
  exact Zbd.1 this.2
 ·have:=hvo v hv
  rw [Bool.and_eq_true,e,Bool.not_true,Bool.false_or] at this
  exact Zbd.1 this.1
 ·have:=h2 s hs
  unfold Zsb at this
  simp only [Bool.and_eq_true,Bool.not_eq_true',decide_eq_false_iff_not] at this
  obtain⟨⟨g1,g2⟩,g3,g4⟩:=this
  refine⟨by omega,fun f hf=>?_,fun v hv=>?_⟩
  ·rw [List.all_eq_true] at g3
   have:=g3 f hf
   unfold Zh0 at this
   simp only [Bool.and_eq_true,Bool.not_eq_true',decide_eq_false_iff_not] at this
   omega
  ·rw [List.all_eq_true] at g4
   exact Zmf (g4 v hv)
theorem Zm6 {s:StS}(hs:Zcf u=some s):Zhu 0 u.2.2.2.1 (List.replicate (nv u) 0)=s.1:=by
 have hS:=Ze5 hs
 obtain⟨_,_,e1,_⟩:=Zh6.1 hs
 apply List.ext_getElem?
 intro n
 by_cases hn:n < nv u
 ·have hb:=hS.bb n hn
  have h2:=Zzo u.2.2.2.1 0 (List.replicate (nv u) (-1)) (List.replicate (nv u) 0) (by simp) n
  rw [← e1] at h2
  have hl1:n < (Zhu 0 u.2.2.2.1 (List.replicate (nv u) 0)).length:=by rw [Zqo];simpa using hn
  have hl2:n < s.1.length:=by rw [hS.lb];exact hn
  have e3:s.1.getD n 0=(Zhu 0 u.2.2.2.1 (List.replicate (nv u) 0)).getD n 0:=by
   rcases h2 with h | ⟨h,_⟩
   ·exact h
   ·exfalso
    rw [h] at hb
    simp [List.getD_eq_getElem?_getD,hn] at hb
  rw [List.getD_eq_getElem?_getD,List.getD_eq_getElem?_getD,List.getElem?_eq_getElem hl1,List.getElem?_eq_getElem hl2] at e3
  rw [List.getElem?_eq_getElem hl1,List.getElem?_eq_getElem hl2]
  simp only [Option.getD_some] at e3
  rw [e3]
 ·rw [List.getElem?_eq_none (by rw [Zqo];simpa using hn),List.getElem?_eq_none (by rw [hS.lb];omega)]
theorem Zrq (A:List (List Int)):((List.range u.2.2.2.1.length).all fun j=>((u.2.2.2.1[j]?).map ((fun j x=>(show List Int from x.1).all (phN u A j)) (0+j))).getD true)=true↔∀ b < nb u,∀ v∈vlD u b,phN u A b v=true:=by
 rw [List.all_eq_true]
 constructor
 ·intro h b hb v hv
  have:=h b (List.mem_range.2 hb)
  rw [List.getElem?_eq_getElem (show b < u.2.2.2.1.length from hb)] at this
  simp only [Option.map_some,Option.getD_some,Nat.zero_add] at this
  rw [List.all_eq_true] at this
  exact this v (by unfold vlD at hv;rw [Zb4 hb] at hv;exact hv)
 ·intro h j hj
  have hj':j < nb u:=List.mem_range.1 hj
  rw [List.getElem?_eq_getElem (show j < u.2.2.2.1.length from hj')]
  simp only [Option.map_some,Option.getD_some,Nat.zero_add]
  rw [List.all_eq_true]
  intro v hv
  exact h j hj' v (by unfold vlD;rw [Zb4 hj'];exact hv)
theorem Zzm (h:Zdm (Zlv u) 0 (nb u)=true):∀ k < nb u,(Zak u).getD k []=prD u k:=by
 rw [Zco] at h
 intro k hk
 have:=h k hk
 unfold Zlv Zgp at this
 rw [Bool.and_eq_true] at this
 exact (of_decide_eq_true this.1).symm
theorem Z32 (h1:Zec u=true)(h2:Zdm (Zlv u) 0 (nb u)=true)(h3:((Zak u).getD 0 []).length=0){a:List Int × List Int}(h4:Zfv u (Zak u) 0 u.2.2.2.1 (List.replicate (nv u) 0,List.replicate (nv u) 0)=some a)(h5:Zkb u.2.2.1 (List.replicate 40 false)=true) :
  ∃ s,Zjp u=some s∧s.1=a.1∧s.2.1=a.2:=by
 have ho:=Zq0 h1
 obtain⟨g1,g2,g3,g4,t,g5,g6⟩:=Zjc h1
 have sk:=Zp5 h1
 rw [Zrp (Zak u) u.2.2.2.1 0 _ _ rfl] at h4
 split at h4
 ·rename_i hc
  rw [Bool.and_eq_true] at hc
  rw [Option.some.injEq] at h4
  obtain⟨s,hs⟩:=Zh6.2 g5 g6 hc.1
  obtain⟨_,_,e1,e2⟩:=Zh6.1 hs
  have hen:=(Zw8 ho).2 g4
  have hnx:Znc u:=fun b hb=>sk.nx b hb
  have hld:=(Zy0 sk.hb0 hnx hen).2 ⟨h2,h3⟩
  have hph:=(Zrq (Zak u)).1 hc.2
  have hvl:=(Zya ho hs (Zzm h2)).2 ⟨g3,hph,h5⟩
  refine⟨s,?_,by rw [← h4];exact (Zm6 hs).symm,by rw [← h4];exact e2⟩
  unfold Zjp
  rw [Zpn] at g1
  rw [if_pos (by rw [g1,← Zu4 ho,g2];rfl),hs,Option.filter_some,if_pos (by rw [hvl,hen,hld];rfl)]
 ·cases h4
theorem Zzh {s:StS}(h:Zjp u=some s):Zec u=true∧Zdm (Zlv u) 0 (nb u)=true∧((Zak u).getD 0 []).length=0∧Zfv u (Zak u) 0 u.2.2.2.1 (List.replicate (nv u) 0,List.replicate (nv u) 0)=some (s.1,s.2.1)∧Zkb u.2.2.1 (List.replicate 40 false)=true:=by
 have hs:=Zs4 h
 unfold Zjp at h
 split at h
 ·rename_i hc
  rw [Bool.and_eq_true] at hc
  rw [hs,Option.filter_some] at h
  split at h
  ·rename_i hd
   simp only [Bool.and_eq_true] at hd
   obtain⟨⟨hvl,hen⟩,hld⟩:=hd
   have ho:Znu u:=by
    intro v hv
    obtain⟨n,hn,rfl⟩:=List.getElem_of_mem hv
    have hn':n < nv u:=hn
    have:=Zco.1 hvl n hn'
    unfold Zva at this
    simp only [Bool.and_eq_true] at this
    rw [Zdb hn'] at this
    exact this.1.1.1
   have hb0:=Zkj hc.1
   have hnx:=Zng hen
   obtain⟨h2,h3⟩:=(Zy0 hb0 hnx hen).1 hld
   obtain⟨g3,hph,h5⟩:=(Zya ho hs (Zzm h2)).1 hvl
   obtain⟨⟨t,g5,g6⟩,hhd,e1,e2⟩:=Zh6.1 hs
   have hsh:Zec u=true:=by
    unfold Zec
    rw [Zpn,hc.1,Zu4 ho,hc.2,g3,Z3f,g5]
    have:=(Zw8 ho).1 hen
    have this':(List.all u.2.2.2.1 (Zq8 u))=true:=this
    rw [this']
    simp [g6]
   refine⟨hsh,h2,h3,?_,h5⟩
   rw [Zrp (Zak u) u.2.2.2.1 0 _ _ rfl,if_pos (by rw [hhd,Bool.true_and];exact (Zrq (Zak u)).2 hph),Zm6 hs,← e2]
  ·cases h
 ·cases h
theorem Z21 {s:StS}(h:Zjp u=some s):TkA u s.1 s.2.1:=by
 obtain⟨h1,h2,h3,h4,h5⟩:=Zzh h
 have hs:=Zs4 h
 have sk:=Zp5 h1
 refine⟨fun b hb=>sk.nx b hb,sk.hb0,sk.hv,Ze5 hs,fun n hn=>Zr1 hs hn,fun n hn=>sk.us _ (Zg1 hn),fun k hk v hv=>?_,fun n hn=>sk.vst _ (Zg1 hn),fun b hb=>sk.cond _ (Zfk hb),fun b hb=>sk.bst _ (Zfk hb),Zzm h2,fun b hb=>Zwf hs hb⟩
 rw [Zi4 hk] at hv
 exact (sk.st _ (List.getElem_mem hk)).2.2 v hv
theorem Zyu {O I:List Int}(hO:∀ s,Zjp u=some s→(∃ sn,Zwy u (sn,O.reverse,[]))∧(O.length=nb u→∀ a b:Nat,a < nb u→b < nb u→(upF I (a:Int) (nb u+2) (b:Int)=true↔¬ Av u a b))):Zjf u=Zhy u O I:=by
 rw [Bool.eq_iff_iff]
 constructor
 ·intro h
  unfold Zjf Zv0 Zxe at h
  simp only [Bool.and_eq_true,decide_eq_true_eq] at h
  obtain⟨h1,h2,h3,h4,h5⟩:=h
  cases hq:Zfv u (Zak u) 0 u.2.2.2.1 (List.replicate (nv u) 0,List.replicate (nv u) 0) with
  | none=>rw [hq] at h5;cases h5
  | some a =>
   rw [hq] at h5
   simp only [Bool.and_eq_true] at h5
   obtain⟨s,hp,e1,e2⟩:=Z32 h1 h2 h3 hq h5.1
   have tk:=Z21 hp
   obtain⟨o1,o2⟩:=hO s hp
   have hlen:=(Zrz tk.nx tk.b0 o1).2 h4
   unfold Zhy
   rw [hp]
   simp only [Bool.and_eq_true,decide_eq_true_eq]
   refine⟨hlen,?_⟩
   rw [Zry tk (o2 hlen),e1,e2]
   exact h5.2
 ·intro h
  unfold Zhy at h
  cases hp:Zjp u with
  | none=>rw [hp] at h;cases h
  | some s =>
   rw [hp] at h
   simp only [Bool.and_eq_true,decide_eq_true_eq] at h
   obtain⟨hlen,htk⟩:=h
   obtain⟨h1,h2,h3,h4,h5⟩:=Zzh hp
   have tk:=Z21 hp
   obtain⟨o1,o2⟩:=hO s hp
   rw [Zry tk (o2 hlen)] at htk
   unfold Zjf Zv0 Zxe
   rw [h1,h2,h4,(Zrz tk.nx tk.b0 o1).1 hlen,decide_eq_true h3]
   simp only [Bool.true_and]
   rw [h5,htk];rfl
end Go.Proofs.YtcgmchechmbmeaaDoor.base
end
