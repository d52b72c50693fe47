/- This text proves, in plain Lean, that what the document's Check reckons is what the program's Check reckons: reach, what is taken, all of it. No condition. -/
import Derived.Test.YtcgmchechmbmeaaDoorM21
set_option linter.unusedVariables false
set_option linter.unusedSimpArgs false
section
set_option maxRecDepth 100000
namespace Go.Proofs.YtcgmchechmbmeaaDoor.base
open Go.Sh gen
variable {u:UnT.D}
theorem Z0r {i:Nat}(h:i < nb u):(nxL u).getD i []=nxD u i:=by rw [Zyz h];unfold nxD;rw [Zb2 h]
theorem Z8t (hnx:Zm4 u)(hb:0 < nb u){a b:Nat}:Wo (nxL u) a b↔Av u a b:=by
 constructor
 ·intro h
  induction h with
  | z h=>exact .z h
  | s _ hp hq hm hne ih =>
   rw [Zi6] at hp hq
   rw [Z0r hp] at hm
   exact .s ih hp hq ((Zij hnx hq).2 ⟨hp,hm⟩) hne
 ·intro h
  induction h with
  | z h=>exact .z h
  | s _ hp hq hm hne ih =>
   have:=(Zij hnx hq).1 hm
   exact .s ih (by rw [Zi6];exact hp) (by rw [Zi6];exact hq) (by rw [Z0r hp];exact this.2) hne
theorem Zqs (hnx:Zm4 u)(hb:0 < nb u){O:List Int}(hO:∃ sn,Zwd u (sn,O.reverse,[])):O.length=nb u↔Zdo (woB (nxL u) (nb u)) 0 (nb u)=true:=by
 obtain⟨sn,hV⟩:=hO
 have hz:(0:Int)∈O.reverse:=List.mem_of_getLast? (hV.ne rfl)
 have hin:∀ k:Nat,Wo (nxL u) (nb u) k→k < nb u→(k:Int)∈O.reverse:=by
  intro k h
  induction h with
  | z _=>intro _;exact hz
  | @s p k _ hp hq hm hne ih =>
   intro hk
   rw [Zi6] at hp hq
   have h1:=hV.cp _ (ih hp) (k:Int) (by rw [Int.toNat_natCast,← Z0r hp];exact hm)
   dsimp only at h1
   rw [Int.toNat_natCast] at h1
   rcases (hV.mem k hk).1 h1 with h2 | ⟨i,h2⟩
   ·exact h2
   ·simp at h2
 have hcnt:=hV.cnt
 dsimp only at hcnt
 rw [List.length_nil,Nat.add_zero,List.length_reverse] at hcnt
 have hnd:=hV.nd
 dsimp only at hnd
 rw [List.map_nil,List.append_nil] at hnd
 have hsl:sn.length=nb u:=hV.sl
 rw [Zcj]
 constructor
 ·intro hl k hk
  rw [Zso]
  have hall:∀ k < nb u,sn.getD k false=true:=by
   intro k hk
   have:sn.count true=sn.length:=by omega
   rw [List.count_eq_length] at this
   have:=this _ (List.getElem_mem (show k < sn.length by omega))
   rw [List.getD_eq_getElem?_getD,List.getElem?_eq_getElem (by omega)]
   exact this.symm
  have hmem:∀ k < nb u,(k:Int)∈O.reverse:=by
   intro k hk
   rcases (hV.mem k hk).1 (hall k hk) with h2 | ⟨i,h2⟩
   ·exact h2
   ·simp at h2
  have hback:∀ (M:Nat) (x:Int),x∈O.reverse→(O.reverse.length - O.reverse.idxOf x)≤M→Wo (nxL u) (nb u) x.toNat:=by
   intro M
   induction M with
   | zero =>
    intro x hx hM
    have:=List.idxOf_lt_length_of_mem hx
    omega
   | succ M ih =>
    intro x hx hM
    by_cases e:x=0
    ·subst e;exact .z (by omega)
    obtain⟨y,h1,h2⟩:=hV.par x hx e
    rcases h2 with⟨i,h2⟩ | h2
    ·simp at h2
    obtain⟨l1,l2,hl,hx1,hy2⟩:=h2
    dsimp only at hl
    have hrx:=hV.rp x hx
    have hy:(y:Int)∈O.reverse:=by rw [hl];simp [hy2]
    have hry:=hV.rp _ hy
    have hyn:y < nb u:=by omega
    have hidx:O.reverse.idxOf x < O.reverse.idxOf (y:Int):=by
     rw [hl] at hnd ⊢
     have hyn1:(y:Int)∉l1:=fun h=>(List.nodup_append.1 hnd).2.2 _ h _ hy2 rfl
     rw [List.idxOf_append,if_pos hx1,List.idxOf_append,if_neg hyn1]
     have:=List.idxOf_lt_length_of_mem hx1
     omega
    have hw:=ih (y:Int) hy (by omega)
    rw [Int.toNat_natCast] at hw
    refine .s hw (by rw [Zi6];exact hyn) (by rw [Zi6];omega) ?_ (by omega)
    rw [Z0r hyn]
    have:((x.toNat:Nat):Int)=x:=by omega
    rw [this];exact h1
  have:=hback _ (k:Int) (hmem k hk) (Nat.le_refl _)
  rw [Int.toNat_natCast] at this
  exact this
 ·intro hall
  have:sn.count true=sn.length:=by
   rw [List.count_eq_length]
   intro b hbm
   obtain⟨k,hk,rfl⟩:=List.getElem_of_mem hbm
   have hkn:k < nb u:=by omega
   have:=(hV.mem k hkn).2 (Or.inl (hin k (Zso.1 (hall k hkn)) hkn))
   rw [List.getD_eq_getElem?_getD,List.getElem?_eq_getElem hk] at this
   exact this.symm
  omega
theorem Zl5 (hnx:Zm4 u)(hb0:0 < nb u){bl pl I:List Int}(hS:Zg7 u bl pl)(hI:∀ a b:Nat,a < nb u→b < nb u→(upF I (a:Int) (nb u+2) (b:Int)=true↔¬ Av u a b)){b:Nat}(hb:b < nb u){k k' v:Int}(hv:0≤v∧v < nv u)
  (hk:bl.getD v.toNat 0=(b:Int)→(pl.getD v.toNat 0 < k↔pl.getD v.toNat 0 < k')):Zks u bl pl I b k v=Zb1 (nxL u) bl pl v b k':=by
 obtain⟨n,rfl⟩:∃ n:Nat,v=(n:Int):=⟨v.toNat,by omega⟩
 rw [Int.toNat_natCast] at hk
 have hbb:=hS.bb n (by omega)
 obtain⟨x,hx⟩:∃ x:Nat,bl.getD n 0=(x:Int):=⟨(bl.getD n 0).toNat,by omega⟩
 unfold Zks Zb1
 rw [Int.toNat_natCast,hx]
 rw [hx] at hk hbb
 have hxn:x < nb u:=by omega
 rw [Int.toNat_natCast,Int.toNat_natCast]
 by_cases e:(x:Int)=(b:Int)
 ·have:x=b:=by omega
  subst this
  have hu:upF I (x:Int) (nb u+2) (x:Int)=true:=(hI x x hb hb).2 (fun h=>Z9e h rfl)
  rw [if_pos rfl,hu,Bool.and_true,decide_eq_true rfl,Bool.true_and]
  have:=hk rfl
  by_cases h:pl.getD n 0 < k
  ·rw [decide_eq_true (this.1 h),decide_eq_false (show ¬ k≤pl.getD n 0 by omega)];rfl
  ·rw [decide_eq_false (fun h'=>h (this.2 h')),decide_eq_true (show k≤pl.getD n 0 by omega)];rfl
 ·rw [if_neg e,decide_eq_false e,Bool.false_and,Bool.not_false,Bool.true_and]
  rw [Bool.eq_iff_iff,hI x b hxn hb,Zrm,Z8t hnx hb0]
theorem Zmt {l:List Int}{p q:Int→Bool}(h:∀ x∈l,p x=q x):l.all p=l.all q:=by
 induction l with
 | nil=>rfl
 | cons x r ih=>rw [List.all_cons,List.all_cons,h x (by simp),ih (fun y hy=>h y (by simp [hy]))]
theorem Zr (hnx:Zm4 u)(hb0:0 < nb u){bl pl I:List Int}(hS:Zg7 u bl pl)(hI:∀ a b:Nat,a < nb u→b < nb u→(upF I (a:Int) (nb u+2) (b:Int)=true↔¬ Av u a b)){b:Nat}(hb:b < nb u){k k':Int}(fs:List Zeg.D)(hv:∀ v∈Zbh fs,(0:Int)≤v∧v < nv u)
  (hk:∀ v:Int,0≤v→v < nv u→bl.getD v.toNat 0=(b:Int)→(pl.getD v.toNat 0 < k↔pl.getD v.toNat 0 < k')):Zfo u bl pl I b k fs=(Zbh fs).all fun a=>Zb1 (nxL u) bl pl a b k':=by
 unfold Zfo
 induction fs with
 | nil=>rfl
 | cons f r ih =>
  have hc:Zbh (f::r)=Zs7 f++Zbh r:=by unfold Zbh;rw [List.flatMap_cons]
  rw [hc] at hv ⊢
  rw [List.all_cons,List.all_append,ih (fun v h=>hv v (by simp [h]))]
  congr 1
  unfold Zn6 Zgt Zs7
  rw [List.all_append]
  congr 1
  ·exact Zmt fun x hx=>by
    have:=hv x (by unfold Zs7;simp [hx])
    exact Zl5 hnx hb0 hS hI hb this (hk x this.1 this.2)
  ·exact Zmt fun x hx=>by
    have:=hv x (by unfold Zs7;simp [hx])
    exact Zl5 hnx hb0 hS hI hb this (hk x this.1 this.2)
structure TkA (u:UnT.D)(bl pl:List Int):Prop where
 nx:Zm4 u
 b0:0 < nb u
 nvs:nv u≤3000
 S:Zg7 u bl pl
 all:∀ n < nv u,∃ b < nb u,∃ q < (vlD u b).length,(vlD u b).getD q 0=(n:Int)∧bl.getD n 0=(b:Int)∧pl.getD n 0=(q:Int)
 us:∀ n < nv u,∀ z∈Zfb (Za3 u (n:Nat)),(0:Int)≤z∧z < nv u
 st:∀ s < ns u,∀ v∈Zbh (stD u s),(0:Int)≤v∧v < nv u
 vst:∀ n < nv u,lvs (Za3 u (n:Nat)).1=true→(0:Int)≤(Za3 u (n:Nat)).2.2.2.2.2.1∧(show Int from (Za3 u (n:Nat)).2.2.2.2.2.1) < ns u
 cond:∀ b < nb u,(Zda u b).2.1=2→(0:Int)≤(Zda u b).2.2.1∧(show Int from (Zda u b).2.2.1) < nv u
 bst:∀ b < nb u,(Zda u b).2.1=3→(0:Int)≤(Zda u b).2.2.2.2.2.1∧(show Int from (Zda u b).2.2.2.2.2.1) < ns u
 A:∀ k < nb u,(Zal u).getD k []=prD u k
 rl:∀ b < nb u,(vlD u b).length≤nv u
theorem TkA.pl_lt {bl pl:List Int}(h:TkA u bl pl){v:Int}(hv:0≤v∧v < nv u):∃ b < nb u,bl.getD v.toNat 0=(b:Int)∧pl.getD v.toNat 0 < (vlD u b).length:=by
 obtain⟨n,rfl⟩:∃ n:Nat,v=(n:Int):=⟨v.toNat,by omega⟩
 obtain⟨b,hb,q,hq,h1,h2,h3⟩:=h.all n (by omega)
 rw [Int.toNat_natCast]
 exact⟨b,hb,h2,by rw [h3];omega⟩
theorem TkA.big {bl pl:List Int}(h:TkA u bl pl){b:Nat}(hb:b < nb u){v:Int}(hv:0≤v∧v < nv u):bl.getD v.toNat 0=(b:Int)→(pl.getD v.toNat 0 < ((vlD u b).length:Int)↔pl.getD v.toNat 0 < 1073741824):=by
 intro e
 obtain⟨b',hb',h1,h2⟩:=h.pl_lt hv
 have:b'=b:=by omega
 subst this
 have:=h.rl b' hb'
 have:=h.nvs
 exact⟨fun _=>by omega,fun _=>h2⟩
theorem Z53 {bl pl I:List Int}(h:TkA u bl pl)(hI:∀ a b:Nat,a < nb u→b < nb u→(upF I (a:Int) (nb u+2) (b:Int)=true↔¬ Av u a b)):∀ (l p:List Int),(∀ z∈l,(0:Int)≤z∧z < nv u)→(∀ z∈p,(0:Int)≤z∧z < nb u)→Zzr u bl pl I l p=Zvb (nxL u) bl pl l p:=by
 intro l
 induction l with
 | nil=>intro p _ _;cases p <;> rfl
 | cons a r ih =>
  intro p hl hp
  cases p with
  | nil=>rfl
  | cons q t =>
   rw [Zzr,Zvb,ih t (fun z hz=>hl z (by simp [hz])) (fun z hz=>hp z (by simp [hz]))]
   congr 1
   unfold Zgt
   rw [List.all_cons,List.all_nil,Bool.and_true]
   obtain⟨q1,q2⟩:=hp q (by simp)
   obtain⟨n,rfl⟩:∃ n:Nat,q=(n:Int):=⟨q.toNat,by omega⟩
   rw [Int.toNat_natCast]
   have ha:=hl a (by simp)
   exact Zl5 h.nx h.b0 h.S hI (by omega) ha (h.big (by omega) ha)
theorem Zzd {bl pl I:List Int}(h:TkA u bl pl)(hI:∀ a b:Nat,a < nb u→b < nb u→(upF I (a:Int) (nb u+2) (b:Int)=true↔¬ Av u a b)){b k n:Nat}(hb:b < nb u)(hn:n < nv u):Zn3 u bl pl I b k (n:Nat)=Zz5 u (nxL u) (Zal u) bl pl b k (n:Nat):=by
 unfold Zn3 Zz5
 have hus:=h.us n hn
 by_cases e21:(Za3 u (n:Nat)).1=21
 ·have eu:Zfb (Za3 u (n:Nat))=(Za3 u (n:Nat)).2.2.2.2.1:=by unfold Zfb Zcm;rw [e21];rfl
  have el:lvs (Za3 u (n:Nat)).1=false:=by rw [e21];rfl
  rw [if_pos e21,if_pos e21,el,Bool.not_false,Bool.true_or,Bool.and_true,← eu,h.A b hb]
  exact Z53 h hI _ _ hus (fun z hz=>by rw [← h.A b hb] at hz;exact Zge u b z hz)
 ·rw [if_neg e21,if_neg e21]
  congr 1
  ·unfold Zgt
   exact Zmt fun x hx=>Zl5 h.nx h.b0 h.S hI hb (hus x hx) (fun _=>Iff.rfl)
  ·by_cases hl:lvs (Za3 u (n:Nat)).1=true
   ·obtain⟨v1,v2⟩:=h.vst n hn hl
    congr 1
    unfold Zuj
    exact Zr h.nx h.b0 h.S hI hb _ (h.st _ (by have v2':(show Int from (Za3 u (n:Nat)).2.2.2.2.2.1) < ns u:=v2;have v1':(0:Int)≤(show Int from (Za3 u (n:Nat)).2.2.2.2.2.1):=v1;omega)) (fun _ _ _ _=>Iff.rfl)
   ·rw [Bool.not_eq_true] at hl
    rw [hl];rfl
theorem Zq8 {bl pl I:List Int}(h:TkA u bl pl)(hI:∀ a b:Nat,a < nb u→b < nb u→(upF I (a:Int) (nb u+2) (b:Int)=true↔¬ Av u a b)){b:Nat}(hb:b < nb u):∀ (l:List Int) (k:Nat),(∀ z∈l,(0:Int)≤z∧z < nv u)→Zhz u bl pl I b k l=Znl u (nxL u) (Zal u) bl pl b k l:=by
 intro l
 induction l with
 | nil=>intro k _;rfl
 | cons v r ih =>
  intro k hl
  obtain⟨v1,v2⟩:=hl v (by simp)
  obtain⟨n,rfl⟩:∃ n:Nat,v=(n:Int):=⟨v.toNat,by omega⟩
  rw [Zhz,Znl,ih _ (fun z hz=>hl z (by simp [hz])),Zzd h hI hb (by omega)]
theorem Zrp {bl pl I:List Int}(h:TkA u bl pl)(hI:∀ a b:Nat,a < nb u→b < nb u→(upF I (a:Int) (nb u+2) (b:Int)=true↔¬ Av u a b)){b:Nat}(hb:b < nb u):Zmm u bl pl I b=Zuv u (nxL u) bl pl b (Zda u b):=by
 unfold Zmm Zuv
 by_cases e2:(Zda u b).2.1=2
 ·have hc:=h.cond b hb e2
  rw [if_pos e2,decide_eq_true e2,decide_eq_false (show ¬ (Zda u b).2.1=3 by rw [e2];decide)]
  rw [Bool.not_true,Bool.false_or,Bool.not_false,Bool.true_or,Bool.and_true]
  unfold Zgt
  rw [List.all_cons,List.all_nil,Bool.and_true]
  exact Zl5 h.nx h.b0 h.S hI hb hc (h.big hb hc)
 ·rw [if_neg e2,decide_eq_false e2,Bool.not_false,Bool.true_or,Bool.true_and]
  by_cases e3:(Zda u b).2.1=3
  ·obtain⟨v1,v2⟩:=h.bst b hb e3
   rw [if_pos e3,decide_eq_true e3,Bool.not_true,Bool.false_or]
   unfold Zuj
   exact Zr h.nx h.b0 h.S hI hb _ (h.st _ (by have v2':(show Int from (Zda u b).2.2.2.2.2.1) < ns u:=v2;have v1':(0:Int)≤(show Int from (Zda u b).2.2.2.2.2.1):=v1;omega)) (fun v a1 a2=>h.big hb ⟨a1,a2⟩)
  ·rw [if_neg e3,decide_eq_false e3];rfl
theorem Zyw (L A:List (List Int))(bl pl:List Int):∀ (bs:List Zct.D) (b:Nat),Zm0 u L A bl pl b bs=true↔∀ (j:Nat) (x:Zct.D),bs[j]?=some x→Znl u L A bl pl (b+j) 0 x.1=true∧Zuv u L bl pl (b+j) x=true:=by
 intro bs
 induction bs with
 | nil=>intro b;simp [Zm0]
 | cons y r ih =>
  intro b
  rw [Zm0,Bool.and_eq_true,Bool.and_eq_true,ih]
  constructor
  ·rintro⟨⟨h1,h2⟩,h3⟩ j x hx
   cases j with
   | zero=>simp only [List.getElem?_cons_zero,Option.some.injEq] at hx;subst hx;exact⟨h1,h2⟩
   | succ j =>
    simp only [List.getElem?_cons_succ] at hx
    have:=h3 j x hx
    rw [show b+(j+1)=b+1+j by omega];exact this
  ·intro h
   refine⟨h 0 y rfl,fun j x hx=>?_⟩
   have:=h (j+1) x (by simpa using hx)
   rw [show b+(j+1)=b+1+j by omega] at this;exact this
theorem Zqk {bl pl I:List Int}(h:TkA u bl pl)(hI:∀ a b:Nat,a < nb u→b < nb u→(upF I (a:Int) (nb u+2) (b:Int)=true↔¬ Av u a b)):Zdo (Zhp u bl pl I) 0 (nb u)=true↔Zm0 u (nxL u) (Zal u) bl pl 0 u.2.2.2.1=true:=by
 rw [Zcj,Zyw]
 have hvl:∀ b < nb u,∀ z∈vlD u b,(0:Int)≤z∧z < nv u:=by
  intro b hb z hz
  obtain⟨q,hq,hqv⟩:=List.getElem_of_mem hz
  obtain⟨n,g1,g2,_⟩:=h.S.at_ b hb q hq
  have:(vlD u b).getD q 0=z:=by rw [List.getD_eq_getElem?_getD,List.getElem?_eq_getElem hq,← hqv];rfl
  omega
 constructor
 ·intro hh j x hx
  obtain⟨hj,rfl⟩:=Zt2 hx
  have:=hh j hj
  unfold Zhp at this
  rw [Bool.and_eq_true,Zq8 h hI hj _ _ (hvl j hj),Zrp h hI hj] at this
  rw [Nat.zero_add];exact this
 ·intro hh b hb
  have:=hh b (Zda u b) (by rw [Zb2 hb];exact List.getElem?_eq_getElem hb)
  rw [Nat.zero_add] at this
  unfold Zhp
  rw [Bool.and_eq_true,Zq8 h hI hb _ _ (hvl b hb),Zrp h hI hb]
  exact this
theorem Zyy:∀ (l:List Int) {s t:SeS},Zgw u l s=some t→∀ v∈l,Zas v (nv u)=true:=by
 intro l
 induction l with
 | nil=>intro s t _ v hv;simp at hv
 | cons x r ih =>
  intro s t h v hv
  rw [Zgw] at h
  split at h
  ·cases h
  ·rename_i hc
   rcases List.mem_cons.1 hv with rfl | hv
   ·simp only [Bool.or_eq_true,not_or,Bool.not_eq_true',Bool.not_eq_false] at hc
    exact hc.1
   ·exact ih h v hv
theorem Zzm:∀ (bs:List Zct.D) {s t:SeS},Zkz u bs s=some t→∀ x∈bs,∀ v∈(show List Int from x.1),Zas v (nv u)=true:=by
 intro bs
 induction bs with
 | nil=>intro s t _ x hx;simp at hx
 | cons y r ih =>
  intro s t h x hx
  rw [Zkz] at h
  cases hq:Zgw u y.1 s with
  | none=>rw [hq] at h;cases h
  | some s' =>
   rw [hq,Option.bind_some] at h
   rcases List.mem_cons.1 hx with rfl | hx
   ·exact Zyy _ hq
   ·exact ih h x hx
theorem Zi0 (h:Zd6 u=true):Znf u=true∧(show List StT.D from u.2.2.2.2.1).all (fun s=>Zrw u s.1)=true∧(show List Za9.D from u.2.2.1).all (Ziu u)=true∧(show List Zct.D from u.2.2.2.1).all (Zqh u)=true∧∃ t,Zkz u u.2.2.2.1 (List.replicate (nv u) false,0)=some t∧t.2=nv u:=by
 unfold Zd6 at h
 simp only [Bool.and_eq_true] at h
 obtain⟨h1,h2,h3,h4⟩:=h
 rw [Z2q,Bool.and_eq_true] at h4
 refine⟨h1,h2,h3,h4.1,?_⟩
 cases hq:Zkz u u.2.2.2.1 (List.replicate (nv u) false,0) with
 | none=>rw [hq] at h4;exact absurd h4.2 (by simp)
 | some t=>rw [hq] at h4;exact⟨t,rfl,of_decide_eq_true h4.2⟩
theorem Zqp (h:Zd6 u=true):Zng u:=by
 obtain⟨_,_,h3,_⟩:=Zi0 h
 rw [List.all_eq_true] at h3
 intro v hv
 have:=h3 v hv
 unfold Ziu Zhw at this
 simp only [Bool.and_eq_true,Bool.not_eq_true',Bool.or_eq_false_iff,decide_eq_false_iff_not] at this
 obtain⟨⟨⟨⟨⟨⟨g1,g2⟩,_⟩,_⟩,_⟩,_⟩,_⟩:=this
 unfold Zpg
 simp only [Bool.and_eq_true,decide_eq_true_eq]
 obtain⟨o,ho⟩:∃ o:Int,v.1=o:=⟨_,rfl⟩
 rw [ho] at g1 g2 ⊢
 omega
theorem Zm2 {k:Int}(h:Ze2 u k=true):(0:Int)≤k∧k < nv u:=by
 unfold Ze2 at h
 rw [Bool.and_eq_true] at h
 exact Zbe.1 h.1
theorem Zo5 (h:Zd6 u=true):Zzo u:=by
 have ho:=Zqp h
 obtain⟨h1,h2,h3,h4,t,h5,h6⟩:=Zi0 h
 rw [Zpj] at h1
 obtain⟨s1,s2,s3,s4⟩:=Zqi h1
 rw [List.all_eq_true] at h2 h3 h4
 have he:∀ b∈u.2.2.2.1,Zhn u b=true:=fun b hb=>by rw [← Zry ho];exact h4 b hb
 have hval:∀ v∈u.2.2.1,Zhw (ns u) v.1 (vNf v) (show Int from v.2.2.2.2.2.1) v.2.2.2.2.1=true∧(Zcm v.1 v.2.1 v.2.2.1 v.2.2.2.2.1).all (Ze2 u)=true:=fun v hv=>by
  have:=h3 v hv
  unfold Ziu at this
  rw [Bool.and_eq_true] at this
  exact this
 have hvo:∀ v∈u.2.2.1,((!lvs v.1 || Zas (show Int from v.2.2.2.2.2.1) (ns u)) && (if v.1=20 then decide (List.length v.2.2.2.2.1=1) else if v.1=1 then Zas (vNf v) 40 else true))=true:=fun v hv=>by
  rw [← Zun (ho v hv)];exact (hval v hv).1
 refine⟨s1,s2,s4,s3,fun b hb=>?_,fun b hb v hv=>Zbe.1 (Zzm _ h5 b hb v hv),fun b hb e=>?_,fun b hb e=>?_,fun v hv z hz=>?_,fun v hv e=>?_,fun v hv e=>?_,fun s hs=>?_⟩
 ·obtain⟨g1,g2⟩:=Zjm (he b hb)
  refine⟨?_,g1⟩
  have:=he b hb
  unfold Zhn at this
  rw [Bool.and_eq_true] at this
  have g:=this.2
  by_cases e1:b.2.1=1
  ·rw [if_pos e1] at g;have:=of_decide_eq_true g;omega
  rw [if_neg e1] at g
  by_cases e2:b.2.1=2
  ·rw [if_pos e2,Bool.and_eq_true] at g;have:=of_decide_eq_true g.1;omega
  rw [if_neg e2] at g
  by_cases e3:b.2.1=3
  ·rw [if_pos e3,Bool.and_eq_true] at g;have:=of_decide_eq_true g.1;omega
  rw [if_neg e3] at g;cases g
 ·have:=he b hb
  unfold Zhn at this
  rw [Bool.and_eq_true] at this
  have g:=this.2
  rw [if_neg (by rw [e];decide),if_pos e,Bool.and_eq_true] at g
  exact Zgi g.2 _ (by simp)
 ·have:=he b hb
  unfold Zhn at this
  rw [Bool.and_eq_true] at this
  have g:=this.2
  rw [if_neg (by rw [e];decide),if_neg (by rw [e];decide),if_pos e,Bool.and_eq_true] at g
  exact Zbe.1 g.2
 ·have:=(hval v hv).2
  rw [List.all_eq_true] at this
  exact Zm2 (this z hz)
 ·have:=hvo v hv
  rw [Bool.and_eq_true,if_neg (by rw [e];decide),if_pos e] at this
  exact Zbe.1 this.2
 ·have:=hvo v hv
  rw [Bool.and_eq_true,e,Bool.not_true,Bool.false_or] at this
  exact Zbe.1 this.1
 ·have:=h2 s hs
  unfold Zrw at this
  simp only [Bool.and_eq_true,Bool.not_eq_true',decide_eq_false_iff_not] at this
  obtain⟨⟨g1,g2⟩,g3,g4⟩:=this
  refine⟨by omega,fun f hf=>?_,fun v hv=>?_⟩
  ·rw [List.all_eq_true] at g3
   have:=g3 f hf
   unfold Zhl at this
   simp only [Bool.and_eq_true,Bool.not_eq_true',decide_eq_false_iff_not] at this
   omega
  ·rw [List.all_eq_true] at g4
   exact Zm2 (g4 v hv)
theorem Zm8 {s:StS}(hs:Zcd u=some s):Zh7 0 u.2.2.2.1 (List.replicate (nv u) 0)=s.1:=by
 have hS:=Zex hs
 obtain⟨_,_,e1,_⟩:=Zh1.1 hs
 apply List.ext_getElem?
 intro n
 by_cases hn:n < nv u
 ·have hb:=hS.bb n hn
  have h2:=Zzh u.2.2.2.1 0 (List.replicate (nv u) (-1)) (List.replicate (nv u) 0) (by simp) n
  rw [← e1] at h2
  have hl1:n < (Zh7 0 u.2.2.2.1 (List.replicate (nv u) 0)).length:=by rw [Zra];simpa using hn
  have hl2:n < s.1.length:=by rw [hS.lb];exact hn
  have e3:s.1.getD n 0=(Zh7 0 u.2.2.2.1 (List.replicate (nv u) 0)).getD n 0:=by
   rcases h2 with h | ⟨h,_⟩
   ·exact h
   ·exfalso
    rw [h] at hb
    simp [List.getD_eq_getElem?_getD,hn] at hb
  rw [List.getD_eq_getElem?_getD,List.getD_eq_getElem?_getD,List.getElem?_eq_getElem hl1,List.getElem?_eq_getElem hl2] at e3
  rw [List.getElem?_eq_getElem hl1,List.getElem?_eq_getElem hl2]
  simp only [Option.getD_some] at e3
  rw [e3]
 ·rw [List.getElem?_eq_none (by rw [Zra];simpa using hn),List.getElem?_eq_none (by rw [hS.lb];omega)]
theorem Zrg (A:List (List Int)):((List.range u.2.2.2.1.length).all fun j=>((u.2.2.2.1[j]?).map ((fun j x=>(show List Int from x.1).all (phN u A j)) (0+j))).getD true)=true↔∀ b < nb u,∀ v∈vlD u b,phN u A b v=true:=by
 rw [List.all_eq_true]
 constructor
 ·intro h b hb v hv
  have:=h b (List.mem_range.2 hb)
  rw [List.getElem?_eq_getElem (show b < u.2.2.2.1.length from hb)] at this
  simp only [Option.map_some,Option.getD_some,Nat.zero_add] at this
  rw [List.all_eq_true] at this
  exact this v (by unfold vlD at hv;rw [Zb2 hb] at hv;exact hv)
 ·intro h j hj
  have hj':j < nb u:=List.mem_range.1 hj
  rw [List.getElem?_eq_getElem (show j < u.2.2.2.1.length from hj')]
  simp only [Option.map_some,Option.getD_some,Nat.zero_add]
  rw [List.all_eq_true]
  intro v hv
  exact h j hj' v (by unfold vlD;rw [Zb2 hj'];exact hv)
theorem Zzn (h:Zdo (Zlo u) 0 (nb u)=true):∀ k < nb u,(Zal u).getD k []=prD u k:=by
 rw [Zcj] at h
 intro k hk
 have:=h k hk
 unfold Zlo Zgq at this
 rw [Bool.and_eq_true] at this
 exact (of_decide_eq_true this.1).symm
theorem Z4g (h1:Zd6 u=true)(h2:Zdo (Zlo u) 0 (nb u)=true)(h3:((Zal u).getD 0 []).length=0){a:List Int × List Int}(h4:Zfr u (Zal u) 0 u.2.2.2.1 (List.replicate (nv u) 0,List.replicate (nv u) 0)=some a)(h5:Zj4 u.2.2.1 (List.replicate 40 false)=true) :
  ∃ s,Zjj u=some s∧s.1=a.1∧s.2.1=a.2:=by
 have ho:=Zqp h1
 obtain⟨g1,g2,g3,g4,t,g5,g6⟩:=Zi0 h1
 have sk:=Zo5 h1
 rw [Zql (Zal u) u.2.2.2.1 0 _ _ rfl] at h4
 split at h4
 ·rename_i hc
  rw [Bool.and_eq_true] at hc
  rw [Option.some.injEq] at h4
  obtain⟨s,hs⟩:=Zh1.2 g5 g6 hc.1
  obtain⟨_,_,e1,e2⟩:=Zh1.1 hs
  have hen:=(Zyd ho).2 g4
  have hnx:Zm4 u:=fun b hb=>sk.nx b hb
  have hld:=(Zy5 sk.hb0 hnx hen).2 ⟨h2,h3⟩
  have hph:=(Zrg (Zal u)).1 hc.2
  have hvl:=(Zzc ho hs (Zzn h2)).2 ⟨g3,hph,h5⟩
  refine⟨s,?_,by rw [← h4];exact (Zm8 hs).symm,by rw [← h4];exact e2⟩
  unfold Zjj
  rw [Zpj] at g1
  rw [if_pos (by rw [g1,← Ztr ho,g2];rfl),hs,Option.filter_some,if_pos (by rw [hvl,hen,hld];rfl)]
 ·cases h4
theorem Zx0 {s:StS}(h:Zjj u=some s):Zd6 u=true∧Zdo (Zlo u) 0 (nb u)=true∧((Zal u).getD 0 []).length=0∧Zfr u (Zal u) 0 u.2.2.2.1 (List.replicate (nv u) 0,List.replicate (nv u) 0)=some (s.1,s.2.1)∧Zj4 u.2.2.1 (List.replicate 40 false)=true:=by
 have hs:=Zsc h
 unfold Zjj at h
 split at h
 ·rename_i hc
  rw [Bool.and_eq_true] at hc
  rw [hs,Option.filter_some] at h
  split at h
  ·rename_i hd
   simp only [Bool.and_eq_true] at hd
   obtain⟨⟨hvl,hen⟩,hld⟩:=hd
   have ho:Zng u:=by
    intro v hv
    obtain⟨n,hn,rfl⟩:=List.getElem_of_mem hv
    have hn':n < nv u:=hn
    have:=Zcj.1 hvl n hn'
    unfold Zve at this
    simp only [Bool.and_eq_true] at this
    rw [Zc6 hn'] at this
    exact this.1.1.1
   have hb0:=Zk hc.1
   have hnx:=Zpy hen
   obtain⟨h2,h3⟩:=(Zy5 hb0 hnx hen).1 hld
   obtain⟨g3,hph,h5⟩:=(Zzc ho hs (Zzn h2)).1 hvl
   obtain⟨⟨t,g5,g6⟩,hhd,e1,e2⟩:=Zh1.1 hs
   have hsh:Zd6 u=true:=by
    unfold Zd6
    rw [Zpj,hc.1,Ztr ho,hc.2,g3,Z2q,g5]
    have:=(Zyd ho).1 hen
    have this':(List.all u.2.2.2.1 (Zqh u))=true:=this
    rw [this']
    simp [g6]
   refine⟨hsh,h2,h3,?_,h5⟩
   rw [Zql (Zal u) u.2.2.2.1 0 _ _ rfl,if_pos (by rw [hhd,Bool.true_and];exact (Zrg (Zal u)).2 hph),Zm8 hs,← e2]
  ·cases h
 ·cases h
theorem Z2c {s:StS}(h:Zjj u=some s):TkA u s.1 s.2.1:=by
 obtain⟨h1,h2,h3,h4,h5⟩:=Zx0 h
 have hs:=Zsc h
 have sk:=Zo5 h1
 refine⟨fun b hb=>sk.nx b hb,sk.hb0,sk.hv,Zex hs,fun n hn=>Zrh hs hn,fun n hn=>sk.us _ (Zhc hn),fun k hk v hv=>?_,fun n hn=>sk.vst _ (Zhc hn),fun b hb=>sk.cond _ (Zfy hb),fun b hb=>sk.bst _ (Zfy hb),Zzn h2,fun b hb=>Zv6 hs hb⟩
 rw [Ziz hk] at hv
 exact (sk.st _ (List.getElem_mem hk)).2.2 v hv
theorem Zxf {O I:List Int}(hO:∀ s,Zjj u=some s→(∃ sn,Zwd u (sn,O.reverse,[]))∧(O.length=nb u→∀ a b:Nat,a < nb u→b < nb u→(upF I (a:Int) (nb u+2) (b:Int)=true↔¬ Av u a b))):Zjc u=Zht u O I:=by
 rw [Bool.eq_iff_iff]
 constructor
 ·intro h
  unfold Zjc Zvh Zyj at h
  simp only [Bool.and_eq_true,decide_eq_true_eq] at h
  obtain⟨h1,h2,h3,h4,h5⟩:=h
  cases hq:Zfr u (Zal u) 0 u.2.2.2.1 (List.replicate (nv u) 0,List.replicate (nv u) 0) with
  | none=>rw [hq] at h5;cases h5
  | some a =>
   rw [hq] at h5
   simp only [Bool.and_eq_true] at h5
   obtain⟨s,hp,e1,e2⟩:=Z4g h1 h2 h3 hq h5.1
   have tk:=Z2c hp
   obtain⟨o1,o2⟩:=hO s hp
   have hlen:=(Zqs tk.nx tk.b0 o1).2 h4
   unfold Zht
   rw [hp]
   simp only [Bool.and_eq_true,decide_eq_true_eq]
   refine⟨hlen,?_⟩
   rw [Zqk tk (o2 hlen),e1,e2]
   exact h5.2
 ·intro h
  unfold Zht at h
  cases hp:Zjj u with
  | none=>rw [hp] at h;cases h
  | some s =>
   rw [hp] at h
   simp only [Bool.and_eq_true,decide_eq_true_eq] at h
   obtain⟨hlen,htk⟩:=h
   obtain⟨h1,h2,h3,h4,h5⟩:=Zx0 hp
   have tk:=Z2c hp
   obtain⟨o1,o2⟩:=hO s hp
   rw [Zqk tk (o2 hlen)] at htk
   unfold Zjc Zvh Zyj
   rw [h1,h2,h4,(Zqs tk.nx tk.b0 o1).1 hlen,decide_eq_true h3]
   simp only [Bool.true_and]
   rw [h5,htk];rfl
end Go.Proofs.YtcgmchechmbmeaaDoor.base
end
