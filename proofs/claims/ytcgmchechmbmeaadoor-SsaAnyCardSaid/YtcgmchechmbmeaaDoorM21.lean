/- This text proves, in plain Lean, that what the document's Check reckons is what the program's Check reckons. No condition. -/
import Derived.Test.YtcgmchechmbmeaaDoorM20
import Derived.Test.YtcgmchechmbmeaaDoorM16
set_option linter.unusedVariables false
set_option linter.unusedSimpArgs false
section
set_option maxRecDepth 100000
namespace Go.Proofs.YtcgmchechmbmeaaDoor.base
open Go.Sh gen
variable {u:UnT.D}
theorem Zpj (u:UnT.D):Znf u=Zj u:=by
 unfold Znf Zj
 by_cases h1:3000 < nv u <;> by_cases h2:300 < nb u <;> by_cases h3:nb u < 1 <;> by_cases h4:1000 < ns u <;> by_cases h5:nb u=0 <;> simp [h1,h2,h3,h4,h5] <;> omega
def Zng (u:UnT.D):Prop:=∀ v∈(show List Za9.D from u.2.2.1),Zpg v.1=true
theorem Zyc {op:Int}(h:Zpg op=true):Zgj op=!noW op:=by
 unfold Zpg at h
 simp at h
 unfold Zgj noW
 by_cases h1:op < 19
 ·simp [h1,show ¬ op=19 by omega,show ¬ op=20 by omega,show ¬ op=22 by omega,show ¬ op=23 by omega]
 ·by_cases h2:op=21
  ·subst h2;rfl
  ·have:op=19∨op=20∨op=22∨op=23:=by omega
   rcases this with rfl | rfl | rfl | rfl <;> rfl
theorem Z5c (h:Zng u){k:Int}(hk:Zas k (nv u)=true):Zpg (Za3 u k).1=true:=by
 obtain⟨h1,h2⟩:=Zbe.1 hk
 obtain⟨n,rfl⟩:∃ n:Nat,k=(n:Int):=⟨k.toNat,by omega⟩
 exact h _ (Zhc (by omega))
theorem Z1a (h:Zng u)(k:Int):Ze2 u k=(Zas k (nv u) && !noW (Za3 u k).1):=by
 unfold Ze2
 by_cases hk:Zas k (nv u)=true
 ·rw [hk,Zyc (Z5c h hk)]
 ·rw [Bool.not_eq_true] at hk;rw [hk];rfl
theorem Zia (h:Zng u)(l:List Int):Zcb u l=l.all (Ze2 u):=by
 unfold Zcb
 have:(fun k=>Zas k ↑(nv u) && !noW (Za3 u k).1)=Ze2 u:=by funext k;rw [Z1a h]
 rw [this]
theorem Z2m (h:Zng u)(fs:List Zeg.D):Zrw u fs=Zee u fs:=by
 unfold Zrw Zee
 have h1:(!decide (fs.length < 1))=(!decide (fs.length=0)):=by
  by_cases h:fs.length=0
  ·rw [decide_eq_true h,decide_eq_true (by omega)]
  ·rw [decide_eq_false h,decide_eq_false (by omega)]
 rw [h1]
 have h2:(fs.all Zhl && (Zbh fs).all (Ze2 u))=fs.all (Zh5 u):=by
  induction fs with
  | nil=>rfl
  | cons f r ih =>
   have hc:Zbh (f::r)=Zs7 f++Zbh r:=by unfold Zbh;rw [List.flatMap_cons]
   have ih':(r.all Zhl && (Zbh r).all (Ze2 u))=r.all (Zh5 u):=by
    by_cases hr:r.length=0
    ·have:r=[]:=List.length_eq_zero_iff.1 hr
     subst this;rfl
    ·refine ih ?_
     by_cases h:r.length=0
     ·rw [decide_eq_true h,decide_eq_true (by omega)]
     ·rw [decide_eq_false h,decide_eq_false (by omega)]
   rw [List.all_cons,List.all_cons,hc,List.all_append,← ih']
   have ef:Zh5 u f=(Zhl f && (Zs7 f).all (Ze2 u)):=by
    unfold Zh5 Zhl Zs7
    rw [Zia h,Zia h,List.all_append]
    simp only [Bool.and_assoc]
   rw [ef]
   cases Zhl f <;> cases (Zs7 f).all (Ze2 u) <;> cases r.all Zhl <;> rfl
 rw [h2]
theorem Ztr (h:Zng u):(show List StT.D from u.2.2.2.2.1).all (fun s=>Zrw u s.1)=Zsm u:=by
 rw [Bool.eq_iff_iff]
 unfold Zsm
 rw [Zcj,List.all_eq_true]
 constructor
 ·intro hh k hk
  rw [← Z2m h,Ziz hk]
  exact hh _ (List.getElem_mem hk)
 ·intro hh s hs
  obtain⟨i,hi,rfl⟩:=List.getElem_of_mem hs
  have:=hh i hi
  rw [← Z2m h,Ziz hi] at this
  exact this
theorem Zry (h:Zng u)(b:Zct.D):Zqh u b=Zhn u b:=by
 unfold Zqh Zhn
 obtain⟨e,he⟩:∃ o:Int,b.2.1=o:=⟨_,rfl⟩
 obtain⟨c,hc⟩:∃ o:Int,b.2.2.1=o:=⟨_,rfl⟩
 obtain⟨st,hst⟩:∃ o:Int,b.2.2.2.2.2.1=o:=⟨_,rfl⟩
 obtain⟨l,hl⟩:∃ o:List Int,b.2.2.2.1=o:=⟨_,rfl⟩
 rw [show (show List Int from b.2.2.2.1)=l from hl,show (show Int from b.2.2.1)=c from hc,show (show Int from b.2.2.2.2.2.1)=st from hst,he,hc,hst,hl,Bool.and_comm]
 congr 1
 unfold Zjx Zlr
 by_cases e1:e=1
 ·subst e1;simp
 by_cases e2:e=2
 ·subst e2
  rw [Zia h]
  simp
 by_cases e3:e=3
 ·subst e3;simp
 simp [e1,e2,e3]
def hcF (op:Int)(b:Nat)(f:Bool):Bool:=(Zay op && !f) || (decide (op=21) && decide (b=0)) || (decide (op=1) && !decide (b=0))
def hdR (u:UnT.D)(b:Nat):List Int→Bool→Bool
 | [],_=>true
 | v::r,f=>!hcF (Za3 u v).1 b f && hdR u b r (Zay (Za3 u v).1)
theorem Z06 {op:Int}{b:Nat}{f:Bool}(h:hcF op b f=false):(f && Zay op)=Zay op:=by
 unfold hcF at h
 cases hh:Zay op
 ·simp
 ·cases f
  ·rw [hh] at h;simp at h
  ·rfl
theorem Zz6 {op:Int}{b:Nat}{f:Bool}:((Zay op && !f) || ((decide (op=1) != decide (b=0)) && Zay op))=hcF op b f:=by
 unfold hcF Zay
 by_cases e1:op=1
 ·subst e1;by_cases hb:b=0 <;> cases f <;> simp [hb]
 ·by_cases e2:op=21
  ·subst e2;by_cases hb:b=0 <;> cases f <;> simp [hb]
  ·simp [e1,e2]
structure Zhh (u:UnT.D)(s:StS)(t:SeS):Prop where
 l1:s.1.length=nv u
 l2:s.2.1.length=nv u
 l3:t.1.length=nv u
 at_:∀ n < nv u,t.1.getD n false=decide (0≤s.1.getD n 0)
 ct:s.2.2.2=t.2
theorem Zmx {l:List Int}{k i:Nat}{x:Int}(hk:k < l.length):(l.set k x).getD i 0=if i=k then x else l.getD i 0:=by
 by_cases e:i=k
 ·subst e;rw [if_pos rfl,List.getD_eq_getElem?_getD,List.getElem?_set_self hk];rfl
 ·rw [if_neg e,List.getD_eq_getElem?_getD,List.getElem?_set_ne (Ne.symm e),← List.getD_eq_getElem?_getD]
theorem Zhh.set {s:StS}{t:SeS}(h:Zhh u s t){n b k:Nat}(hn:n < nv u)(hd:Bool):Zhh u (s.1.set n (b:Int),s.2.1.set n (k:Int),hd,s.2.2.2+1) (t.1.set n true,t.2+1):=by
 refine⟨by simpa using h.l1,by simpa using h.l2,by simpa using h.l3,fun i hi=>?_,by simp [h.ct]⟩
 simp only
 rw [Zbr (by rw [h.l3];exact hn),Zmx (by rw [h.l1];exact hn),h.at_ i hi]
 by_cases e:i=n
 ·subst e;simp
 ·simp [e]
def Zp3 (b:Nat)(l:List Int)(bl:List Int):List Int:=l.foldl (fun a v=>a.set v.toNat (b:Int)) bl
def Z8g:Nat→List Int→List Int→List Int
 | _,[],pl=>pl
 | k,v::r,pl=>Z8g (k+1) r (pl.set v.toNat (k:Int))
theorem Zu1 (b:Nat):∀ (l:List Int) (k:Nat) {s:StS} {t:SeS},Zhh u s t→
  (∀ {s':StS},Zci u b k l s=some s'→∃ t',Zgw u l t=some t'∧Zhh u s' t'∧hdR u b l s.2.2.1=true∧s'.1=Zp3 b l s.1∧s'.2.1=Z8g k l s.2.1)∧
  (∀ {t':SeS},Zgw u l t=some t'→hdR u b l s.2.2.1=true→∃ s',Zci u b k l s=some s'):=by
 intro l
 induction l with
 | nil =>
  intro k s t h
  exact⟨fun hs=>by rw [Zci,Option.some.injEq] at hs;subst hs;exact⟨t,rfl,h,rfl,rfl,rfl⟩,fun _ _=>⟨s,rfl⟩⟩
 | cons v r ih =>
  intro k s t h
  by_cases hb:Zas v (nv u)=true
  case neg =>
   rw [Bool.not_eq_true] at hb
   refine⟨fun hs=>?_,fun ht _=>?_⟩
   ·rw [Zci] at hs;unfold Zey at hs;rw [hb] at hs;simp at hs
   ·rw [Zgw,hb] at ht;simp at ht
  obtain⟨h1,h2⟩:=Zbe.1 hb
  obtain⟨n,rfl⟩:∃ n:Nat,v=(n:Int):=⟨v.toNat,by omega⟩
  have hn:n < nv u:=by omega
  have hat:=h.at_ n hn
  have hset:=h.set (b:=b) (k:=k) hn (Zay (Za3 u (n:Int)).1)
  obtain⟨i1,i2⟩:=ih (k+1) hset
  by_cases hp:0≤s.1.getD n 0
  ·refine⟨fun hs=>?_,fun ht _=>?_⟩
   ·rw [Zci] at hs;unfold Zey at hs;rw [Int.toNat_natCast,decide_eq_true hp,Bool.or_true] at hs;simp at hs
   ·rw [Zgw,Int.toNat_natCast,hat,decide_eq_true hp,Bool.or_true] at ht;simp at ht
  have hf:t.1.getD n false=false:=by rw [hat];exact decide_eq_false hp
  have es:Zgw u ((n:Int)::r) t=Zgw u r (t.1.set n true,t.2+1):=by rw [Zgw,hb,Int.toNat_natCast,hf];rfl
  have ev:Zey u b k s (n:Int)=if hcF (Za3 u (n:Int)).1 b s.2.2.1=true then none else some (s.1.set n (b:Int),s.2.1.set n (k:Int),Zay (Za3 u (n:Int)).1,s.2.2.2+1):=by
   unfold Zey
   rw [hb,Int.toNat_natCast,decide_eq_false hp,← Zz6]
   simp
  rw [es,hdR]
  constructor
  ·intro s' hs
   rw [Zci,ev] at hs
   by_cases hc:hcF (Za3 u (n:Int)).1 b s.2.2.1=true
   ·rw [if_pos hc] at hs;cases hs
   ·rw [if_neg hc,Option.bind_some] at hs
    obtain⟨t',g1,g2,g3,g4,g5⟩:=i1 hs
    rw [Bool.not_eq_true] at hc
    exact⟨t',g1,g2,by rw [hc];exact g3,by rw [g4];rfl,by rw [g5];rfl⟩
  ·intro t' ht hh
   rw [Bool.and_eq_true,Bool.not_eq_true'] at hh
   obtain⟨s',hs'⟩:=i2 ht hh.2
   exact⟨s',by rw [Zci,ev,hh.1];exact hs'⟩
def Zh7:Nat→List Zct.D→List Int→List Int
 | _,[],bl=>bl
 | b,x::r,bl=>Zh7 (b+1) r (Zp3 b x.1 bl)
def Z10:List Zct.D→List Int→List Int
 | [],pl=>pl
 | x::r,pl=>Z10 r (Z8g 0 x.1 pl)
def hdB (u:UnT.D):Nat→List Zct.D→Bool
 | _,[]=>true
 | b,x::r=>hdR u b x.1 true && hdB u (b+1) r
def Zkz (u:UnT.D):List Zct.D→SeS→Option SeS
 | [],s=>some s
 | x::r,s=>(Zgw u x.1 s).bind (Zkz u r)
theorem Zhh.first {s:StS}{t:SeS}(h:Zhh u s t)(f:Bool):Zhh u (s.1,s.2.1,f,s.2.2.2) t:=⟨h.l1,h.l2,h.l3,h.at_,h.ct⟩
theorem Zv4:∀ (bs:List Zct.D) (b:Nat) {s:StS} {t:SeS},Zhh u s t→
  (∀ {s':StS},Zcg u b bs s=some s'→∃ t',Zkz u bs t=some t'∧Zhh u s' t'∧hdB u b bs=true∧s'.1=Zh7 b bs s.1∧s'.2.1=Z10 bs s.2.1)∧
  (∀ {t':SeS},Zkz u bs t=some t'→hdB u b bs=true→∃ s',Zcg u b bs s=some s'):=by
 intro bs
 induction bs with
 | nil =>
  intro b s t h
  exact⟨fun hs=>by rw [Zcg,Option.some.injEq] at hs;subst hs;exact⟨t,rfl,h,rfl,rfl,rfl⟩,fun _ _=>⟨s,rfl⟩⟩
 | cons x r ih =>
  intro b s t h
  obtain⟨j1,j2⟩:=Zu1 (u:=u) b x.1 0 (h.first true)
  constructor
  ·intro s' hs
   rw [Zcg] at hs
   cases hr:Zci u b 0 x.1 (s.1,s.2.1,true,s.2.2.2) with
   | none=>rw [hr] at hs;cases hs
   | some s1 =>
    rw [hr,Option.bind_some] at hs
    obtain⟨t1,g1,g2,g3,g4,g5⟩:=j1 hr
    obtain⟨t',k1,k2,k3,k4,k5⟩:=(ih (b+1) g2).1 hs
    exact⟨t',by rw [Zkz,g1,Option.bind_some];exact k1,k2,by rw [hdB,g3,k3];rfl,by rw [k4,g4];rfl,by rw [k5,g5];rfl⟩
  ·intro t' ht hh
   rw [hdB,Bool.and_eq_true] at hh
   rw [Zkz] at ht
   cases hr:Zgw u x.1 t with
   | none=>rw [hr] at ht;cases ht
   | some t1 =>
    rw [hr,Option.bind_some] at ht
    obtain⟨s1,hs1⟩:=j2 hr hh.1
    obtain⟨t1',g1,g2,_⟩:=j1 hs1
    rw [hr,Option.some.injEq] at g1
    subst g1
    obtain⟨s',hs'⟩:=(ih (b+1) g2).2 ht hh.2
    exact⟨s',by rw [Zcg,hs1,Option.bind_some];exact hs'⟩
theorem Z2q:∀ (bs:List Zct.D) (s:SeS),shB u bs s=(bs.all (Zqh u) && match Zkz u bs s with | none=>false | some t=>decide (t.2=nv u)):=by
 intro bs
 induction bs with
 | nil=>intro s;rfl
 | cons x r ih =>
  intro s
  rw [shB,List.all_cons,Zkz]
  cases hr:Zgw u x.1 s with
  | none=>simp
  | some t=>simp only [Option.bind_some];rw [ih t,Bool.and_assoc]
def phN (u:UnT.D)(A:List (List Int))(b:Nat)(v:Int):Bool:=!decide ((Za3 u v).1=21) || decide (List.length (Za3 u v).2.2.2.2.1=(A.getD b []).length)
theorem Zwn (A:List (List Int))(b k:Nat)(s:HdS)(v:Int):Zn5 u A b k s v=if (!hcF (Za3 u v).1 b s.2.2 && phN u A b v)=true then some (s.1.set v.toNat (b:Int),s.2.1.set v.toNat (k:Int),Zay (Za3 u v).1) else none:=by
 unfold Zn5 phN
 by_cases hc:hcF (Za3 u v).1 b s.2.2=true
 ·have:((Zay (Za3 u v).1 && !s.2.2) || (decide ((Za3 u v).1=21) && (!decide (List.length (Za3 u v).2.2.2.2.1=(A.getD b []).length) || decide (b=0))) || (decide ((Za3 u v).1=1) && !decide (b=0)))=true:=by
   unfold hcF at hc
   simp only [Bool.or_eq_true,Bool.and_eq_true] at hc ⊢
   rcases hc with (h | h) | h
   ·exact Or.inl (Or.inl h)
   ·exact Or.inl (Or.inr ⟨h.1,Or.inr h.2⟩)
   ·exact Or.inr h
  rw [if_pos this,hc];rfl
 ·rw [Bool.not_eq_true] at hc
  have hp:=Z06 hc
  rw [hc,Bool.not_false,Bool.true_and]
  unfold hcF at hc
  simp only [Bool.or_eq_false_iff] at hc
  obtain⟨⟨h1,h2⟩,h3⟩:=hc
  rw [h1,h3,Bool.false_or,Bool.or_false,hp]
  by_cases e:(Za3 u v).1=21
  ·rw [decide_eq_true e] at h2 ⊢
   rw [Bool.true_and] at h2
   rw [h2]
   by_cases hl:List.length (Za3 u v).2.2.2.2.1=(A.getD b []).length
   ·rw [decide_eq_true hl];rfl
   ·rw [decide_eq_false hl];rfl
  ·rw [decide_eq_false e];rfl
theorem Zwy (A:List (List Int))(b:Nat):∀ (l:List Int) (k:Nat) (s:HdS),(Zhg u A b k l s).map (fun t=>(t.1,t.2.1))=if (hdR u b l s.2.2 && l.all (phN u A b))=true then some (Zp3 b l s.1,Z8g k l s.2.1) else none:=by
 intro l
 induction l with
 | nil=>intro k s;rfl
 | cons v r ih =>
  intro k s
  rw [Zhg,Zwn,hdR,List.all_cons]
  by_cases h:(!hcF (Za3 u v).1 b s.2.2 && phN u A b v)=true
  ·rw [if_pos h,Option.bind_some,ih]
   rw [Bool.and_eq_true] at h
   rw [h.1,h.2,Bool.true_and,Bool.true_and]
   rfl
  ·rw [if_neg h]
   rw [if_neg (by
    rw [Bool.and_eq_true] at h
    simp only [Bool.and_eq_true,not_and] at h ⊢
    intro h1 h2
    exact absurd h2 (h h1.1))]
   rfl
theorem Zql (A:List (List Int)):∀ (bs:List Zct.D) (b:Nat) (s:List Int × List Int),(∀ (P:Nat→Zct.D→Bool),P=(fun j x=>(show List Int from x.1).all (phN u A j))→
  Zfr u A b bs s=if (hdB u b bs && (List.range bs.length).all fun j=>((bs[j]?).map (P (b+j))).getD true)=true then some (Zh7 b bs s.1,Z10 bs s.2) else none):=by
 intro bs
 induction bs with
 | nil=>intro b s P _;rfl
 | cons x r ih =>
  intro b s P hP
  rw [Zfr,hdB]
  have hr:=Zwy (u:=u) A b x.1 0 (s.1,s.2,true)
  have hrange:((List.range (x::r).length).all fun j=>(((x::r)[j]?).map (P (b+j))).getD true)=(P b x && (List.range r.length).all fun j=>((r[j]?).map (P (b+1+j))).getD true):=by
   rw [List.length_cons,List.range_succ_eq_map,List.all_cons,List.all_map]
   congr 1
   apply congrArg (fun f=>(List.range r.length).all f)
   funext j
   simp only [Function.comp,List.getElem?_cons_succ]
   rw [show b+(j+1)=b+1+j by omega]
  rw [hrange]
  have hPx:P b x=(show List Int from x.1).all (phN u A b):=by rw [hP]
  cases hq:Zhg u A b 0 x.1 (s.1,s.2,true) with
  | none =>
   rw [hq] at hr
   simp only [Option.map_none] at hr
   by_cases hc:(hdR u b x.1 true && (show List Int from x.1).all (phN u A b))=true
   ·have hc':(hdR u b x.1 (s.1,s.2,true).2.2 && List.all x.1 (phN u A b))=true:=hc
    rw [if_pos hc'] at hr;cases hr
   ·rw [Option.bind_none,if_neg]
    rw [hPx]
    intro h
    simp only [Bool.and_eq_true] at h hc
    exact hc ⟨h.1.1,h.2.1⟩
  | some t =>
   rw [hq] at hr
   simp only [Option.map_some] at hr
   by_cases hc:(hdR u b x.1 true && (show List Int from x.1).all (phN u A b))=true
   ·have hc':(hdR u b x.1 (s.1,s.2,true).2.2 && List.all x.1 (phN u A b))=true:=hc
    rw [if_pos hc',Option.some.injEq,Prod.mk.injEq] at hr
    rw [Option.bind_some,ih (b+1) (t.1,t.2.1) P hP,hr.1,hr.2,hPx]
    rw [Bool.and_eq_true] at hc
    rw [hc.1,hc.2,Bool.true_and,Bool.true_and]
    rfl
   ·have hc':¬ (hdR u b x.1 (s.1,s.2,true).2.2 && List.all x.1 (phN u A b))=true:=hc
    rw [if_neg hc'] at hr;cases hr
theorem Zoj (b:Nat)(l bl:List Int):(Zp3 b l bl).length=bl.length:=by
 unfold Zp3
 induction l generalizing bl with
 | nil=>rfl
 | cons v r ih=>rw [List.foldl_cons,ih];simp
theorem Z0x (b:Nat):∀ (l bl bl':List Int),bl.length=bl'.length→∀ n,(Zp3 b l bl).getD n 0=(Zp3 b l bl').getD n 0∨((Zp3 b l bl).getD n 0=bl.getD n 0∧(Zp3 b l bl').getD n 0=bl'.getD n 0):=by
 intro l
 induction l with
 | nil=>intro bl bl' _ n;exact Or.inr ⟨rfl,rfl⟩
 | cons v r ih =>
  intro bl bl' hl n
  have e1:Zp3 b (v::r) bl=Zp3 b r (bl.set v.toNat (b:Int)):=rfl
  have e2:Zp3 b (v::r) bl'=Zp3 b r (bl'.set v.toNat (b:Int)):=rfl
  rw [e1,e2]
  rcases ih (bl.set v.toNat (b:Int)) (bl'.set v.toNat (b:Int)) (by simpa using hl) n with h | ⟨h1,h2⟩
  ·exact Or.inl h
  ·by_cases hv:v.toNat < bl.length
   ·rw [Zmx hv] at h1
    rw [Zmx (by omega)] at h2
    by_cases e:n=v.toNat
    ·rw [if_pos e] at h1 h2;exact Or.inl (by rw [h1,h2])
    ·rw [if_neg e] at h1 h2;exact Or.inr ⟨h1,h2⟩
   ·rw [List.set_eq_of_length_le (by omega)] at h1 ⊢
    rw [List.set_eq_of_length_le (by omega)] at h2 ⊢
    exact Or.inr ⟨h1,h2⟩
theorem Zra:∀ (bs:List Zct.D) (b:Nat) (bl:List Int),(Zh7 b bs bl).length=bl.length:=by
 intro bs
 induction bs with
 | nil=>intro b bl;rfl
 | cons x r ih=>intro b bl;rw [Zh7,ih,Zoj]
theorem Zzh:∀ (bs:List Zct.D) (b:Nat) (bl bl':List Int),bl.length=bl'.length→∀ n,(Zh7 b bs bl).getD n 0=(Zh7 b bs bl').getD n 0∨((Zh7 b bs bl).getD n 0=bl.getD n 0∧(Zh7 b bs bl').getD n 0=bl'.getD n 0):=by
 intro bs
 induction bs with
 | nil=>intro b bl bl' _ n;exact Or.inr ⟨rfl,rfl⟩
 | cons x r ih =>
  intro b bl bl' hl n
  rw [Zh7,Zh7]
  rcases ih (b+1) (Zp3 b x.1 bl) (Zp3 b x.1 bl') (by rw [Zoj,Zoj];exact hl) n with h | ⟨h1,h2⟩
  ·exact Or.inl h
  ·rw [h1,h2]
   exact Z0x b x.1 bl bl' hl n
theorem Zyd (h:Zng u):Zm1 u=true↔(show List Zct.D from u.2.2.2.1).all (Zqh u)=true:=by
 unfold Zm1
 rw [Zcj,List.all_eq_true]
 constructor
 ·intro hh x hx
  obtain⟨i,hi,rfl⟩:=List.getElem_of_mem hx
  have:=hh i hi
  rw [Zb2 hi] at this
  rw [Zry h];exact this
 ·intro hh k hk
  rw [Zb2 hk,← Zry h]
  exact hh _ (List.getElem_mem hk)
theorem Zh1:(∀ {s:StS},Zcd u=some s→(∃ t,Zkz u u.2.2.2.1 (List.replicate (nv u) false,0)=some t∧t.2=nv u)∧hdB u 0 u.2.2.2.1=true∧s.1=Zh7 0 u.2.2.2.1 (List.replicate (nv u) (-1))∧s.2.1=Z10 u.2.2.2.1 (List.replicate (nv u) 0))∧
  (∀ {t:SeS},Zkz u u.2.2.2.1 (List.replicate (nv u) false,0)=some t→t.2=nv u→hdB u 0 u.2.2.2.1=true→∃ s,Zcd u=some s):=by
 have h0:Zhh u (List.replicate (nv u) (-1),List.replicate (nv u) 0,true,0) (List.replicate (nv u) false,0):=
  ⟨by simp,by simp,by simp,fun n hn=>by simp [List.getD_eq_getElem?_getD,hn],rfl⟩
 obtain⟨j1,j2⟩:=Zv4 (u:=u) u.2.2.2.1 0 h0
 constructor
 ·intro s hs
  unfold Zcd at hs
  rw [Option.filter_eq_some_iff] at hs
  obtain⟨hs,hm⟩:=hs
  obtain⟨t,g1,g2,g3,g4,g5⟩:=j1 hs
  exact⟨⟨t,g1,by rw [← g2.ct];simpa using hm⟩,g3,g4,g5⟩
 ·intro t ht hn hh
  obtain⟨s,hs⟩:=j2 ht hh
  obtain⟨t',g1,g2,_⟩:=j1 hs
  rw [ht,Option.some.injEq] at g1
  subst g1
  refine⟨s,?_⟩
  unfold Zcd
  rw [Option.filter_eq_some_iff]
  exact⟨hs,by simp [g2.ct,hn]⟩
theorem Zy5 (hb:0 < nb u)(hnx:Zm4 u)(he:Zm1 u=true):Zni u=true↔(Zdo (Zlo u) 0 (nb u)=true∧((Zal u).getD 0 []).length=0):=by
 have hen:∀ i < nb u,(Zda u i).2.1=2↔(nxD u i).length=2:=by
  intro i hi
  unfold Zm1 at he
  rw [Zcj] at he
  have:=he i hi
  unfold Zhn at this
  rw [Bool.and_eq_true] at this
  have h2:=this.2
  constructor
  ·intro e
   rw [if_neg (by rw [e];decide),if_pos e] at h2
   simp at h2
   exact h2.1
  ·intro e
   by_cases e1:(Zda u i).2.1=1
   ·rw [if_pos e1] at h2
    simp at h2
    have:(nxD u i).length=1:=h2
    omega
   ·by_cases e2:(Zda u i).2.1=2
    ·exact e2
    ·by_cases e3:(Zda u i).2.1=3
     ·rw [if_neg e1,if_neg e2,if_pos e3] at h2
      rw [Bool.and_eq_true] at h2
      have:(nxD u i).length=0:=of_decide_eq_true h2.1
      omega
     ·rw [if_neg e1,if_neg e2,if_neg e3] at h2
      cases h2
 constructor
 ·intro h
  have hA:=Zyq h hb
  refine⟨?_,by rw [(hA 0 hb).1,(hA 0 hb).2 rfl];rfl⟩
  rw [Zcj]
  intro i hi
  unfold Zlo
  rw [Bool.and_eq_true]
  refine⟨by unfold Zgq;rw [(hA i hi).1];simp,?_⟩
  rw [Bool.not_eq_true']
  unfold Zni at h
  rw [Zcj] at h
  have hl:=h i hi
  unfold Zwi at hl
  rw [Bool.and_eq_true] at hl
  have hl2:=hl.2
  rw [List.all_eq_true] at hl2
  unfold Zqf
  by_cases e2:(nxD u i).length=2
  ·have hall:∀ k∈nxD u i,((Zal u).getD k.toNat []).length=1:=by
    intro k hk
    have:=hl2 k hk
    unfold Z1o at this
    rw [(hen i hi).2 e2] at this
    have hkk:=hnx _ (Zfy hi)
    obtain⟨k1,k2⟩:=hkk.2 k hk
    rw [(hA k.toNat (by omega)).1]
    simpa using this
   rw [hall _ (Za6 (by omega)),hall _ (Za6 (by omega))]
   simp
  ·rw [decide_eq_false e2];rfl
 ·rintro⟨h1,h2⟩
  rw [Zcj] at h1
  have hA:∀ k < nb u,(Zal u).getD k []=prD u k:=by
   intro k hk
   have:=h1 k hk
   unfold Zlo Zgq at this
   rw [Bool.and_eq_true] at this
   exact (of_decide_eq_true this.1).symm
  unfold Zni
  rw [Zcj]
  intro i hi
  unfold Zwi
  rw [Bool.and_eq_true]
  constructor
  ·rw [Bool.or_eq_true]
   refine Or.inr ?_
   rw [Zcj]
   intro k hk
   unfold Zzs eqF
   rw [hA k hk]
   by_cases e:k=0
   ·subst e
    rw [hA 0 hk] at h2
    simp [h2]
   ·simp [e]
  ·rw [List.all_eq_true]
   intro k hk
   unfold Z1o
   by_cases e2:(Zda u i).2.1=2
   ·have hl2:=(hen i hi).1 e2
    have:=h1 i hi
    unfold Zlo Zqf at this
    rw [Bool.and_eq_true,decide_eq_true hl2,Bool.true_and,Bool.not_eq_true',Bool.or_eq_false_iff] at this
    obtain⟨_,t1,t2⟩:=this
    have hkk:=hnx _ (Zfy hi)
    obtain⟨k1,k2⟩:=hkk.2 k hk
    have hone:((Zal u).getD k.toNat []).length=1:=by
     obtain⟨x,y,hxy⟩:∃ x y,nxD u i=[x,y]:=by
      match hq:nxD u i,hl2 with
      | [x,y],_=>exact⟨x,y,rfl⟩
     rw [hxy] at hk t1 t2
     simp at hk t1 t2
     rcases hk with rfl | rfl
     ·exact t1
     ·exact t2
    rw [hA k.toNat (by omega)] at hone
    simp [hone]
   ·rw [decide_eq_false e2];rfl
def vNf (v:Za9.D):Int:=v.2.2.2.1
theorem Zv7 (v:Za9.D)(r:List Za9.D)(ps:List Bool):Zj4 (v::r) ps=if v.1=1 then (if ps.getD (vNf v).toNat false then false else Zj4 r (ps.set (vNf v).toNat true)) else Zj4 r ps:=rfl
theorem Zr5 (n:Int)(x:Za9.D):Zka n x=(decide (x.1=1) && decide (vNf x=n)):=rfl
theorem Z0o:∀ (l:List Za9.D) (ps:List Bool),ps.length=40→(∀ v∈l,v.1=1→0≤vNf v∧vNf v < 40)→
  (Zj4 l ps=true↔∀ (i:Nat) (h:i < l.length),l[i].1=1→ps.getD (vNf l[i]).toNat false=false∧(l.take i).any (Zka (vNf l[i]))=false):=by
 intro l
 induction l with
 | nil=>intro ps _ _;simp [Zj4]
 | cons v r ih =>
  intro ps hl hN
  have hNr:∀ w∈r,w.1=1→0≤vNf w∧vNf w < 40:=fun w hw=>hN w (by simp [hw])
  rw [Zv7]
  by_cases e1:v.1=1
  ·rw [if_pos e1]
   obtain⟨n1,n2⟩:=hN v (by simp) e1
   obtain⟨n,hn⟩:∃ n:Nat,vNf v=(n:Int):=⟨(vNf v).toNat,by omega⟩
   have hn40:n < 40:=by omega
   rw [hn,Int.toNat_natCast]
   by_cases hp:ps.getD n false=true
   ·rw [if_pos hp]
    refine⟨fun h=>(by cases h),fun h=>?_⟩
    have:=(h 0 (by simp) e1).1
    simp only [List.getElem_cons_zero] at this
    rw [hn,Int.toNat_natCast,hp] at this
    cases this
   ·rw [if_neg hp,ih _ (by simpa using hl) hNr]
    rw [Bool.not_eq_true] at hp
    constructor
    ·intro h i hi e
     cases i with
     | zero =>
      refine⟨?_,rfl⟩
      simp only [List.getElem_cons_zero]
      rw [hn,Int.toNat_natCast];exact hp
     | succ i =>
      simp only [List.getElem_cons_succ] at e ⊢
      obtain⟨g1,g2⟩:=h i (by simpa using hi) e
      rw [Zbr (by omega),Bool.or_eq_false_iff] at g1
      refine⟨g1.2,?_⟩
      rw [List.take_succ_cons,List.any_cons,g2,Bool.or_false]
      have hni:=hNr _ (List.getElem_mem (show i < r.length by simpa using hi)) e
      have hd:=of_decide_eq_false g1.1
      rw [Zr5]
      rw [decide_eq_true e1,Bool.true_and,decide_eq_false_iff_not,hn]
      intro hh
      apply hd
      rw [← hh,Int.toNat_natCast]
    ·intro h i hi e
     have hh:=h (i+1) (by simpa using hi) (by simpa using e)
     simp only [List.getElem_cons_succ] at hh
     obtain⟨g1,g2⟩:=hh
     rw [List.take_succ_cons,List.any_cons,Bool.or_eq_false_iff] at g2
     refine⟨?_,g2.2⟩
     rw [Zbr (by omega),Bool.or_eq_false_iff]
     refine⟨?_,g1⟩
     have hni:=hNr _ (List.getElem_mem hi) e
     have h3:=g2.1
     rw [Zr5] at h3
     rw [decide_eq_true e1,Bool.true_and,decide_eq_false_iff_not,hn] at h3
     rw [decide_eq_false_iff_not]
     intro hh
     apply h3
     omega
  ·rw [if_neg e1,ih _ hl hNr]
   constructor
   ·intro h i hi e
    cases i with
    | zero=>exact absurd e e1
    | succ i =>
     simp only [List.getElem_cons_succ] at e ⊢
     obtain⟨g1,g2⟩:=h i (by simpa using hi) e
     refine⟨g1,?_⟩
     rw [List.take_succ_cons,List.any_cons,g2,Bool.or_false]
     rw [Zr5]
     rw [decide_eq_false e1,Bool.false_and]
   ·intro h i hi e
    have hh:=h (i+1) (by simpa using hi) (by simpa using e)
    simp only [List.getElem_cons_succ] at hh
    obtain⟨g1,g2⟩:=hh
    rw [List.take_succ_cons,List.any_cons,Bool.or_eq_false_iff] at g2
    exact⟨g1,g2.2⟩
theorem Zun {op:Int}(h:Zpg op=true)(n:Nat)(N st:Int)(l:List Int):Zhw n op N st l=((!lvs op || Zas st n) && (if op=20 then decide (l.length=1) else if op=1 then Zas N 40 else true)):=by
 unfold Zpg at h
 simp at h
 unfold Zhw lvs
 rw [decide_eq_false (show ¬ op < 1 by omega),decide_eq_false (show ¬ 23 < op by omega)]
 by_cases e20:op=20
 ·subst e20;cases decide (l.length=1) <;> simp
 by_cases e1:op=1
 ·subst e1
  by_cases hb:Zas N 40=true
  ·obtain⟨b1,b2⟩:=Zbe.1 hb
   rw [hb,decide_eq_false (show ¬ 1073741824 < N by omega)];rfl
  ·rw [Bool.not_eq_true] at hb;rw [hb];rfl
 ·rw [if_neg e20,if_neg e1,decide_eq_false e20,decide_eq_false e1]
  cases (decide (op=22) || decide (op=23)) <;> cases Zas st n <;> rfl
theorem Z05 (b:Nat){n:Nat}:∀ (l bl:List Int),(∀ v∈l,v.toNat≠n)→(Zp3 b l bl).getD n 0=bl.getD n 0:=by
 intro l
 induction l with
 | nil=>intro bl _;rfl
 | cons v r ih =>
  intro bl h
  have e:Zp3 b (v::r) bl=Zp3 b r (bl.set v.toNat (b:Int)):=rfl
  rw [e,ih _ (fun w hw=>h w (by simp [hw]))]
  rw [List.getD_eq_getElem?_getD,List.getElem?_set_ne (h v (by simp)),← List.getD_eq_getElem?_getD]
theorem Zyg {n:Nat}:∀ (bs:List Zct.D) (b:Nat) (bl:List Int),(∀ x∈bs,∀ v∈(show List Int from x.1),v.toNat≠n)→(Zh7 b bs bl).getD n 0=bl.getD n 0:=by
 intro bs
 induction bs with
 | nil=>intro b bl _;rfl
 | cons x r ih =>
  intro b bl h
  rw [Zh7,ih _ _ (fun y hy=>h y (by simp [hy])),Z05 b _ _ (h x (by simp))]
theorem Zrh {s:StS}(hs:Zcd u=some s){n:Nat}(hn:n < nv u):∃ b < nb u,∃ q < (vlD u b).length,(vlD u b).getD q 0=(n:Int)∧s.1.getD n 0=(b:Int)∧s.2.1.getD n 0=(q:Int):=by
 have hS:=Zex hs
 obtain⟨_,_,e1,_⟩:=Zh1.1 hs
 have hb:=hS.bb n hn
 rw [e1] at hb
 by_cases hex:∃ x∈(show List Zct.D from u.2.2.2.1),∃ v∈(show List Int from x.1),v.toNat=n
 ·obtain⟨x,hx,v,hv,hvn⟩:=hex
  obtain⟨b,hb',rfl⟩:=List.getElem_of_mem hx
  have hb2:b < nb u:=hb'
  have ev:vlD u b=(show List Int from (u.2.2.2.1[b]).1):=by unfold vlD;rw [Zb2 hb2]
  rw [← ev] at hv
  obtain⟨q,hq,hqv⟩:=List.getElem_of_mem hv
  obtain⟨n',g1,g2,g3,g4⟩:=hS.at_ b hb2 q hq
  have:(vlD u b).getD q 0=v:=by rw [List.getD_eq_getElem?_getD,List.getElem?_eq_getElem hq,← hqv];rfl
  rw [this] at g1
  have:n'=n:=by omega
  subst this
  exact⟨b,hb2,q,hq,by rw [‹(vlD u b).getD q 0=v›];exact g1,g3,g4⟩
 ·exfalso
  have:=Zyg (n:=n) u.2.2.2.1 0 (List.replicate (nv u) (-1)) (fun x hx v hv e=>hex ⟨x,hx,v,hv,e⟩)
  rw [this] at hb
  simp [List.getD_eq_getElem?_getD,hn] at hb
theorem Zzc (h:Zng u){s:StS}(hs:Zcd u=some s)(hA:∀ k < nb u,(Zal u).getD k []=prD u k) :
  Zp4 u s.1=true↔((show List Za9.D from u.2.2.1).all (Ziu u)=true∧(∀ b < nb u,∀ v∈vlD u b,phN u (Zal u) b v=true)∧Zj4 u.2.2.1 (List.replicate 40 false)=true):=by
 have hS:=Zex hs
 have hop:∀ n < nv u,Zpg (Za3 u (n:Nat)).1=true:=fun n hn=>h _ (Zhc hn)
 have hrv:∀ n < nv u,Ziu u (Za3 u (n:Nat))=((!lvs (Za3 u (n:Nat)).1 || Zas (show Int from (Za3 u (n:Nat)).2.2.2.2.2.1) (ns u)) && (if (Za3 u (n:Nat)).1=20 then decide (List.length (Za3 u (n:Nat)).2.2.2.2.1=1) else if (Za3 u (n:Nat)).1=1 then Zas (vNf (Za3 u (n:Nat))) 40 else true) && Zcb u (Zfb (Za3 u (n:Nat)))):=by
  intro n hn
  unfold Ziu
  rw [Zun (hop n hn),Zia h]
  rfl
 have hvf:∀ n < nv u,Zve u s.1 n=(Zcb u (Zfb (Za3 u (n:Nat))) && (!lvs (Za3 u (n:Nat)).1 || Zas (show Int from (Za3 u (n:Nat)).2.2.2.2.2.1) (ns u)) &&
   (if (Za3 u (n:Nat)).1=20 then decide (List.length (Za3 u (n:Nat)).2.2.2.2.1=1) else if (Za3 u (n:Nat)).1=21 then decide (List.length (Za3 u (n:Nat)).2.2.2.2.1=Zlg u (s.1.getD n 0)) else if (Za3 u (n:Nat)).1=1 then Zas (vNf (Za3 u (n:Nat))) 40 && !((show List Za9.D from u.2.2.1).take n).any (Zka (vNf (Za3 u (n:Nat)))) else true)):=by
  intro n hn
  unfold Zve
  rw [hop n hn,Bool.true_and]
  rfl
 unfold Zp4
 rw [Zcj]
 have hpar:=Z0o u.2.2.1 (List.replicate 40 false) (by simp)
 constructor
 ·intro hv
  have g1:(show List Za9.D from u.2.2.1).all (Ziu u)=true:=by
   rw [List.all_eq_true]
   intro v hv'
   obtain⟨n,hn,rfl⟩:=List.getElem_of_mem hv'
   have hn':n < nv u:=hn
   have:=hv n hn'
   rw [hvf n hn'] at this
   have e:=hrv n hn'
   rw [Zc6 hn'] at this e
   show Ziu u u.2.2.1[n]=true
   rw [e]
   simp only [Bool.and_eq_true] at this ⊢
   refine⟨⟨this.1.2,?_⟩,this.1.1⟩
   have h3:=this.2
   by_cases e20:(u.2.2.1[n]).1=20
   ·rw [if_pos e20] at h3 ⊢;exact h3
   ·rw [if_neg e20] at h3 ⊢
    by_cases e1:(u.2.2.1[n]).1=1
    ·rw [if_neg (by rw [e1];decide),if_pos e1,Bool.and_eq_true] at h3
     rw [if_pos e1];exact h3.1
    ·rw [if_neg e1]
  refine⟨g1,?_,?_⟩
  ·intro b hb v hvb
   obtain⟨q,hq,hqv⟩:=List.getElem_of_mem hvb
   obtain⟨n,g2,g3,g4,g5⟩:=hS.at_ b hb q hq
   have e:(vlD u b).getD q 0=v:=by rw [List.getD_eq_getElem?_getD,List.getElem?_eq_getElem hq,← hqv];rfl
   rw [e] at g2
   subst g2
   have:=hv n g3
   rw [hvf n g3] at this
   simp only [Bool.and_eq_true] at this
   unfold phN
   by_cases e21:(Za3 u (n:Nat)).1=21
   ·have h3:=this.2
    rw [if_neg (by rw [e21];decide),if_pos e21] at h3
    have h4:=of_decide_eq_true h3
    rw [hA b hb,decide_eq_true e21,Bool.not_true,Bool.false_or,decide_eq_true_eq,h4,g4]
    unfold Zlg
    rw [Int.toNat_natCast]
   ·rw [decide_eq_false e21];rfl
  ·rw [hpar (fun v hv' e1=>by
    obtain⟨n,hn,rfl⟩:=List.getElem_of_mem hv'
    have hn':n < nv u:=hn
    have:=hv n hn'
    rw [hvf n hn',Zc6 hn'] at this
    simp only [Bool.and_eq_true] at this
    have h3:=this.2
    rw [if_neg (by rw [e1];decide),if_neg (by rw [e1];decide),if_pos e1,Bool.and_eq_true] at h3
    exact Zbe.1 h3.1)]
   intro i hi e1
   have hi':i < nv u:=hi
   have:=hv i hi'
   rw [hvf i hi',Zc6 hi'] at this
   simp only [Bool.and_eq_true] at this
   have h3:=this.2
   rw [if_neg (by rw [e1];decide),if_neg (by rw [e1];decide),if_pos e1,Bool.and_eq_true,Bool.not_eq_true'] at h3
   refine⟨?_,h3.2⟩
   rw [List.getD_eq_getElem?_getD,List.getElem?_replicate]
   split <;> rfl
 ·rintro⟨g1,g2,g3⟩ n hn
  rw [List.all_eq_true] at g1
  have hN:∀ v∈u.2.2.1,v.1=1→0≤vNf v∧vNf v < 40:=by
   intro v hv' e1
   obtain⟨n,hn,rfl⟩:=List.getElem_of_mem hv'
   have hn':n < nv u:=hn
   have:=g1 _ hv'
   have e:=hrv n hn'
   rw [Zc6 hn'] at e
   have this':Ziu u u.2.2.1[n]=true:=this
   rw [e] at this'
   simp only [Bool.and_eq_true] at this'
   have h3:=this'.1.2
   rw [if_neg (by rw [e1];decide),if_pos e1] at h3
   exact Zbe.1 h3
  rw [hpar hN] at g3
  have hr:Ziu u (Za3 u (n:Nat))=true:=g1 _ (Zhc hn)
  rw [hrv n hn] at hr
  rw [hvf n hn]
  simp only [Bool.and_eq_true] at hr ⊢
  refine⟨⟨hr.2,hr.1.1⟩,?_⟩
  have h3:=hr.1.2
  by_cases e20:(Za3 u (n:Nat)).1=20
  ·rw [if_pos e20] at h3 ⊢;exact h3
  rw [if_neg e20] at h3 ⊢
  by_cases e21:(Za3 u (n:Nat)).1=21
  ·rw [if_pos e21]
   obtain⟨b,hb,q,hq,k1,k2,k3⟩:=Zrh hs hn
   have:=g2 b hb _ (Za6 hq)
   rw [k1] at this
   unfold phN at this
   rw [decide_eq_true e21,Bool.not_true,Bool.false_or,decide_eq_true_eq,hA b hb] at this
   rw [decide_eq_true_eq,this,k2]
   unfold Zlg
   rw [Int.toNat_natCast]
  rw [if_neg e21]
  by_cases e1:(Za3 u (n:Nat)).1=1
  ·rw [if_pos e1] at h3 ⊢
   rw [Bool.and_eq_true,Bool.not_eq_true']
   rw [Zc6 hn] at e1 h3 ⊢
   exact⟨h3,(g3 n hn e1).2⟩
  ·rw [if_neg e1]
end Go.Proofs.YtcgmchechmbmeaaDoor.base
end
