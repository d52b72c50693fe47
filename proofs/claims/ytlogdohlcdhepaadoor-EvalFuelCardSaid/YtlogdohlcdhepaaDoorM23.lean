/- This text proves that the units of turnstonehand.Unit bear a certificate, and so are right, in Ztm Lean. No condition but what the theorems themselves say. -/
import Derived.Test.YtlogdohlcdhepaaDoorM22
import Derived.Test.YtlogdohlcdhepaaDoorM2
set_option linter.unusedVariables false
set_option linter.unusedSimpArgs false
section
set_option maxRecDepth 100000
namespace Go.Proofs.YtlogdohlcdhepaaDoor.base
open Go.Sh gen
variable {s s':Us}{B B':List Nat}{G:Gt}{ops:List Int}
def G0:Gt:=[([0],[])]
def Yan (v:Nat):Zbu.D:=((1:Int),(0:Int),(0:Int),(v:Int),([]:List Int),(0:Int),())
theorem Z0t (k:Nat):(∀ v < k,vAt (Zbj k).vals v=Yan v)∧(Zbj k).known=(List.range k).map Int.ofNat∧(Zbj k).bv=(List.range k).map Int.ofNat∧(Zbj k).bp=[]:=by
 induction k with
 | zero=>exact⟨fun v hv=>by omega,rfl,rfl,rfl⟩
 | succ k ih =>
  obtain⟨h1,h2,h3,h4⟩:=ih
  have hl:=(Zin k).1
  have ev:(Zbj (k+1)).vals=(Zbj k).vals++[Yan k]:=rfl
  refine⟨fun v hv=>?_,?_,?_,h4⟩
  ·rw [ev]
   by_cases e:v=k
   ·subst e
    have:=Zel (Zbj v).vals (Yan v)
    rw [hl] at this
    exact this
   ·rw [Zi _ _ (by omega)];exact h1 v (by omega)
  ·show (Zbj k).known++[((Zbj k).vals.length:Int)]=_
   rw [h2,hl,List.range_succ,List.map_append];rfl
  ·show (Zbj k).bv++[((Zbj k).vals.length:Int)]=_
   rw [h3,hl,List.range_succ,List.map_append];rfl
theorem Zw7 (n:Nat):Zga (List.replicate n 0) 0=(List.range n).map Int.ofNat:=by
 unfold Zga
 rw [List.length_replicate]
 congr 1
 rw [List.filter_eq_self]
 intro v hv
 rw [List.mem_range] at hv
 rw [List.getD_eq_getElem?_getD,List.getElem?_replicate,if_pos hv];rfl
theorem Z2a (k:Nat)(hk:k≤4):Ld (knP (2,0,0,5,[],0,()) (Zbj k)) (List.replicate (k+1) 0) G0:=by
 obtain⟨h1,h2,h3,h4⟩:=Z0t k
 obtain⟨l1,l2,l3,l4,l5,l6⟩:=Zin k
 obtain⟨w,hw⟩:∃ w,knP (2,0,0,5,[],0,()) (Zbj k)=w:=⟨_,rfl⟩
 have wv:w.vals=(Zbj k).vals++[(2,0,0,5,[],0,())]:=by rw [← hw];rfl
 have wl:w.vals.length=k+1:=by rw [wv,List.length_append,l1];rfl
 have wb:w.blks=[]:=by rw [← hw];exact l4
 have ws:w.sts=[]:=by rw [← hw];exact l5
 have wk:w.known=(List.range (k+1)).map Int.ofNat:=by rw [← hw];show (Zbj k).known++[((Zbj k).vals.length:Int)]=_;rw [h2,l1,List.range_succ,List.map_append];rfl
 have wbv:w.bv=(List.range (k+1)).map Int.ofNat:=by rw [← hw];show (Zbj k).bv++[((Zbj k).vals.length:Int)]=_;rw [h3,l1,List.range_succ,List.map_append];rfl
 have wbp:w.bp=[]:=by rw [← hw];exact h4
 have wa:∀ v < k,vAt w.vals v=Yan v:=fun v hv=>by rw [wv,Zi _ _ (by omega)];exact h1 v hv
 have wc:vAt w.vals k=(2,0,0,5,[],0,()):=by
  rw [wv]
  have:=Zel (Zbj k).vals (2,0,0,5,[],0,())
  rw [l1] at this
  exact this
 rw [hw]
 have bz:∀ v,(List.replicate (k+1) 0).getD v 0=0:=fun v=>by
  rw [List.getD_eq_getElem?_getD,List.getElem?_replicate];split <;> rfl
 have wo:∀ v < k+1,((vAt w.vals v).1=1∧v < k)∨((vAt w.vals v).1=2∧v=k):=fun v hv=>by
  by_cases e:v=k
  ·subst e;rw [wc];exact Or.inr ⟨rfl,rfl⟩
  ·rw [wa v (by omega)];exact Or.inl ⟨rfl,by omega⟩
 have wn:∀ v < k+1,noW (vAt w.vals v).1=false:=fun v hv=>by
  rcases wo v hv with⟨e,_⟩ | ⟨e,_⟩ <;> rw [e] <;> rfl
 have ok:∀ v < k+1,OkS w.vals (List.replicate (k+1) 0) G0 0 w.vals.length (v:Nat):=fun v hv=>⟨v,rfl,by omega,wn v hv,by rw [bz];simp [Gd,G0]⟩
 have hR:Rg w (List.replicate (k+1) 0) G0:=by
  refine⟨by rw [List.length_replicate,wl],by rw [wb];exact Nat.zero_lt_one,fun v _=>by rw [bz];omega,by rw [wbv,wb];exact (Zw7 (k+1)).symm,fun i hi=>(by rw [wb] at hi;cases hi),fun i hi=>(by rw [wb] at hi;cases hi),by rw [wbp,wb];rfl,fun v hv=>?_,fun z hz=>?_,by rw [wk,List.range_succ];simp,fun v w' hvw hw' _ hh=>?_,fun v _ _=>bz v,fun v hv h21=>?_,fun i hi=>(by rw [ws] at hi;cases hi),fun i hi=>(by rw [wb] at hi;cases hi),fun i=>?_⟩
  ·rw [wl] at hv
   rcases wo v hv with⟨e,hvk⟩ | ⟨e,rfl⟩
   ·have ev:=wa v hvk
    refine⟨by rw [e];rfl,fun h=>(by rw [e] at h;cases h),fun _ z hz=>?_,fun h=>(by rw [e] at h;cases h),fun h=>(by rw [e] at h;cases h),fun _=>?_⟩
    ·rw [ev] at hz;cases hz
    ·rw [ev]
     refine⟨by show (0:Int)≤(v:Nat);omega,by show ((v:Nat):Int) < 40;omega,fun q hq=>?_⟩
     rw [wa q (by omega)]
     unfold Zl9
     rw [Bool.and_eq_false_iff]
     refine Or.inr (decide_eq_false ?_)
     show ¬ ((q:Nat):Int)=(v:Nat)
     omega
   ·refine⟨by rw [e];rfl,fun h=>(by rw [e] at h;cases h),fun _ z hz=>?_,fun h=>(by rw [e] at h;cases h),fun h=>(by rw [e] at h;cases h),fun h=>(by rw [e] at h;cases h)⟩
    rw [wc] at hz;cases hz
  ·rw [wk,List.mem_map] at hz
   obtain⟨n,hn,rfl⟩:=hz
   rw [List.mem_range] at hn
   rw [wb]
   exact ok n hn
  ·rw [wl] at hw'
   rcases wo w' hw' with⟨e,_⟩ | ⟨e,_⟩
   ·rcases wo v (by omega) with⟨e2,_⟩ | ⟨_,e2⟩
    ·rw [e2];rfl
    ·omega
   ·rw [e] at hh;cases hh
  ·rw [wl] at hv
   rcases wo v hv with⟨e,_⟩ | ⟨e,_⟩ <;> rw [e] at h21 <;> cases h21
  ·unfold hdN
   rw [List.length_replicate,List.range_succ,List.filter_append,List.length_append]
   have h1:((List.range k).filter fun v=>decide ((List.replicate (k+1) 0).getD v 0=i) && Za9 (vAt w.vals v).1).length≤k:=by
    have:=List.length_filter_le (fun v=>decide ((List.replicate (k+1) 0).getD v 0=i) && Za9 (vAt w.vals v).1) (List.range k)
    rwa [List.length_range] at this
   have h2:([k].filter fun v=>decide ((List.replicate (k+1) 0).getD v 0=i) && Za9 (vAt w.vals v).1)=[]:=by
    rw [List.filter_eq_nil_iff]
    intro v hv
    rw [List.mem_singleton] at hv
    subst hv
    rw [wc]
    simp [Za9]
   rw [h2]
   simp only [List.length_nil]
   omega
 refine⟨hR,by rw [wb];rfl,⟨Nat.zero_lt_one,rfl,rfl,fun b hb h0=>?_,fun b hb h0=>?_,fun b hb=>?_⟩,fun q hq=>?_,fun x hx=>(by rw [wb] at hx;cases hx),fun x hx=>(by rw [wb] at hx;cases hx),fun b hb=>?_⟩
 ·have:b < 1:=hb
  omega
 ·have:b < 1:=hb
  omega
 ·have:b < 1:=hb
  have:b=0:=by omega
  subst this
  simp [Gd,G0]
 ·rw [wb] at hq ⊢
  have:q=0:=by simpa using hq
  subst this
  rfl
 ·have:b < 1:=hb
  have:b=0:=by omega
  subst this
  exact ok 0 (by omega)
theorem Ld.row (h:Ld s B G):∃ B',Ld (Zf8 ops s) B' G:=by
 obtain⟨B',R,X⟩:=Zls (ops:=ops) h.r (h.g.s _ (by have:=h.gl;omega))
 have M:=(X.ek h.r.lb G).mo
 refine⟨B',R,by rw [X.bs];exact h.gl,h.g,by rw [X.bs];exact h.led,by rw [X.bs];exact h.nx,by rw [X.bs];exact h.one,fun b hb=>(h.v0 b hb).mono M (Nat.le_refl _) hb M.vl⟩
theorem Zsn:∀ (l:List Int) (k:Nat) {s:Us} {B:List Nat} {G:Gt},Ld s B G→∃ B' G',Ld (Zde ops l k s) B' G'
 | [],_,s,B,G,h=>⟨B,G,by rw [Zde];exact h⟩
 | _::_,0,s,B,G,h=>⟨B,G,by rw [Zde];exact h⟩
 | x::r,k+1,s,B,G,h=>by
  rw [Zde]
  split
  ·have key:∃ B' G',Ld (if x % 3=0 then Zx2 ops s else if x % 3=1 then Zl8 ops s else Znp ops s) B' G':=by
    split
    ·exact Z91 h
    split
    ·exact Z6r h
    ·exact Z62 h
   obtain⟨B',G',h'⟩:=key
   exact Zsn r k h'
  ·exact⟨B,G,h⟩
theorem Zxr {i:Nat}{k:Int}{L:List (List Int)}{j:Nat}(hj:j < L.length)(hk:0≤k):(Zdr i L k).getD j []=L.getD j []++(if k=(j:Int) then [(i:Int)] else []):=by
 unfold Zdr
 by_cases e:k=(j:Int)
 ·subst e
  rw [Int.toNat_natCast,Ze hj,if_pos rfl]
 ·rw [Zd2 (by omega),if_neg e,List.append_nil]
theorem Zwg {i j:Nat}(l:List Int){L:List (List Int)}(hj:j < L.length)(hk:∀ k∈l,(0:Int)≤k):(l.foldl (Zdr i) L).getD j []=L.getD j []++(l.filter fun t=>decide (t=(j:Int))).map (fun _=>(i:Int)):=by
 induction l generalizing L with
 | nil=>simp
 | cons k r ih =>
  rw [List.foldl_cons,ih (by unfold Zdr;rw [List.length_set];exact hj) (fun x hx=>hk x (by simp [hx])),Zxr hj (hk k (by simp)),List.filter_cons,List.append_assoc]
  by_cases e:k=(j:Int)
  ·rw [if_pos e,if_pos (decide_eq_true e)];rfl
  ·rw [if_neg e,if_neg (by simpa using e)];rfl
theorem Zxx {j:Nat}(bs:List Zf9.D):∀ (i:Nat) {L:List (List Int)},j < L.length→(∀ x∈bs,∀ t∈nxB x,(0:Int)≤t)→(Zef i bs L).getD j []=L.getD j []++Zny i bs (j:Int):=by
 induction bs with
 | nil=>intro i L _ _;simp [Zef,Zny]
 | cons x r ih =>
  intro i L hj hk
  rw [Zef,ih (i+1) (by rw [Zkv];exact hj) (fun y hy=>hk y (by simp [hy]))]
  have:=Zwg (i:=i) (nxB x) hj (hk x (by simp))
  rw [show List.foldl (Zdr i) L (show List Int from x.2.2.2.1)=List.foldl (Zdr i) L (nxB x) from rfl,this,List.append_assoc]
  rfl
theorem Ybz (h:Ld s B G)(hv:s.vals.length≤300)(hb:s.blks.length≤30)(hs:s.sts.length≤900):∃ D,UR (Zb1 3 0 [] (Zah ops s).2 (Zah ops s).1).un B D∧∀ i < nb (Zb1 3 0 [] (Zah ops s).2 (Zah ops s).1).un,(vlD (Zb1 3 0 [] (Zah ops s).2 (Zah ops s).1).un i).countP (fun v=>Za9 (Zbd (Zb1 3 0 [] (Zah ops s).2 (Zah ops s).1).un v).1)≤4:=by
 obtain⟨c,hc⟩:∃ c,s.blks.length=c:=⟨_,rfl⟩
 obtain⟨R,X,i5,l5,z5,v5,k5,b5⟩:=h.r.state (ops:=ops)
 have xb:=X.bs
 generalize (Zah ops s).2=st at i5 ⊢
 generalize (Zah ops s).1=t at R X l5 z5 v5 k5 b5 xb ⊢
 have hcl:t.blks.length=c:=by rw [xb,hc]
 have hgl:=h.gl
 have M:=(X.ek h.r.lb G).mo
 obtain⟨u,hu⟩:∃ u,(Zb1 3 0 [] st t).un=u:=⟨_,rfl⟩
 rw [hu]
 have ub:u.2.2.2.1=t.blks++[(t.bv,3,0,[],t.bp,st,())]:=by rw [← hu];rfl
 have uv:u.2.2.1=t.vals:=by rw [← hu];rfl
 have us:u.2.2.2.2.1=t.sts:=by rw [← hu];rfl
 have nbu:nb u=c+1:=by unfold nb;rw [ub,List.length_append,hcl];rfl
 have nvu:nv u=t.vals.length:=by unfold nv;rw [uv]
 have nsu:ns u=t.sts.length:=by unfold ns;rw [us]
 have ev:∀ v:Nat,Zbd u (v:Int)=vAt t.vals v:=fun v=>by unfold Zbd;rw [Int.toNat_natCast];show List.getD u.2.2.1 v _=_;rw [uv];rfl
 have eb:∀ i,Zbx u i=bAt (t.blks++[(t.bv,3,0,[],t.bp,st,())]) i:=fun i=>by show List.getD u.2.2.2.1 i _=_;rw [ub];rfl
 have es:∀ i,stD u i=sAt t.sts i:=fun i=>by show (List.getD u.2.2.2.2.1 i _).1=_;rw [us];rfl
 have eo:∀ i < c,Zbx u i=bAt t.blks i:=fun i hi=>by rw [eb,Zp5 _ _ (by omega)]
 have en:Zbx u c=(t.bv,3,0,[],t.bp,st,()):=by rw [eb,← hcl,Zqj]
 obtain⟨D,hD⟩:∃ D,G.map Prod.fst=D:=⟨_,rfl⟩
 have eD:∀ i,D.getD i []=Gd G i:=fun i=>by
  rw [← hD,List.getD_eq_getElem?_getD,List.getElem?_map]
  unfold Gd
  rw [List.getD_eq_getElem?_getD]
  cases G[i]? with
  | none=>rfl
  | some x=>rfl
 have ok:∀ {i w:Nat} {z:Int},OkS t.vals B G i w z→OkV u B D i w z:=fun {i w z} ⟨n,h1,h2,h3,h4⟩=>⟨n,h1,h2,by rw [ev];exact h3,by rw [eD];exact h4⟩
 have epr:∀ b < c+1,prD u b=Gp G b:=fun b hb=>by
  by_cases e:b < c
  ·show (Zbx u b).2.2.2.2.1=_
   rw [eo b e];exact R.pb b (by omega)
  ·have:b=c:=by omega
   subst this
   show (Zbx u b).2.2.2.2.1=_
   rw [en,← hcl];exact R.bp
 have enx:∀ x∈u.2.2.2.1,∀ t'∈nxB x,(0:Int)≤t'∧t'≤c:=fun x hx t' ht=>by
  rw [ub,List.mem_append] at hx
  rcases hx with hx | hx
  ·rw [xb] at hx;have:=h.nx x hx t' ht;omega
  ·rw [List.mem_singleton] at hx;subst hx;cases ht
 have eah:∀ b < c+1,(Zaz u).getD b []=Gp G b:=fun b hb=>by
  unfold Zaz
  rw [Zxx _ 0 (by rw [List.length_replicate,nbu];exact hb) (fun x hx t' ht=>(enx x hx t' ht).1),ub,Zz7,xb,h.led b (by omega),List.getD_eq_getElem?_getD,List.getElem?_replicate,if_pos (by rw [nbu];exact hb)]
  simp [nxB]
 have evl:∀ i < c+1,vlD u i=Zga B i:=fun i hi=>by
  show (Zbx u i).1=_
  by_cases e:i < c
  ·rw [eo i e];exact R.bl i (by omega)
  ·have:i=c:=by omega
   subst this
   rw [en,← hcl];exact R.bv
 refine⟨D,⟨?_,by rw [nvu];exact R.lb,fun v hv'=>?_,fun i hi=>?_,fun v w hvw hw hB hh=>?_,fun v hv' h1=>?_,fun v hv' h2=>?_,fun b hb'=>?_,?_,fun b hb' hb0 p hp=>?_,fun a ha=>?_,fun b hb' hb0=>?_,fun i hi t' ht=>?_,fun i hi=>?_,fun v hv'=>?_,fun i hi=>?_⟩,fun i hi=>?_⟩
 ·unfold Zjm
  have e1:¬ 3000 < nv u:=by rw [nvu,v5];omega
  have e2:¬ 300 < nb u:=by rw [nbu];omega
  have e3:¬ 1000 < ns u:=by rw [nsu,l5];omega
  have e4:¬ nb u=0:=by rw [nbu];omega
  rw [decide_eq_false e1,decide_eq_false e2,decide_eq_false e3,decide_eq_false e4];rfl
 ·rw [nvu] at hv';rw [nbu]
  have:=R.bb v hv';omega
 ·rw [nbu] at hi
  exact evl i hi
 ·rw [nvu] at hw;rw [ev] at hh ⊢
  exact R.hd v w hvw hw hB hh
 ·rw [nvu] at hv';rw [ev] at h1;exact R.h1 v hv' h1
 ·rw [nvu] at hv';rw [ev] at h2;exact R.h2 v hv' h2
 ·rw [nbu] at hb';rw [eah b hb',epr b hb']
 ·rw [epr 0 (by omega)];exact h.g.p0
 ·rw [nbu] at hb' ⊢
  rw [epr b hb'] at hp
  obtain⟨q,e,hq,ha⟩:=h.g.pr b (by omega) hb0 p hp
  refine⟨q,e,by omega,fun a hA=>?_⟩
  rw [eD] at hA ⊢
  exact ha a hA
 ·rw [eD] at ha
  have ha:a∈Gd G 0:=ha
  rw [h.g.z,List.mem_singleton] at ha
  exact ha
 ·rw [nbu] at hb';rw [epr b hb']
  exact h.g.rc b (by omega) hb0
 ·rw [nbu] at hi ⊢
  have:=enx (Zbx u i) (Zkp (by rw [nbu];exact hi)) t' ht
  omega
 ·rw [nbu] at hi
  by_cases e:i < c
  ·have hE:=R.en i (by omega)
   have e2:=eo i e
   rcases hE with⟨h1,h2⟩ | ⟨h1,h2,h3⟩ | ⟨h1,h2,k,h3,h4,h5⟩
   ·exact Or.inl ⟨by rw [e2];exact h1,by show List.length (Zbx u i).2.2.2.1=1;rw [e2];exact h2⟩
   ·refine Or.inr (Or.inl ⟨by rw [e2];exact h1,by show List.length (Zbx u i).2.2.2.1=2;rw [e2];exact h2,fun t' ht=>?_,?_⟩)
    ·have ht:t'∈nxB (Zbx u i):=ht
     have hm:bAt t.blks i∈s.blks:=by
      rw [← xb]
      unfold bAt
      rw [List.getD_eq_getElem?_getD,List.getElem?_eq_getElem (show i < t.blks.length by omega)]
      exact List.getElem_mem _
     rw [e2] at ht
     have h6:=h.nx _ hm t' ht
     rw [epr _ (by omega)]
     exact h.one _ hm h1 t' ht
    ·rw [e2,nvu];exact ok h3
   ·refine Or.inr (Or.inr ⟨by rw [e2];exact h1,by show List.length (Zbx u i).2.2.2.1=0;rw [e2];exact h2,k,by rw [nsu];exact h3,by rw [e2];exact h4,fun z hz=>?_⟩)
    rw [es] at hz
    rw [nvu];exact ok (h5 z hz)
  ·have:i=c:=by omega
   subst this
   refine Or.inr (Or.inr ⟨by rw [en],by show List.length (Zbx u i).2.2.2.1=0;rw [en];rfl,s.sts.length,by rw [nsu];omega,by rw [en];exact i5,fun z hz=>?_⟩)
   rw [es] at hz
   have:=z5 z hz
   rw [hc] at this
   rw [nvu,v5]
   rw [← v5] at this ⊢
   exact ok this
 ·rw [nvu] at hv'
  have hV:=R.va v hv'
  have hbv:=R.bb v hv'
  refine⟨by rw [ev];exact hV.op,fun h0=>?_,fun h0 z hz=>?_,fun h0=>?_,fun h0=>?_,fun h0=>?_⟩
  ·rw [ev] at h0
   obtain⟨g1,g2⟩:=hV.ph h0
   have ea:agV u v=Zfc (vAt t.vals v):=by show (Zbd u (v:Nat)).2.2.2.2.1=_;rw [ev]
   rw [ea,epr _ (by omega)]
   refine⟨g1,fun j hj=>?_⟩
   obtain⟨q,g3,g4,g5⟩:=g2 j hj
   exact⟨q,g3,by rw [nbu];omega,by rw [nvu];exact ok g5⟩
  ·rw [ev] at h0 hz;exact ok (hV.us h0 z hz)
  ·rw [ev] at h0
   have ea:agV u v=Zfc (vAt t.vals v):=by show (Zbd u (v:Nat)).2.2.2.2.1=_;rw [ev]
   rw [ea];exact hV.pa h0
  ·rw [ev] at h0 ⊢
   obtain⟨k,h1,h2,h3⟩:=hV.lv h0
   refine⟨k,by rw [nsu];exact h1,h2,fun z hz=>?_⟩
   rw [es] at hz
   exact ok (h3 z hz)
  ·rw [ev] at h0 ⊢
   obtain⟨h1,h2,h3⟩:=hV.pm h0
   refine⟨h1,h2,fun w hw=>?_⟩
   rw [ev];exact h3 w hw
 ·rw [nsu] at hi
  rw [es]
  obtain⟨pc,loc,stk,h1,h2,h3,h4⟩:=R.sf i hi
  rw [h1]
  have th:∀ l:List Int,(∀ z∈l,z∈loc++stk)→Zcm u l=true:=fun l hl=>by
   unfold Zcm
   rw [List.all_eq_true]
   intro z hz
   obtain⟨n,g1,rfl,g2⟩:=h4 z (hl z hz)
   rw [Zc6.2 ⟨by omega,by rw [nvu];omega⟩,ev,g2];rfl
  unfold Zfa
  rw [List.all_cons,List.all_nil,Bool.and_true]
  unfold Zlh
  dsimp only
  rw [decide_eq_false (show ¬ 40 < loc.length by omega),decide_eq_false (show ¬ 60 < stk.length by omega),th loc (fun z hz=>List.mem_append_left _ hz),th stk (fun z hz=>List.mem_append_right _ hz)]
  rfl
 ·rw [nbu] at hi
  rw [evl i hi]
  have:=R.hn i
  unfold hdN at this
  unfold Zga
  rw [List.countP_map,List.countP_eq_length_filter,List.filter_filter]
  refine Nat.le_trans (Nat.le_of_eq (congrArg List.length (List.filter_congr fun v _=>?_))) this
  show (Za9 (Zbd u (v:Nat)).1 && decide (B.getD v 0=i))=_
  rw [ev,Bool.and_comm]
theorem Zwe (ops sh:List Int)(n:Int)(hv:(Zdn ops sh n).vals.length≤300)(hb:(Zdn ops sh n).blks.length≤20)(hs:(Zdn ops sh n).sts.length≤330):∃ B D,UR (Zdn ops sh n).un B D∧∀ i < nb (Zdn ops sh n).un,(vlD (Zdn ops sh n).un i).countP (fun v=>Za9 (Zbd (Zdn ops sh n).un v).1)≤4:=by
 have hn:(n % 5).toNat≤4:=by omega
 obtain⟨B1,h1⟩:=(Z2a _ hn).row (ops:=ops)
 obtain⟨B2,G2,h2⟩:=Zsn (ops:=ops) sh 6 h1
 unfold Zdn at hv hb hs ⊢
 dsimp only at hv hb hs ⊢
 generalize Zde ops sh 6 _=s at h2 hv hb hs ⊢
 obtain⟨a,loc,e,e2,_⟩:=Zsr ops s
 have hv2:s.vals.length≤300:=by rw [e] at hv;exact hv
 have hb2:s.blks.length≤30:=by
  rw [e] at hb
  have:(s.blks++[_]).length≤20:=hb
  rw [List.length_append] at this;omega
 have hs2:s.sts.length≤900:=by
  rw [e] at hs
  have:(s.sts++[_]).length≤330:=hs
  rw [List.length_append] at this;omega
 obtain⟨D,hU⟩:=Ybz (ops:=ops) h2 hv2 hb2 hs2
 exact⟨B2,D,hU⟩
end Go.Proofs.YtlogdohlcdhepaaDoor.base
end
section
set_option maxRecDepth 100000
namespace Go.Proofs.YtlogdohlcdhepaaDoor.base
open Go.Sh gen
variable {S:Zc}{m:Mem}
def wO (os:List (Int × List Int)):List Int:=0::os.flatMap fun o=>Zce o.1 o.2.length::o.2
structure OkO (os:List (Int × List Int))(room:Int):Prop where
 r:1≤room∧room≤65536
 l:(wO os).length≤room
 n:os.length≤8
 o:∀ o∈os,5≤o.1∧o.1≤7∧o.2.length≤100∧Wd o.2
theorem Z0z (os:List (Int × List Int))(t:Int)(B:List Int):wO (os++[(t,B)])=wO os++Zce t B.length::B:=by
 simp [wO]
theorem Z8p {os:List (Int × List Int)}{room:Int}(h:OkO os room):Wd (wO os):=by
 have h2:=h.o
 clear h
 refine Zs6.2 ⟨by omega,?_⟩
 induction os with
 | nil=>intro w hw;simp at hw
 | cons o os ih =>
  have h1:=h2 o (by simp)
  rw [List.flatMap_cons]
  exact Z0k.2 ⟨Zs6.2 ⟨Zz1 (by omega) (by omega),h1.2.2.2⟩,ih (fun o ho=>h2 o (by simp [ho]))⟩
theorem Z1h {α:Type}{a b:List α}{i:Nat}(ha:i < a.length)(hb:i < b.length)(h:a[i]≠b[i]):a≠b:=fun e=>by subst e;exact h rfl
theorem Zsb (hS:S 19=[]){ao bo:Option Addr}{a b:List Int}{af bf ae be:Nat}(ha:Rs m ao a.length (words a) ae 1 af)(hb:Rs m bo b.length (words b) be 1 bf)(hal:a.length≤4611686018427387904)(hbl:b.length≤4611686018427387904) :
  ∃ q:Bool,Zal Tryd.prog TT S 19 [.slice ao a.length a.length,.slice bo b.length b.length] m=some (.bool q,m)∧(q=true↔a=b):=by
 suffices h:∃ v m1,Zal Tryd.prog TT S 19 [.slice ao a.length a.length,.slice bo b.length b.length] m=some (v,m1)∧∃ q:Bool,v=.bool q∧(q=true↔a=b)∧m1=m by
  obtain⟨_,_,h,q,rfl,hq,rfl⟩:=h
  exact⟨q,h,hq⟩
 refine Zfz 6 [10,14,25] k19 hS rfl ?_
 by_cases hll:a.length=b.length
 ·simp [-Int.natCast_add,Zac u42,hll]
  rw [hll] at ha
  refine Zaq 6 [10,14,25] (fun d E m2=>∃ i:Nat,b.length - i=d∧i≤b.length∧a.take i=b.take i∧m2=m∧E=[(0,.slice ao b.length b.length),(1,.slice bo b.length b.length),(5,.int .i64 i)]) _ ⟨_,⟨0,rfl,by omega,by simp,rfl,rfl⟩,⟨by rfl,by rfl,by rfl,trivial⟩⟩ ?_
  rintro d E m2 ih ⟨i,hd,hi,heq,rfl,rfl⟩
  by_cases hlt:i < b.length
  ·have em:(i:Int)≤9223372036854775807:=by omega
   have hlt':(i:Int) < b.length:=by omega
   have wi:IntKind.i64.wrap ((i:Int)+1)=((i+1:Nat):Int):=by rw [Zaf (by omega) (by omega)];omega
   have hla:i < a.length:=by omega
   obtain⟨ab,rfl,oa⟩:=ha.rdo (by omega)
   obtain⟨bb,rfl,ob⟩:=hb.rdo (by omega)
   have la:loadRow m2 ⟨ab,i,none⟩ 1=some [.int .u64 a[i]]:=oa.load1 (by simp [words,hla])
   have lb:loadRow m2 ⟨bb,i,none⟩ 1=some [.int .u64 b[i]]:=ob.load1 (by simp [words,hlt])
   have ta:a.take (i+1)=a.take i++[a[i]]:=List.take_succ_eq_append_getElem hla
   have tb:b.take (i+1)=b.take i++[b[i]]:=List.take_succ_eq_append_getElem hlt
   have hne:=Z1h hla hlt
   generalize a[i]=x at *
   generalize b[i]=y at *
   by_cases c:x=y
   ·subst c
    simp [-Int.natCast_add,Zac u42,Zab u42 Zfu,Zaa Zn7,hlt,hlt',em,la,lb,wi]
    exact ih _ _ _ _ ⟨i+1,rfl,by omega,by rw [ta,tb,heq],rfl,rfl⟩ (by omega) ⟨by rfl,by rfl,by rfl,trivial⟩
   ·simp [-Int.natCast_add,Zac u42,Zab u42 Zfu,Zaa Zn7,hlt,hlt',em,la,lb,c]
    exact hne c
  ·have hlt':¬ (i:Int) < b.length:=by omega
   have e1:a=b:=by
    have h1:a.take i=a:=List.take_of_length_le (by omega)
    have h2:b.take i=b:=List.take_of_length_le (by omega)
    rw [← h1,heq,h2]
   simp [-Int.natCast_add,Zac u42,hlt']
   exact e1
 ·have hll':¬ (a.length:Int)=(b.length:Int):=by omega
  simp [-Int.natCast_add,Zac u42,hll']
  exact fun e=>hll (by rw [e])
structure Hp (S:Zc):Prop where
 new:S 9=[]
 alloc:S 37=[]
 put:S 38=[]
 words:S 20=[]
 len:S 60=[]
 word:S 55=[]
 type:S 59=[]
 head:S 77=[]
 same:S 19=[]
theorem Zrl {B:List Int}{k:Nat}(h:k < B.length):(B.take k++List.replicate (B.length - k) 0).set k B[k]=B.take (k+1)++List.replicate (B.length - (k+1)) 0:=by
 have e:(B.take k).length=k:=by simp;omega
 rw [List.set_append_right _ _ (by omega),e,Nat.sub_self]
 obtain⟨c,hc⟩:∃ c,B.length - k=c+1:=⟨B.length - k - 1,by omega⟩
 rw [hc,List.replicate_succ,List.set_cons_zero,show B.length - (k+1)=c by omega]
 rw [List.take_succ_eq_append_getElem h]
 simp only [List.append_assoc,List.cons_append,List.nil_append]
theorem Z3t {os:List (Int × List Int)}{j:Nat}(h:j < os.length):∃ R,wO os=wO (os.take j)++Zce os[j].1 os[j].2.length::(os[j].2++R):=by
 refine⟨(os.drop (j+1)).flatMap fun o=>Zce o.1 o.2.length::o.2,?_⟩
 have e:os=os.take j++os[j]::os.drop (j+1):=by rw [List.getElem_cons_drop,List.take_append_drop]
 generalize os[j]=o at *
 have e2:=congrArg wO e
 rw [e2]
 simp only [wO,List.flatMap_append,List.flatMap_cons,List.cons_append]
set_option maxHeartbeats 4000000 in
theorem Zvy (hS:S 15=[])(hH:Hp S){rb rf vb vf:Nat}{os:List (Int × List Int)}{room:Int}(hos:OkO os room)(hr:Zf7 m rb rf vb vf (wO os) room) :
  ∃ v m1,Zal Tryd.prog TT S 15 [.pointer (some ⟨rb,0,none⟩)] m=some (v,m1)∧(∃ hb hf wb wf,v=.tuple #[.pointer (some ⟨hb,0,none⟩),.bool true]∧Zd0 m1 hb hf wb wf (wO os) room∧m.next≤hf∧m.next≤wf)∧Zag m m1 []:=by
 obtain⟨_,m1,c1,⟨hb,wf,rfl,h1,n1,n2,k1⟩⟩:=Z7y (m:=m) hH.new room hos.r.1 hos.r.2
 have r0:=hr.h.load1 (off:=0) rfl
 have r1:=hr.h.load1 (off:=1) rfl
 have hwl:=hos.l
 have h8:=hos.n
 have hrr:=hos.r
 have hmx:(if 1 < room then room else 1)=room:=by split <;> omega
 refine Zfz 11 [25,32,67,70] k15 hS rfl ?_
 simp [-Int.natCast_add,Za Z42,Zaa ld3,Zy8 u22,r0,hmx,c1]
 refine Zaq 11 [25,32,67,70] (fun d E m2=>∃ (j wb:Nat),os.length - j=d∧j≤os.length∧Zd0 m2 hb hb wb wf (wO (os.take j)) room∧Zag m m2 []∧E=[(0,.pointer (some ⟨rb,0,none⟩)),(4,.pointer (some ⟨hb,0,none⟩)),(6,.int .i64 (wO (os.take j)).length)]) _ ⟨_,⟨0,wf,rfl,by omega,h1,k1,rfl⟩,⟨by rfl,by rfl,by rfl,trivial⟩⟩ ?_
 rintro d E m2 ih ⟨j,wb,hd,hj,h2,k2,rfl⟩
 have r12:=(hr.h.keep k2 (by simp)).load1 (off:=1) rfl
 by_cases hlt:j < os.length
 ·obtain⟨R,hR⟩:=Z3t hlt
  have ho:=hos.o _ (List.getElem_mem hlt)
  have ets:os.take (j+1)=os.take j++[(os[j].1,os[j].2)]:=List.take_succ_eq_append_getElem hlt
  generalize os[j]=o at *
  obtain⟨t,B⟩:=o
  simp only at hR ho ets
  obtain⟨A,hA⟩:∃ A,wO (os.take j)=A:=⟨_,rfl⟩
  have eA:wO (os.take (j+1))=A++Zce t B.length::B:=by rw [ets,Z0z,hA]
  rw [hA] at hR h2
  rw [hA]
  have hWl:(wO os).length=A.length+1+B.length+R.length:=by rw [hR];simp;omega
  have hvw:∀ (m':Mem),Zag m m' []→loadRow m' ⟨vb,A.length,none⟩ 1=some [.int .u64 (Zce t B.length)]:=fun m' k'=>by
   have e:=Zvj A (Zce t B.length) (B++R)
   rw [← hR] at e
   rw [← e]
   exact (hr.w.keep k' (by simp)).load1 (Zdm (by omega))
  have l2:=hvw m2 k2
  have hval:=Zkb (t:=t) (n:=B.length) (by omega) (by omega)
  have hA1:A.length < (wO os).length:=by omega
  have hA2:(A.length:Int) < (wO os).length:=by omega
  have em:(A.length:Int)≤9223372036854775807:=by omega
  obtain⟨hd1,hhd⟩:∃ hd1,Zce t B.length=hd1:=⟨_,rfl⟩
  rw [hhd] at l2 hval
  have m1':IntKind.i64.wrap (hd1.tmod 4294967296)=(B.length:Int):=by rw [Int.tmod_eq_emod_of_nonneg (by omega),Zaf (by omega) (by omega)];omega
  have e3:(2:Int) ^ min 32 IntKind.u64.bits=4294967296:=by decide
  have s1:IntKind.i64.wrap (hd1.fdiv (2 ^ min 32 IntKind.u64.bits))=t:=by rw [e3,Z5 (by omega),Zaf (by omega) (by omega)];omega
  obtain⟨BR,hBR⟩:∃ BR,B.length+R.length=BR:=⟨_,rfl⟩
  have w1:IntKind.i64.wrap (((wO os).length:Int) - A.length)=((BR+1:Nat):Int):=by rw [Zaf (by omega) (by omega)];omega
  have w2:IntKind.i64.wrap (((BR+1:Nat):Int) - 1)=(BR:Int):=by rw [Zaf (by omega) (by omega)];omega
  have nl:¬ BR < B.length:=by omega
  have nl':¬ (BR:Int) < B.length:=by omega
  obtain⟨_,m3,c3,rfl,⟨wb3,h3⟩,k3⟩:=Z0i (t:=t) (n:=B.length) hH.alloc h2 (by omega) (by omega) (by unfold Zj;omega)
  rw [List.append_assoc,List.singleton_append] at h3
  simp [-Int.natCast_add,Za Zhz,Zaa Zh1,Zac u42,Zab u42 Zfu,Zaa Zn7,Zb u45 u3,r12,hA1,hA2,em,l2,m1',s1,w1,w2,nl',c3]
  refine Zaq 11 [25,32,67,70] (fun d2 E m4=>∃ k:Nat,B.length - k=d2∧k≤B.length∧Zd0 m4 hb hb wb3 wf (A++Zce t B.length::(B.take k++List.replicate (B.length - k) 0)) room∧Zag m m4 []∧E=[(0,.pointer (some ⟨rb,0,none⟩)),(4,.pointer (some ⟨hb,0,none⟩)),(6,.int .i64 A.length),(7,.int .i64 B.length),(10,.int .i64 ((k+1:Nat):Int))]) _ ⟨_,⟨0,rfl,by omega,by simpa using h3,k2.fresh k3 (by simp;omega),rfl⟩,⟨by rfl,by rfl,by rfl,by rfl,by rfl,trivial⟩⟩ ?_
  rintro d2 E m4 ih2 ⟨k,hd2,hk,h4,k4,rfl⟩
  by_cases hkn:k < B.length
  ·have hk1:((k+1:Nat):Int)≤B.length:=by omega
   have hk2:k+1≤B.length:=by omega
   have r14:=(hr.h.keep k4 (by simp)).load1 (off:=1) rfl
   obtain⟨p,hp⟩:∃ p,A.length+1+k=p:=⟨_,rfl⟩
   have w3:IntKind.i64.wrap ((A.length:Int)+((k+1:Nat):Int))=(p:Int):=by rw [Zaf (by omega) (by omega)];omega
   have up3:IntKind.u64.wrap (p:Int)=(p:Int):=Zbz (by omega) (by omega)
   have w4:IntKind.i64.wrap (((k+1:Nat):Int)+1)=((k+1+1:Nat):Int):=by rw [Zaf (by omega) (by omega)];omega
   have pl:p < (wO os).length:=by omega
   have ep:(p:Int)≤9223372036854775807:=by omega
   have lp:loadRow m4 ⟨vb,p,none⟩ 1=some [.int .u64 B[k]]:=by
    have e:=Z2b A (Zce t B.length) (B++R) k
    rw [← hR,hp] at e
    have e2:(B++R).getD k 0=B[k]:=by simp [List.getD_eq_getElem?_getD,List.getElem?_append_left hkn,hkn]
    rw [← e2,← e]
    exact (hr.w.keep k4 (by simp)).load1 (Zdm pl)
   obtain⟨_,m5,c5,rfl,h5,k5⟩:=Z1j (i:=p) (v:=B[k]) hH.put h4 (by omega) (by simp;omega) (by simp;omega)
   rw [← hp,Zzt,Zrl hkn] at h5
   simp [-Int.natCast_add,Za Zhz,Zaa Zh1,Zab u42 Zfu,Zaa Zn7,Zb u3 u45,hk1,r14,w3,up3,w4,pl,ep,lp,c5]
   exact ih2 _ _ _ _ ⟨k+1,rfl,by omega,h5,k4.fresh k5 (by simp;omega),rfl⟩ (by omega) ⟨by rfl,by rfl,by rfl,by rfl,by rfl,trivial⟩
  ·have ek:k=B.length:=by omega
   subst ek
   have hk1:¬ ((B.length+1:Nat):Int)≤B.length:=by omega
   have w5:IntKind.i64.wrap ((A.length:Int)+B.length)=((A.length+B.length:Nat):Int):=by rw [Zaf (by omega) (by omega)];omega
   have w6:IntKind.i64.wrap (((A.length+B.length:Nat):Int)+1)=((A.length+B.length+1:Nat):Int):=by rw [Zaf (by omega) (by omega)];omega
   simp [-Int.natCast_add,hk1,w5,w6]
   refine ih _ _ _ _ ⟨j+1,wb3,rfl,by omega,by rw [eA];simpa using h4,k4,rfl⟩ (by omega) ⟨by rfl,by rfl,by rw [eA];simp [Zb4];omega,trivial⟩
 ·have ej:os.take j=os:=List.take_of_length_le (by omega)
  rw [ej] at h2 ⊢
  obtain⟨_,m3,c3,nb,nf,rfl,o3,n3,k3⟩:=Znq hH.words h2 (by simp [wO]) (by omega)
  have s3:Rs m3 (some ⟨nb,0,none⟩) (wO os).length (words (wO os)) 45 1 nf:=(Sl.of o3 (by rw [Zfw];simp)).rs
  have kk:=k2.trans k3
  have r13:=(hr.h.keep kk (by simp)).load1 (off:=1) rfl
  have sr:Rs m3 (some ⟨vb,0,none⟩) (wO os).length (words (wO os)) 45 1 vf:=(Sl.of (hr.w.keep kk (by simp)) (by rw [Zfw];simp)).rs
  obtain⟨q,c4,hq⟩:=Zsb (m:=m3) hH.same s3 sr (by omega) (by omega)
  have hqt:=hq.2 rfl
  subst hqt
  simp [-Int.natCast_add,Za Zhz,Zaa Zh1,Zac u42,r12,c3,r13,c4]
  exact⟨⟨hb,wb,wf,h2.keep k3 (by simp) (by simp),n1,n2⟩,kk⟩
end Go.Proofs.YtlogdohlcdhepaaDoor.base
end
section
set_option maxRecDepth 100000
namespace Go.Proofs.YtlogdohlcdhepaaDoor.base
open Go.Sh gen
variable {S:Zc}{m:Mem}
def Zsw (x:Int):Int × List Int:=(5+x % 3,(List.range (x % 5).toNat).map fun k=>x / 2 ^ (9 * k))
def Zpc (l:List Int):List (Int × List Int):=(l.take 8).map Zsw
theorem Zz5 {x:Int}(h:0≤x∧x≤18446744073709551615):Wd (Zsw x).2:=by
 intro w hw
 simp only [Zsw,List.mem_map] at hw
 obtain⟨k,_,rfl⟩:=hw
 have h2:(0:Int) < 2 ^ (9 * k):=Int.pow_pos (by omega)
 exact⟨Int.ediv_nonneg h.1 (by omega),Int.le_trans (Int.ediv_le_self _ h.1) h.2⟩
theorem Zuk (l:List Int)(h:l.length≤8)(hl:Wd l):(wO (l.map Zsw)).length≤1+5 * l.length:=by
 induction l with
 | nil=>simp [wO]
 | cons x r ih =>
  have:=ih (by simp at h;omega) (fun w hw=>hl w (by simp [hw]))
  have hx:=hl x (by simp)
  have h5:(Zsw x).2.length≤4:=by simp [Zsw];omega
  simp only [wO,List.map_cons,List.flatMap_cons,List.length_cons,List.length_append] at this ⊢
  omega
theorem Zzi {l:List Int}(hl:Wd l):OkO (Zpc l) 100:=by
 have h8:(l.take 8).length≤8:=by simp [List.length_take];omega
 have hw:Wd (l.take 8):=fun w h=>hl w (List.mem_of_mem_take h)
 refine⟨by omega,?_,by unfold Zpc;rw [List.length_map];exact h8,fun o ho=>?_⟩
 ·have:=Zuk _ h8 hw
  unfold Zpc
  omega
 ·simp only [Zpc,List.mem_map] at ho
  obtain⟨x,hx,rfl⟩:=ho
  have:=hw x hx
  exact⟨by simp only [Zsw];omega,by simp only [Zsw];omega,by simp [Zsw];omega,Zz5 this⟩
structure Ho (S:Zc):Prop where
 new:S 21=[]
 alloc:S 23=[]
 set:S 36=[]
 put:S 42=[]
 len:S 40=[]
 word:S 41=[]
set_option maxHeartbeats 4000000 in
theorem Zmi (hS:S 14=[])(hH:Ho S){ao:Option Addr}{l:List Int}{c f e:Nat}(hr:Rs m ao l.length (words l) e 1 f)(hf:l.length≠0→f < m.next)(hl:Wd l) :
  ∃ v m1,Zal Tryd.prog TT S 14 [.slice ao l.length c] m=some (v,m1)∧(∃ rb vb vf,v=.pointer (some ⟨rb,0,none⟩)∧Zf7 m1 rb rb vb vf (wO (Zpc l)) 100)∧Zag m m1 []:=by
 obtain⟨_,mR,cR,⟨rb,vb,rfl,hR,nR1,nR2,kR⟩⟩:=Z17 (m:=m) hH.new 100
 refine Zfz 9 [17,44] k14 hS rfl ?_
 simp [-Int.natCast_add,cR]
 refine Zaq 9 [17,44] (fun d E m2=>∃ (i wb:Nat),8 - i=d∧i≤8∧i≤l.length∧Zf7 m2 rb rb wb vb (wO ((l.take i).map Zsw)) 100∧Zag m m2 []∧E=[(0,.slice ao l.length c),(3,.pointer (some ⟨rb,0,none⟩)),(4,.int .i64 (i:Nat))]) _ ⟨_,⟨0,vb,rfl,by omega,by omega,hR,kR,rfl⟩,⟨by rfl,by rfl,by rfl,trivial⟩⟩ ?_
 rintro d E m2 ih ⟨i,wb,rfl,hi8,hil,h2,k2,rfl⟩
 by_cases hc:i < l.length∧i < 8
 ·obtain⟨q1,q2⟩:=hc
  have q1':(i:Int) < l.length:=by omega
  have q2':(i:Int) < 8:=by omega
  have q3:(i:Int)≤9223372036854775807:=by omega
  have wi:IntKind.i64.wrap ((i:Int)+1)=((i+1:Nat):Int):=by rw [Zaf (by omega) (by omega)];omega
  obtain⟨ab,rfl,oa⟩:=(hr.keep0 k2 (by simp)).rdo (by omega)
  have la:∀ m',Zag m m' []→loadRow m' ⟨ab,i,none⟩ 1=some [.int .u64 l[i]]:=fun m' k'=>by
   obtain⟨ab',e,oa'⟩:=(hr.keep0 k' (by simp)).rdo (by omega)
   simp at e
   subst e
   exact oa'.load1 (by simp [words,q1])
  have lx:=la m2 k2
  have hx:0≤l[i]∧l[i]≤18446744073709551615:=hl _ (by simp)
  have et:l.take (i+1)=l.take i++[l[i]]:=List.take_succ_eq_append_getElem q1
  generalize l[i]=x at *
  obtain⟨n,hn⟩:∃ n:Nat,(x % 5).toNat=n:=⟨_,rfl⟩
  have hn5:n≤4:=by omega
  have e5:IntKind.i64.wrap (x.tmod 5)=(n:Int):=by rw [Int.tmod_eq_emod_of_nonneg (by omega),Zaf (by omega) (by omega)];omega
  have e3:IntKind.i64.wrap (x.tmod 3)=x % 3:=by rw [Int.tmod_eq_emod_of_nonneg (by omega),Zaf (by omega) (by omega)]
  have e53:IntKind.i64.wrap (5+x % 3)=5+x % 3:=Zaf (by omega) (by omega)
  obtain⟨B,hB⟩:∃ B,(Zsw x).2=B:=⟨_,rfl⟩
  have hBl:B.length=n:=by rw [← hB];simp [Zsw,hn]
  have hO:Zsw x=(5+x % 3,B):=by rw [← hB];rfl
  have hBk:∀ k (h:k < B.length),B[k]=x / 2 ^ (9 * k):=fun k h=>by subst hB;simp [Zsw]
  obtain⟨A,hA⟩:∃ A,wO ((l.take i).map Zsw)=A:=⟨_,rfl⟩
  rw [hA] at h2
  have hwl:Wd (l.take i):=fun w h=>hl w (List.mem_of_mem_take h)
  have hAl:A.length≤41:=by
   have:=Zuk (l.take i) (by simp [List.length_take];omega) hwl
   rw [hA,List.length_take] at this
   omega
  have eA:wO ((l.take (i+1)).map Zsw)=A++Zce (5+x % 3) B.length::B:=by rw [et,List.map_append,List.map_cons,List.map_nil,hO,Z0z,hA]
  obtain⟨_,m3,c3,rfl,⟨wb3,h3⟩,k3⟩:=Zv3 (t:=5+x % 3) (n:=n) hH.alloc h2 (by omega) (by omega) (by unfold Zj;omega)
  rw [List.append_assoc,List.singleton_append] at h3
  have hA0:A≠[]:=by rw [← hA];simp [wO]
  have hA1:1≤A.length:=by cases A with | nil=>exact absurd rfl hA0 | cons=>simp
  simp [-Int.natCast_add,Zac u42,Zab u42 Zfu,Zaa Zn7,Zb u45 u3,q1,q1',q2',q3,lx,e5,e3,e53,c3]
  refine Zaq 9 [17,44] (fun d2 E m4=>∃ k:Nat,n - k=d2∧k≤n∧Zf7 m4 rb rb wb3 vb (A++Zce (5+x % 3) n::(B.take k++List.replicate (n - k) 0)) 100∧Zag m m4 []∧E=[(0,.slice (some ⟨ab,0,none⟩) l.length c),(3,.pointer (some ⟨rb,0,none⟩)),(4,.int .i64 (i:Nat)),(5,.int .i64 (n:Nat)),(6,.int .u64 (A.length:Nat)),(7,.bool true),(8,.int .i64 (k:Nat))]) _ ⟨_,⟨0,rfl,by omega,by simpa using h3,k2.fresh k3 (by simp;omega),rfl⟩,⟨by rfl,by rfl,by rfl,by rfl,by rfl,by rfl,by rfl,trivial⟩⟩ ?_
  rintro d2 E m4 ih2 ⟨k,hd2,hk,h4,k4,rfl⟩
  have lx4:=la m4 k4
  by_cases hkn:k < n
  ·have hkn':(k:Int) < n:=by omega
   have wk:IntKind.i64.wrap ((k:Int)+1)=((k+1:Nat):Int):=by rw [Zaf (by omega) (by omega)];omega
   obtain⟨p,hp⟩:∃ p,9 * k=p:=⟨_,rfl⟩
   have w9:IntKind.i64.wrap ((k:Int) * 9)=(p:Int):=by rw [Zaf (by omega) (by omega)];omega
   have up:IntKind.u64.wrap (p:Int)=(p:Int):=Zbz (by omega) (by omega)
   have pn:¬ (p:Int) < 0:=by omega
   have mp:min p IntKind.u64.bits=p:=Nat.min_eq_left (by have:IntKind.u64.bits=64:=rfl;omega)
   have ef:x.fdiv (2 ^ p)=x / 2 ^ p:=Int.fdiv_eq_ediv_of_nonneg _ (Int.le_of_lt (Int.pow_pos (by omega)))
   have hv:=hBk k (by omega)
   rw [hp] at hv
   have z0:(A++Zce (5+x % 3) n::(B.take k++List.replicate (n - k) 0)).getD 0 0=0:=by
    rw [← hA];simp [wO]
   have hxx:=Zz5 hx
   rw [hB] at hxx
   have hAw:Wd A:=by rw [← hA];exact Z8p (room:=100) (by have:=Zzi hwl;rw [Zpc,List.take_of_length_le (by simp [List.length_take];omega)] at this;exact this)
   have hW:Wd (A++Zce (5+x % 3) n::(B.take k++List.replicate (n - k) 0)):=by
    intro w hw
    simp only [List.mem_append,List.mem_cons,List.mem_replicate] at hw
    rcases hw with hw | rfl | hw | ⟨_,rfl⟩
    ·exact hAw w hw
    ·rw [Zkb (by omega) (by omega)];omega
    ·exact hxx w (List.mem_of_mem_take hw)
    ·omega
   obtain⟨_,m5,c5,rfl,h5,k5⟩:=Z3v (r:=(A.length:Nat)) (i:=(k:Nat)) (v:=x / 2 ^ p) hH.set hH.put hH.len hH.word h4 (by omega) (by simp;omega) hW z0
   rw [Z5i (by omega) (by omega) hkn (by omega),Zpz,if_neg (by simp;omega),Int.toNat_natCast,Zzt] at h5
   have ets:=Zrl (B:=B) (k:=k) (by omega)
   rw [hv,hBl] at ets
   rw [ets] at h5
   simp [-Int.natCast_add,-w14_8,hkn']
   simp [-Int.natCast_add,Zab u42 Zfu,Zaa Zn7,Zb u3 u90,lx4,q1,q3,w9,up,pn,mp,ef,c5,wk]
   exact ih2 _ _ _ _ ⟨k+1,rfl,by omega,h5,k4.fresh k5 (by simp;omega),rfl⟩ (by omega) ⟨by rfl,by rfl,by rfl,by rfl,by rfl,by rfl,by rfl,trivial⟩
  ·have ek:k=n:=by omega
   subst ek
   have hkn':¬ (k:Int) < k:=by omega
   simp [-Int.natCast_add,wi]
   refine ih _ _ _ _ ⟨i+1,wb3,rfl,by omega,by omega,?_,k4,rfl⟩ (by omega) ⟨by rfl,by rfl,by rfl,trivial⟩
   rw [eA,hBl]
   have:B.take k=B:=List.take_of_length_le (by omega)
   simpa [this] using h4
 ·have hfin:Zf7 m2 rb rb wb vb (wO (Zpc l)) 100:=by
   have:l.take i=l.take 8:=by
    by_cases q:i < 8
    ·rw [List.take_of_length_le (by omega),List.take_of_length_le (by omega)]
    ·rw [show i=8 by omega]
   unfold Zpc
   rw [← this];exact h2
  by_cases q1:i < l.length
  ·have q1':(i:Int) < l.length:=by omega
   have q2:¬ i < 8:=fun h=>hc ⟨q1,h⟩
   have q2':¬ (i:Int) < 8:=by omega
   simp [-Int.natCast_add,Zac u42,q1',q2']
   exact⟨⟨wb,vb,hfin⟩,k2⟩
  ·have q1':¬ (i:Int) < l.length:=by omega
   simp [-Int.natCast_add,Zac u42,q1']
   exact⟨⟨wb,vb,hfin⟩,k2⟩
end Go.Proofs.YtlogdohlcdhepaaDoor.base
end
