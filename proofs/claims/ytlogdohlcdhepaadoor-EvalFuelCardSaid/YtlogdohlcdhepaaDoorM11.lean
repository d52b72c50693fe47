/- This text proves, in Ztm Lean, that Order's way comes to an end, and what it gives. No condition. -/
import Derived.Test.YtlogdohlcdhepaaDoorM10
set_option linter.unusedVariables false
set_option linter.unusedSimpArgs false
section
set_option maxRecDepth 100000
namespace Go.Proofs.YtlogdohlcdhepaaDoor.base
open Go.Sh gen
def Zup (l:List Int)(x y:Int):Prop:=∃ l1 l2,l=l1++l2∧x∈l1∧y∈l2
theorem Zup.snoc {l:List Int}{x y b:Int}(h:Zup l x y):Zup (l++[b]) x y:=by
 obtain⟨l1,l2,rfl,h1,h2⟩:=h
 exact⟨l1,l2++[b],by simp,h1,by simp [h2]⟩
def Zlk (u:UnT.D):List (Nat × Nat)→Prop
 | []=>True
 | [p]=>p.1=0
 | p::q::r=>(p.1:Int)∈nxD u q.1∧Zlk u (q::r)
structure Z4i (u:UnT.D)(s:OSt):Prop where
 sl:s.1.length=nb u
 mem:∀ k < nb u,s.1.getD k false=true↔((k:Int)∈s.2.1∨∃ i,(k,i)∈s.2.2)
 nd:(s.2.1++s.2.2.map fun p=>(p.1:Int)).Nodup
 rp:∀ x∈s.2.1,(0:Int)≤x∧x < nb u
 rs:∀ p∈s.2.2,p.1 < nb u∧p.2≤(nxD u p.1).length
 lk:Zlk u s.2.2
 par:∀ x∈s.2.1,x≠0→∃ y:Nat,x∈nxD u y∧((∃ i,(y,i)∈s.2.2)∨Zup s.2.1 x y)
 cp:∀ x∈s.2.1,∀ k∈nxD u x.toNat,s.1.getD k.toNat false=true
 cs:∀ p∈s.2.2,∀ j < p.2,s.1.getD ((nxD u p.1).getD j 0).toNat false=true
 z:(0:Int)∈s.2.1→s.2.2=[]
 ne:s.2.2=[]→s.2.1.getLast?=some 0
 cnt:s.2.1.length+s.2.2.length=s.1.count true
def stM (st:List (Nat × Nat)):Nat:=(st.map fun p=>2 * (2 - p.2)+1).sum
def Z77 (u:UnT.D)(s:OSt):Nat:=6 * (nb u - s.1.count true)+stM s.2.2
theorem Zta {u:UnT.D}{p:Nat × Nat}{r:List (Nat × Nat)}(h:Zlk u (p::r)):Zlk u r:=by
 cases r with
 | nil=>trivial
 | cons q r=>exact h.2
theorem Zmq {u:UnT.D}{b i j:Nat}{r:List (Nat × Nat)}(h:Zlk u ((b,i)::r)):Zlk u ((b,j)::r):=by
 cases r with
 | nil=>exact h
 | cons q r=>exact h
theorem Zjz (l:List Bool)(i k:Nat)(v:Bool)(h:i < l.length):(l.set i v).getD k false=if i=k then v else l.getD k false:=by
 rw [List.getD_eq_getElem?_getD,List.getElem?_set]
 split
 ·simp
 ·rw [List.getD_eq_getElem?_getD]
theorem Z1i {u:UnT.D}(hnx:Zvc u){b:Nat}(hb:b < nb u):(nxD u b).length≤2∧∀ k∈nxD u b,(0:Int)≤k∧k < nb u:=hnx _ (Zkp hb)
theorem Znv {u:UnT.D}(hnx:Zvc u){sn:List Bool}{pl:List Int}{b i:Nat}{st:List (Nat × Nat)}(h:Z4i u (sn,pl,(b,i)::st)) :
  Z4i u (Zm7 u (sn,pl,(b,i)::st))∧Z77 u (Zm7 u (sn,pl,(b,i)::st)) < Z77 u (sn,pl,(b,i)::st):=by
 obtain⟨sl,mem,nd,rp,rs,lk,par,cp,cs,z,ne,cnt⟩:=h
 dsimp only at sl mem nd rp rs lk par cp cs z ne cnt
 have hb:=rs (b,i) (by simp)
 dsimp only at hb
 have hn:=Z1i hnx hb.1
 have hb0:(0:Int)∉pl:=fun h0=>by have:=z h0;cases this
 have hst:Zm7 u (sn,pl,(b,i)::st)=if i=(nxD u b).length then (sn,pl++[(b:Int)],st) else
   if sn.getD ((nxD u b).getD i 0).toNat false=true then (sn,pl,(b,i+1)::st) else
   (sn.set ((nxD u b).getD i 0).toNat true,pl,(((nxD u b).getD i 0).toNat,0)::(b,i+1)::st):=rfl
 rw [hst]
 by_cases hi:i=(nxD u b).length
 ·rw [if_pos hi]
  refine⟨⟨sl,fun k hk=>?_,?_,fun x hx=>?_,fun p hp=>rs p (by simp [hp]),Zta lk,fun x hx h0=>?_,fun x hx k hk=>?_,fun p hp=>cs p (by simp [hp]),fun h0=>?_,fun he=>?_,by simp at cnt ⊢;omega⟩,?_⟩
  ·dsimp only
   rw [mem k hk]
   constructor
   ·rintro (h1 | ⟨j,h1⟩)
    ·exact Or.inl (by simp [h1])
    ·rcases List.mem_cons.1 h1 with e | h1
     ·exact Or.inl (by rw [Prod.mk.injEq] at e;simp [e.1])
     ·exact Or.inr ⟨j,h1⟩
   ·rintro (h1 | ⟨j,h1⟩)
    ·rcases List.mem_append.1 h1 with h1 | h1
     ·exact Or.inl h1
     ·simp at h1
      exact Or.inr ⟨i,by rw [show k=b by omega];simp⟩
    ·exact Or.inr ⟨j,by simp [h1]⟩
  ·dsimp only
   rw [List.map_cons] at nd
   simpa using nd
  ·dsimp only at hx
   rcases List.mem_append.1 hx with hx | hx
   ·exact rp x hx
   ·simp at hx;omega
  ·dsimp only at hx ⊢
   rcases List.mem_append.1 hx with hx | hx
   ·obtain⟨y,h1,h2⟩:=par x hx h0
    refine⟨y,h1,?_⟩
    rcases h2 with⟨j,h2⟩ | h2
    ·rcases List.mem_cons.1 h2 with e | h2
     ·rw [Prod.mk.injEq] at e
      exact Or.inr ⟨pl,[(b:Int)],rfl,hx,by simp [e.1]⟩
     ·exact Or.inl ⟨j,h2⟩
    ·exact Or.inr h2.snoc
   ·simp at hx
    subst hx
    cases st with
    | nil=>exact absurd (show (b:Int)=0 by have:b=0:=lk;omega) h0
    | cons q r=>exact⟨q.1,lk.1,Or.inl ⟨q.2,by simp⟩⟩
  ·dsimp only at hx ⊢
   rcases List.mem_append.1 hx with hx | hx
   ·exact cp x hx k hk
   ·simp at hx
    subst hx
    rw [Int.toNat_natCast] at hk
    obtain⟨j,hj,rfl⟩:=List.mem_iff_getElem.1 hk
    have:=cs (b,i) (by simp) j (by dsimp only;omega)
    dsimp only at this
    rw [List.getD_eq_getElem?_getD (l:=nxD u b),List.getElem?_eq_getElem hj] at this
    exact this
  ·dsimp only at h0 ⊢
   rcases List.mem_append.1 h0 with h0 | h0
   ·exact absurd h0 hb0
   ·simp at h0
    cases st with
    | nil=>rfl
    | cons q r =>
     exfalso
     have:∀ (st:List (Nat × Nat)),Zlk u st→st≠[]→∃ i,(0,i)∈st:=by
      intro st
      induction st with
      | nil=>intro _ h;exact absurd rfl h
      | cons p r ih =>
       intro hl _
       cases r with
       | nil =>
        obtain⟨p1,p2⟩:=p
        have:p1=0:=hl
        exact⟨p2,by rw [this];simp⟩
       | cons q r =>
        obtain⟨i,hi⟩:=ih hl.2 (by simp)
        exact⟨i,List.mem_cons_of_mem _ hi⟩
     obtain⟨j,hj⟩:=this (q::r) lk.2 (by simp)
     rw [List.map_cons] at nd
     have nd2:=(List.nodup_append.1 nd).2.1
     rw [List.nodup_cons] at nd2
     exact nd2.1 (List.mem_map.2 ⟨(0,j),hj,by dsimp only;omega⟩)
  ·dsimp only at he ⊢
   subst he
   have:b=0:=lk
   simp [this]
  ·unfold Z77 stM
   simp only [List.map_cons,List.sum_cons]
   omega
 ·rw [if_neg hi]
  have hlt:i < (nxD u b).length:=by omega
  have hk:=hn.2 _ (Za8 hlt)
  obtain⟨k,hke⟩:∃ k:Nat,(nxD u b).getD i 0=(k:Int):=⟨((nxD u b).getD i 0).toNat,by omega⟩
  have hkm:(k:Int)∈nxD u b:=hke ▸ Za8 hlt
  rw [hke,Int.toNat_natCast]
  rw [hke] at hk
  have hkn:k < nb u:=by omega
  by_cases hs:sn.getD k false=true
  ·rw [if_pos hs]
   refine⟨⟨sl,fun q hq=>?_,by simpa using nd,rp,fun p hp=>?_,Zmq lk,fun x hx h0=>?_,cp,fun p hp j hj=>?_,fun h0=>absurd h0 hb0,fun he=>(by cases he),by simpa using cnt⟩,?_⟩
   ·dsimp only
    rw [mem q hq]
    constructor
    ·rintro (h1 | ⟨j,h1⟩)
     ·exact Or.inl h1
     ·rcases List.mem_cons.1 h1 with e | h1
      ·rw [Prod.mk.injEq] at e;exact Or.inr ⟨i+1,by rw [e.1];simp⟩
      ·exact Or.inr ⟨j,by simp [h1]⟩
    ·rintro (h1 | ⟨j,h1⟩)
     ·exact Or.inl h1
     ·rcases List.mem_cons.1 h1 with e | h1
      ·rw [Prod.mk.injEq] at e;exact Or.inr ⟨i,by rw [e.1];simp⟩
      ·exact Or.inr ⟨j,by simp [h1]⟩
   ·rcases List.mem_cons.1 hp with rfl | hp
    ·exact⟨hb.1,by dsimp only;omega⟩
    ·exact rs p (by simp [hp])
   ·obtain⟨y,h1,h2⟩:=par x hx h0
    refine⟨y,h1,?_⟩
    rcases h2 with⟨j,h2⟩ | h2
    ·rcases List.mem_cons.1 h2 with e | h2
     ·rw [Prod.mk.injEq] at e;exact Or.inl ⟨i+1,by rw [e.1];simp⟩
     ·exact Or.inl ⟨j,by simp [h2]⟩
    ·exact Or.inr h2
   ·rcases List.mem_cons.1 hp with rfl | hp
    ·dsimp only at hj ⊢
     by_cases e:j=i
     ·rw [e,hke,Int.toNat_natCast];exact hs
     ·exact cs (b,i) (by simp) j (by dsimp only;omega)
    ·exact cs p (by simp [hp]) j hj
   ·unfold Z77 stM
    simp only [List.map_cons,List.sum_cons]
    omega
  ·rw [if_neg hs]
   have hsf:sn.getD k false=false:=by simpa using hs
   have hkl:k < sn.length:=by omega
   have hmono:∀ q,sn.getD q false=true→(sn.set k true).getD q false=true:=fun q hq=>by
    rw [Zjz _ _ _ _ hkl];split
    ·rfl
    ·exact hq
   have hnk:¬ ((k:Int)∈pl∨∃ j,(k,j)∈(b,i)::st):=fun h=>hs ((mem k hkn).2 h)
   refine⟨⟨by simpa using sl,fun q hq=>?_,?_,rp,fun p hp=>?_,⟨hkm,Zmq lk⟩,fun x hx h0=>?_,fun x hx q hq=>hmono _ (cp x hx q hq),fun p hp j hj=>?_,fun h0=>absurd h0 hb0,fun he=>(by cases he),by dsimp only;rw [Zh4 hkl hsf];simp at cnt ⊢;omega⟩,?_⟩
   ·dsimp only
    rw [Zjz _ _ _ _ hkl]
    by_cases e:k=q
    ·rw [if_pos e]
     exact⟨fun _=>Or.inr ⟨0,by rw [e];simp⟩,fun _=>rfl⟩
    ·rw [if_neg e,mem q hq]
     constructor
     ·rintro (h1 | ⟨j,h1⟩)
      ·exact Or.inl h1
      ·rcases List.mem_cons.1 h1 with e | h1
       ·rw [Prod.mk.injEq] at e;exact Or.inr ⟨i+1,by rw [e.1];simp⟩
       ·exact Or.inr ⟨j,by simp [h1]⟩
     ·rintro (h1 | ⟨j,h1⟩)
      ·exact Or.inl h1
      ·rcases List.mem_cons.1 h1 with e1 | h1
       ·rw [Prod.mk.injEq] at e1;exact absurd e1.1.symm e
       ·rcases List.mem_cons.1 h1 with e1 | h1
        ·rw [Prod.mk.injEq] at e1;exact Or.inr ⟨i,by rw [e1.1];simp⟩
        ·exact Or.inr ⟨j,by simp [h1]⟩
   ·dsimp only
    rw [List.map_cons] at nd ⊢
    rw [List.map_cons]
    rw [List.nodup_append] at nd ⊢
    obtain⟨n1,n2,n3⟩:=nd
    have hk2:(k:Int)∉(b:Int)::List.map (fun p:Nat × Nat=>(p.1:Int)) st:=by
     intro hm
     apply hnk
     rcases List.mem_cons.1 hm with e | hm
     ·exact Or.inr ⟨i,by rw [show k=b by omega];simp⟩
     ·obtain⟨p,hp,e⟩:=List.mem_map.1 hm
      exact Or.inr ⟨p.2,List.mem_cons_of_mem _ (by rw [show k=p.1 by omega];exact hp)⟩
    refine⟨n1,List.nodup_cons.2 ⟨hk2,n2⟩,fun a ha c hc=>?_⟩
    rcases List.mem_cons.1 hc with rfl | hc
    ·intro e
     exact hnk (Or.inl (by rw [← e];exact ha))
    ·exact n3 a ha c hc
   ·rcases List.mem_cons.1 hp with rfl | hp
    ·exact⟨hkn,by dsimp only;omega⟩
    ·rcases List.mem_cons.1 hp with rfl | hp
     ·exact⟨hb.1,by dsimp only;omega⟩
     ·exact rs p (by simp [hp])
   ·obtain⟨y,h1,h2⟩:=par x hx h0
    refine⟨y,h1,?_⟩
    rcases h2 with⟨j,h2⟩ | h2
    ·rcases List.mem_cons.1 h2 with e | h2
     ·rw [Prod.mk.injEq] at e;exact Or.inl ⟨i+1,by rw [e.1];simp⟩
     ·exact Or.inl ⟨j,by simp [h2]⟩
    ·exact Or.inr h2
   ·rcases List.mem_cons.1 hp with rfl | hp
    ·dsimp only at hj;omega
    ·rcases List.mem_cons.1 hp with rfl | hp
     ·dsimp only at hj ⊢
      by_cases e:j=i
      ·rw [e,hke,Int.toNat_natCast,Zjz _ _ _ _ hkl,if_pos rfl]
      ·exact hmono _ (cs (b,i) (by simp) j (by dsimp only;omega))
     ·exact hmono _ (cs p (by simp [hp]) j hj)
   ·unfold Z77 stM
    simp only [List.map_cons,List.sum_cons]
    have c1:=Zh4 hkl hsf
    have c2:=Zil (sn.set k true)
    rw [List.length_set] at c2
    omega
theorem Z6s {u:UnT.D}(hnx:Zvc u):∀ (M:Nat) (s:OSt),Z4i u s→Z77 u s≤M→∃ D O' sn,Zl6 u D s=some O'∧Z4i u (sn,O',[]):=by
 intro M
 induction M with
 | zero =>
  intro s h hM
  obtain⟨sn,pl,st⟩:=s
  cases st with
  | nil=>exact⟨0,pl,sn,rfl,h⟩
  | cons p r=>obtain⟨b,i⟩:=p;have:=(Znv hnx h).2;omega
 | succ M ih =>
  intro s h hM
  obtain⟨sn,pl,st⟩:=s
  cases st with
  | nil=>exact⟨0,pl,sn,rfl,h⟩
  | cons p r =>
   obtain⟨b,i⟩:=p
   obtain⟨h1,h2⟩:=Znv hnx h
   obtain⟨D,O',sn',h3,h4⟩:=ih _ h1 (by omega)
   exact⟨D+1,O',sn',by rw [Zl6];exact h3,h4⟩
theorem Z39 {u:UnT.D}(hb:0 < nb u):Z4i u (Zqs u):=by
 have hl:0 < (List.replicate (nb u) false).length:=by simpa using hb
 refine⟨by simp [Zqs],fun k hk=>?_,by simp [Zqs],fun x hx=>by simp [Zqs] at hx,fun p hp=>?_,by simp [Zqs,Zlk],fun x hx=>by simp [Zqs] at hx,fun x hx=>by simp [Zqs] at hx,fun p hp j hj=>?_,fun h=>by simp [Zqs] at h,fun h=>by simp [Zqs] at h,?_⟩
 ·unfold Zqs
  dsimp only
  rw [Zjz _ _ _ _ hl]
  by_cases e:0=k
  ·rw [if_pos e];exact⟨fun _=>Or.inr ⟨0,by rw [← e];simp⟩,fun _=>rfl⟩
  ·rw [if_neg e,List.getD_eq_getElem?_getD,List.getElem?_replicate,if_pos hk]
   constructor
   ·intro h;cases h
   ·rintro (h | ⟨j,h⟩)
    ·simp at h
    ·simp at h;omega
 ·simp [Zqs] at hp;subst hp;exact⟨hb,by dsimp only;omega⟩
 ·simp [Zqs] at hp;subst hp;dsimp only at hj;omega
 ·unfold Zqs
  dsimp only
  rw [Zh4 hl (by rw [List.getD_eq_getElem?_getD,List.getElem?_replicate,if_pos hb];rfl)]
  simp [List.count_replicate]
end Go.Proofs.YtlogdohlcdhepaaDoor.base
end
section
set_option maxRecDepth 100000
namespace Go.Proofs.YtlogdohlcdhepaaDoor.base
open Go.Sh gen
theorem Zwn {i:Nat}{k:Int}{L:List (List Int)}{j:Nat}(hj:j < L.length){x:Int}:x∈(Zdr i L k).getD j []↔x∈L.getD j []∨(x=i∧k.toNat=j):=by
 unfold Zdr
 by_cases e:j=k.toNat
 ·subst e
  rw [Ze hj,List.mem_append];simp
 ·rw [Zd2 e]
  exact⟨Or.inl,fun h=>h.resolve_right fun h=>e h.2.symm⟩
theorem Zwa {i:Nat}(l:List Int){L:List (List Int)}{j:Nat}(hj:j < L.length){x:Int}:x∈(l.foldl (Zdr i) L).getD j []↔x∈L.getD j []∨(x=i∧∃ k∈l,k.toNat=j):=by
 induction l generalizing L with
 | nil=>simp
 | cons k r ih =>
  rw [List.foldl_cons,ih (by simpa [Zdr] using hj),Zwn hj,or_assoc]
  apply or_congr_right
  constructor
  ·rintro (⟨h1,h2⟩ | ⟨h1,q,h2,h3⟩)
   ·exact⟨h1,k,by simp,h2⟩
   ·exact⟨h1,q,by simp [h2],h3⟩
  ·rintro⟨h1,q,h2,h3⟩
   rcases List.mem_cons.1 h2 with rfl | h2
   ·exact Or.inl ⟨h1,h3⟩
   ·exact Or.inr ⟨h1,q,h2,h3⟩
theorem Zxy (bs:List Zf9.D){i:Nat}{L:List (List Int)}{j:Nat}(hj:j < L.length){x:Int}:x∈(Zef i bs L).getD j []↔x∈L.getD j []∨∃ q b,bs[q]?=some b∧x=((i+q:Nat):Int)∧∃ k∈(show List Int from b.2.2.2.1),k.toNat=j:=by
 induction bs generalizing i L with
 | nil=>simp [Zef]
 | cons b r ih =>
  rw [Zef,ih (by rw [Zkv];exact hj),Zwa _ hj,or_assoc]
  apply or_congr_right
  constructor
  ·rintro (⟨h1,h2⟩ | ⟨q,b',h1,h2,h3⟩)
   ·exact⟨0,b,rfl,by rw [h1];simp,h2⟩
   ·exact⟨q+1,b',by simpa using h1,by rw [h2];omega,h3⟩
  ·rintro⟨q,b',h1,h2,h3⟩
   cases q with
   | zero =>
    simp at h1
    subst h1
    exact Or.inl ⟨by rw [h2];simp,h3⟩
   | succ q=>exact Or.inr ⟨q,b',by simpa using h1,by rw [h2];omega,h3⟩
theorem Zl {u:UnT.D}(hnx:Zvc u){b:Nat}(hb:b < nb u){a:Nat}:(a:Int)∈(Zaz u).getD b []↔a < nb u∧(b:Int)∈nxD u a:=by
 unfold Zaz
 rw [Zxy _ (by simpa using hb)]
 have e:(List.replicate (nb u) ([]:List Int)).getD b []=[]:=by rw [List.getD_eq_getElem?_getD,List.getElem?_replicate,if_pos hb];rfl
 rw [e]
 constructor
 ·rintro (h | ⟨q,x,h1,h2,k,h3,h4⟩)
  ·cases h
  ·have hq:a=q:=by omega
   subst hq
   obtain⟨hqn,rfl⟩:=List.getElem?_eq_some_iff.1 h1
   have ex:nxD u a=(u.2.2.2.1[a]).2.2.2.1:=congrArg (fun x:Zf9.D=>x.2.2.2.1) (Zcz hqn)
   have hk:=(Z1i hnx hqn).2 k (by rw [ex];exact h3)
   refine⟨hqn,?_⟩
   rw [ex,show (b:Int)=k by omega]
   exact h3
 ·rintro⟨h1,h2⟩
  have ex:nxD u a=(u.2.2.2.1[a]).2.2.2.1:=congrArg (fun x:Zf9.D=>x.2.2.2.1) (Zcz h1)
  rw [ex] at h2
  exact Or.inr ⟨a,_,List.getElem?_eq_getElem h1,by omega,(b:Int),h2,by simp⟩
theorem Zrt {n:Nat}:∀ (O:List Int) (i:Nat) (P:List Int),O.Nodup→(∀ x∈O,(0:Int)≤x∧x < n)→P.length=n→
  (∀ j < O.length,(Zht i O P).getD (O.getD j 0).toNat 0=((i+j:Nat):Int))∧∀ k:Nat,(k:Int)∉O→(Zht i O P).getD k 0=P.getD k 0
 | [],i,P,_,_,_=>⟨fun j hj=>by simp at hj,fun k _=>rfl⟩
 | b::r,i,P,hd,hr,hP=>by
  rw [List.nodup_cons] at hd
  have hb:=hr b (by simp)
  obtain⟨h1,h2⟩:=Zrt r (i+1) (P.set b.toNat (i:Int)) hd.2 (fun x hx=>hr x (by simp [hx])) (by simpa using hP)
  have hbl:b.toNat < P.length:=by omega
  refine⟨fun j hj=>?_,fun k hk=>?_⟩
  ·cases j with
   | zero =>
    rw [Zht]
    have:=h2 b.toNat (by rw [Int.toNat_of_nonneg hb.1];exact hd.1)
    have e:(b::r).getD 0 0=b:=rfl
    rw [e,this,Zbo _ _ _ _ hbl,if_pos rfl,Nat.add_zero]
   | succ j =>
    rw [Zht]
    have:=h1 j (by simpa using hj)
    have e:(b::r).getD (j+1) 0=r.getD j 0:=rfl
    rw [e,this];omega
  ·rw [Zht]
   simp only [List.mem_cons,not_or] at hk
   rw [h2 k hk.2,Zbo _ _ _ _ hbl,if_neg (by omega)]
structure Rpo (n:Nat)(pd:Nat→List Int)(P T:List Int):Prop where
 pos:0 < n
 len:T.length+1=n
 p0:P.getD 0 0=0
 t:∀ j < T.length,∃ b:Nat,T.getD j 0=(b:Int)∧b < n∧b≠0∧P.getD b 0=((j+1:Nat):Int)
 all:∀ b < n,b≠0→∃ j < T.length,T.getD j 0=(b:Int)
 fw:∀ b < n,b≠0→∃ a < n,(a:Int)∈pd b∧P.getD a 0 < P.getD b 0
 pr:∀ b < n,∀ a∈pd b,(0:Int)≤a∧a < n
theorem Zyp {l:List Bool}(h:l.count true=l.length){k:Nat}(hk:k < l.length):l.getD k false=true:=by
 induction l generalizing k with
 | nil=>simp at hk
 | cons a r ih =>
  have hr:=Zil r
  rw [List.count_cons,List.length_cons] at h
  cases a with
  | false=>simp at h;omega
  | true =>
   cases k with
   | zero=>rfl
   | succ k =>
    simp at h
    have:=ih h (k:=k) (by simpa using hk)
    simpa using this
theorem Z88 {u:UnT.D}(hnx:Zvc u)(hb:0 < nb u){sn:List Bool}{O':List Int}(h:Z4i u (sn,O',[]))(hl:O'.length=nb u) :
  (∀ x∈O'.reverse,(0:Int)≤x∧x < nb u)∧Rpo (nb u) (fun b=>(Zaz u).getD b []) (Zg8 (nb u) O'.reverse) (O'.reverse.drop 1):=by
 have hrp:∀ x∈O'.reverse,(0:Int)≤x∧x < nb u:=fun x hx=>h.rp x (by simpa using hx)
 have hnd:O'.reverse.Nodup:=by
  have:=h.nd
  simp only [List.map_nil,List.append_nil] at this
  exact List.pairwise_reverse.2 (List.Pairwise.imp (fun h=>Ne.symm h) this)
 obtain⟨hp1,_⟩:=Zrt (n:=nb u) O'.reverse 0 (List.replicate (nb u) 0) hnd hrp (by simp)
 have hall:∀ k < nb u,(k:Int)∈O'.reverse:=by
  intro k hk
  have hc:O'.length+0=sn.count true:=h.cnt
  have hsl:sn.length=nb u:=h.sl
  have:=(h.mem k hk).1 (Zyp (l:=sn) (by omega) (by omega))
  rcases this with h1 | ⟨i,h1⟩
  ·simpa using h1
  ·cases h1
 obtain⟨O,hO⟩:∃ O,O'.reverse=O:=⟨_,rfl⟩
 have hOl:O.length=nb u:=by rw [← hO];simpa using hl
 obtain⟨P,hP⟩:∃ P,Zg8 (nb u) O=P:=⟨_,rfl⟩
 have hPg:Zht 0 O (List.replicate (nb u) 0)=P:=hP
 have h0:O.getD 0 0=0:=by
  have:=h.ne rfl
  dsimp only at this
  rw [← hO,List.getD_eq_getElem?_getD,← List.head?_eq_getElem?,List.head?_reverse,this];rfl
 have hbef:=h.par
 simp only at hbef
 rw [hO] at hrp hnd hp1 hall ⊢
 rw [hPg] at hp1
 rw [hP]
 have hp2:∀ j < nb u,P.getD (O.getD j 0).toNat 0=(j:Int):=fun j hj=>by rw [hp1 j (by omega)];omega
 have hidx:∀ k < nb u,∃ j < nb u,O.getD j 0=(k:Int):=by
  intro k hk
  obtain⟨j,hj,e⟩:=List.mem_iff_getElem.1 (hall k hk)
  exact⟨j,by omega,by rw [List.getD_eq_getElem?_getD,List.getElem?_eq_getElem hj];exact e⟩
 have hT:∀ j,(O.drop 1).getD j 0=O.getD (j+1) 0:=fun j=>by
  rw [List.getD_eq_getElem?_getD,List.getD_eq_getElem?_getD,List.getElem?_drop,Nat.add_comm]
 have hp0:P.getD 0 0=0:=by
  have:=hp2 0 hb
  rw [h0] at this
  simpa using this
 refine⟨hrp,⟨hb,by simp;omega,hp0,fun j hj=>?_,fun b hbn hb0=>?_,fun b hbn hb0=>?_,fun b hbn a ha=>Zk6 u b a ha⟩⟩
 ·have hj1:j+1 < nb u:=by simp at hj;omega
  have hr:=hrp _ (Za8 (l:=O) (i:=j+1) (by omega))
  have hp:=hp2 (j+1) hj1
  refine⟨(O.getD (j+1) 0).toNat,by rw [hT];omega,by omega,fun e=>?_,hp⟩
  rw [e,hp0] at hp
  omega
 ·obtain⟨j,hj,e⟩:=hidx b hbn
  cases j with
  | zero=>rw [h0] at e;omega
  | succ j=>exact⟨j,by simp;omega,by rw [hT];exact e⟩
 ·obtain⟨y,h1,h2⟩:=hbef (b:Int) (by have:=hall b hbn;rw [← hO] at this;simpa using this) (by omega)
  rcases h2 with⟨i,h2⟩ | ⟨l1,l2,e,h2,h3⟩
  ·cases h2
  ·have hy:=h.rp (y:Int) (by dsimp only;rw [e];simp [h3])
   have hyn:y < nb u:=by omega
   refine⟨y,hyn,(Zl hnx hbn).2 ⟨hyn,h1⟩,?_⟩
   have eO:O=l2.reverse++l1.reverse:=by rw [← hO,e];simp
   obtain⟨q,hq,eq1⟩:=List.mem_iff_getElem.1 (List.mem_reverse.2 h3)
   obtain⟨r,hr,er1⟩:=List.mem_iff_getElem.1 (List.mem_reverse.2 h2)
   have ol:O.length=l2.reverse.length+l1.reverse.length:=by rw [eO,List.length_append]
   have e1:O.getD q 0=(y:Int):=by
    rw [eO,List.getD_eq_getElem?_getD,List.getElem?_append_left hq,List.getElem?_eq_getElem hq];exact eq1
   have e2:O.getD (l2.reverse.length+r) 0=(b:Int):=by
    rw [eO,List.getD_eq_getElem?_getD,List.getElem?_append_right (by omega),Nat.add_sub_cancel_left,List.getElem?_eq_getElem hr];exact er1
   have g1:=hp2 q (by omega)
   have g2:=hp2 (l2.reverse.length+r) (by omega)
   rw [e1,Int.toNat_natCast] at g1
   rw [e2,Int.toNat_natCast] at g2
   rw [g1,g2];omega
end Go.Proofs.YtlogdohlcdhepaaDoor.base
end
section
set_option maxRecDepth 100000
namespace Go.Proofs.YtlogdohlcdhepaaDoor.base
open Go.Sh gen
inductive Anc (I:List Int):Nat→Nat→Prop
 | refl (x:Nat):Anc I x x
 | up {x y:Nat}:Anc I (I.getD x 0).toNat y→Anc I x y
theorem Anc.trans {I:List Int}{x y z:Nat}(h:Anc I x y)(k:Anc I y z):Anc I x z:=by
 induction h with
 | refl=>exact k
 | up _ ih=>exact .up (ih k)
theorem Rpo.pn {n:Nat}{pd:Nat→List Int}{P T:List Int}(R:Rpo n pd P T){x:Nat}(hx:x < n):0≤P.getD x 0∧P.getD x 0 < n∧(x≠0→0 < P.getD x 0):=by
 by_cases e:x=0
 ·rw [e,R.p0]
  have:=R.pos
  exact⟨by omega,by omega,fun h=>absurd rfl h⟩
 ·obtain⟨j,hj,hT⟩:=R.all x hx e
  obtain⟨b,h1,h2,h3,h4⟩:=R.t j hj
  have:b=x:=by rw [hT] at h1;omega
  rw [this] at h4
  have:=R.len
  rw [h4]
  exact⟨by omega,by omega,fun _=>by omega⟩
theorem Rpo.inj {n:Nat}{pd:Nat→List Int}{P T:List Int}(R:Rpo n pd P T){x y:Nat}(hx:x < n)(hy:y < n)(h:P.getD x 0=P.getD y 0):x=y:=by
 by_cases ex:x=0
 ·by_cases ey:y=0
  ·rw [ex,ey]
  ·have:=(R.pn hy).2.2 ey;rw [ex,R.p0] at h;omega
 ·by_cases ey:y=0
  ·have:=(R.pn hx).2.2 ex;rw [ey,R.p0] at h;omega
  ·obtain⟨j,hj,h1⟩:=R.all x hx ex
   obtain⟨b,h2,_,_,h3⟩:=R.t j hj
   obtain⟨j',hj',h1'⟩:=R.all y hy ey
   obtain⟨b',h2',_,_,h3'⟩:=R.t j' hj'
   have e1:b=x:=by rw [h1] at h2;omega
   have e2:b'=y:=by rw [h1'] at h2';omega
   rw [e1] at h3
   rw [e2] at h3'
   have:j=j':=by omega
   rw [this,h1'] at h1
   omega
structure DJ (n:Nat)(P I:List Int):Prop where
 len:I.length=n
 z:I.getD 0 0=0
 rg:∀ x < n,-1≤I.getD x 0∧I.getD x 0 < n
 up:∀ x < n,x≠0→0≤I.getD x 0→0≤I.getD (I.getD x 0).toNat 0∧P.getD (I.getD x 0).toNat 0 < P.getD x 0
theorem DJ.upOk {n:Nat}{P I:List Int}(h:DJ n P I):Yao n I:=by
 intro x hx h0
 refine⟨(h.rg x hx).2,?_⟩
 by_cases e:x=0
 ·rw [e,h.z];simp only [Int.toNat_zero];rw [h.z];omega
 ·exact (h.up x hx e h0).1
theorem DJ.anc {n:Nat}{P I:List Int}(h:DJ n P I){x y:Nat}(ha:Anc I x y):x < n→0≤I.getD x 0→y < n∧0≤I.getD y 0∧P.getD y 0≤P.getD x 0:=by
 induction ha with
 | refl x=>exact fun hx h0=>⟨hx,h0,Int.le_refl _⟩
 | @up x y _ ih =>
  intro hx h0
  have hr:=h.upOk x hx h0
  have:=ih (by omega) hr.2
  refine⟨this.1,this.2.1,?_⟩
  by_cases e:x=0
  ·rw [e,h.z] at this;rw [e];exact this.2.2
  ·have:=(h.up x hx e h0).2;omega
theorem DJ.anc0 {n:Nat}{P I:List Int}(h:DJ n P I){w:Nat}(hw:Anc I 0 w):w=0:=by
 have:∀ a b,Anc I a b→a=0→b=0:=by
  intro a b hab
  induction hab with
  | refl=>exact id
  | up _ ih2=>intro e;subst e;rw [h.z] at ih2;exact ih2 rfl
 exact this 0 w hw rfl
theorem Z6z {n:Nat}{pd:Nat→List Int}{P T I:List Int}(R:Rpo n pd P T)(h:DJ n P I):∀ (M a b:Nat),a < n→b < n→0≤I.getD a 0→0≤I.getD b 0→(P.getD a 0+P.getD b 0).toNat≤M→
  ∃ D c,D≤M∧Zdz P I D a b=some c∧Anc I a c∧Anc I b c∧∀ z,Anc I a z→Anc I b z→Anc I c z:=by
 intro M
 induction M with
 | zero =>
  intro a b ha hb ha0 hb0 hM
  have h1:=R.pn ha
  have h2:=R.pn hb
  have:a=b:=R.inj ha hb (by omega)
  subst this
  exact⟨0,a,Nat.le_refl _,by rw [Zdz,if_pos rfl],.refl _,.refl _,fun z hz _=>hz⟩
 | succ M ih =>
  intro a b ha hb ha0 hb0 hM
  have h1:=R.pn ha
  have h2:=R.pn hb
  by_cases e:a=b
  ·subst e
   exact⟨0,a,by omega,by rw [Zdz,if_pos rfl],.refl _,.refl _,fun z hz _=>hz⟩
  by_cases hp:P.getD b 0 < P.getD a 0
  ·have ane:a≠0:=fun e0=>by rw [e0,R.p0] at hp;omega
   have hu:=h.upOk a ha ha0
   have hu2:=(h.up a ha ane ha0).2
   have ha':(I.getD a 0).toNat < n:=by omega
   have hpa:=R.pn ha'
   obtain⟨D,c,g1,g2,g3,g4,g5⟩:=ih (I.getD a 0).toNat b ha' hb hu.2 hb0 (by omega)
   refine⟨D+1,c,by omega,by rw [Zdz,if_neg e,if_pos hp];exact g2,.up g3,g4,fun z hz1 hz2=>g5 z ?_ hz2⟩
   cases hz1 with
   | refl=>have:=(h.anc hz2 hb hb0).2.2;omega
   | up hz=>exact hz
  ·have hne:P.getD a 0≠P.getD b 0:=fun e2=>e (R.inj ha hb e2)
   have bne:b≠0:=fun e0=>by rw [e0,R.p0] at hp hne;omega
   have hu:=h.upOk b hb hb0
   have hu2:=(h.up b hb bne hb0).2
   have hb':(I.getD b 0).toNat < n:=by omega
   have hpb:=R.pn hb'
   obtain⟨D,c,g1,g2,g3,g4,g5⟩:=ih a (I.getD b 0).toNat ha hb' ha0 hu.2 (by omega)
   refine⟨D+1,c,by omega,by rw [Zdz,if_neg e,if_neg hp];exact g2,g3,.up g4,fun z hz1 hz2=>g5 z hz1 ?_⟩
   cases hz2 with
   | refl=>have:=(h.anc hz1 ha ha0).2.2;omega
   | up hz=>exact hz
theorem Z0v {n:Nat}{pd:Nat→List Int}{P T I:List Int}(R:Rpo n pd P T)(h:DJ n P I){a b:Nat}(ha:a < n)(hb:b < n)(ha0:0≤I.getD a 0)(hb0:0≤I.getD b 0) :
  ∃ c,Zl2 P I (2 * I.length+2) a b=c∧(∃ D,D≤2 * I.length+2∧Zdz P I D a b=some c)∧Anc I a c∧Anc I b c∧∀ z,Anc I a z→Anc I b z→Anc I c z:=by
 have h1:=R.pn ha
 have h2:=R.pn hb
 have hl:=h.len
 obtain⟨D,c,g1,g2,g3,g4,g5⟩:=Z6z R h (2 * I.length+2) a b ha hb ha0 hb0 (by omega)
 exact⟨c,Zrg g2 g1,⟨D,g1,g2⟩,g3,g4,g5⟩
theorem Zzv {n:Nat}{pd:Nat→List Int}{P T I:List Int}(R:Rpo n pd P T)(h:DJ n P I):∀ (l:List Int) (dd:Int),(∀ a∈l,(0:Int)≤a∧a < n)→-1≤dd→dd < n→(0≤dd→0≤I.getD dd.toNat 0)→
  -1≤l.foldl (Zor P I) dd∧l.foldl (Zor P I) dd < n∧(l.foldl (Zor P I) dd < 0→dd < 0∧∀ a∈l,I.getD a.toNat 0 < 0)∧
  (0≤l.foldl (Zor P I) dd→0≤I.getD (l.foldl (Zor P I) dd).toNat 0∧(0≤dd→Anc I dd.toNat (l.foldl (Zor P I) dd).toNat)∧(∀ a∈l,0≤I.getD a.toNat 0→Anc I a.toNat (l.foldl (Zor P I) dd).toNat)∧
   ∀ z,(0≤dd→Anc I dd.toNat z)→(∀ a∈l,0≤I.getD a.toNat 0→Anc I a.toNat z)→Anc I (l.foldl (Zor P I) dd).toNat z):=by
 intro l
 induction l with
 | nil =>
  intro dd _ h1 h2 h3
  exact⟨h1,h2,fun h=>⟨h,fun a ha=>by simp at ha⟩,fun h0=>⟨h3 h0,fun _=>.refl _,fun a ha=>by simp at ha,fun z hz _=>hz h0⟩⟩
 | cons a r ih =>
  intro dd hl h1 h2 h3
  rw [List.foldl_cons]
  have ha:=hl a (by simp)
  have hlr:∀ x∈r,(0:Int)≤x∧x < n:=fun x hx=>hl x (by simp [hx])
  by_cases hia:I.getD a.toNat 0 < 0
  ·have e:Zor P I dd a=dd:=by unfold Zor;rw [if_pos hia]
   rw [e]
   obtain⟨g1,g2,g3,g4⟩:=ih dd hlr h1 h2 h3
   refine⟨g1,g2,fun h=>⟨(g3 h).1,fun x hx=>?_⟩,fun h=>?_⟩
   ·rcases List.mem_cons.1 hx with rfl | hx
    ·exact hia
    ·exact (g3 h).2 x hx
   ·obtain⟨q1,q2,q3,q4⟩:=g4 h
    refine⟨q1,q2,fun x hx hx0=>?_,fun z hz hz2=>q4 z hz fun x hx=>hz2 x (by simp [hx])⟩
    rcases List.mem_cons.1 hx with rfl | hx
    ·omega
    ·exact q3 x hx hx0
  ·by_cases hdd:dd < 0
   ·have e:Zor P I dd a=a:=by unfold Zor;rw [if_neg hia,if_pos hdd]
    rw [e]
    obtain⟨g1,g2,g3,g4⟩:=ih a hlr (by omega) ha.2 (fun _=>by omega)
    refine⟨g1,g2,fun h=>?_,fun h=>?_⟩
    ·have:=(g3 h).1;omega
    ·obtain⟨q1,q2,q3,q4⟩:=g4 h
     refine⟨q1,fun h=>by omega,fun x hx hx0=>?_,fun z hz hz2=>q4 z (fun _=>hz2 a (by simp) (by omega)) fun x hx=>hz2 x (by simp [hx])⟩
     rcases List.mem_cons.1 hx with rfl | hx
     ·exact q2 ha.1
     ·exact q3 x hx hx0
   ·obtain⟨c,hc,⟨D,hD,hm⟩,c1,c2,c3⟩:=Z0v R h (a:=dd.toNat) (b:=a.toNat) (by omega) (by omega) (h3 (by omega)) (by omega)
    have e:Zor P I dd a=(c:Int):=by unfold Zor;rw [if_neg hia,if_neg hdd,hc]
    rw [e]
    have hcu:=h.anc c1 (by omega) (h3 (by omega))
    obtain⟨g1,g2,g3,g4⟩:=ih (c:Int) hlr (by omega) (by omega) (fun _=>by rw [Int.toNat_natCast];exact hcu.2.1)
    refine⟨g1,g2,fun h=>?_,fun h=>?_⟩
    ·have:=(g3 h).1;omega
    ·obtain⟨q1,q2,q3,q4⟩:=g4 h
     rw [Int.toNat_natCast] at q2 q4
     refine⟨q1,fun _=>c1.trans (q2 (by omega)),fun x hx hx0=>?_,fun z hz hz2=>q4 z (fun _=>c3 z (hz (by omega)) (hz2 a (by simp) (by omega))) fun x hx=>hz2 x (by simp [hx])⟩
     rcases List.mem_cons.1 hx with rfl | hx
     ·exact c2.trans (q2 (by omega))
     ·exact q3 x hx hx0
end Go.Proofs.YtlogdohlcdhepaaDoor.base
end
