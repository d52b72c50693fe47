/- This text proves, in plain Lean, that Order's way comes to an end, and what it gives. No condition. -/
import Derived.Test.YtcgmchechmbmeaaDoorM7
set_option linter.unusedVariables false
set_option linter.unusedSimpArgs false
section
set_option maxRecDepth 100000
namespace Go.Proofs.YtcgmchechmbmeaaDoor.base
open Go.Sh gen
def Ztt (l:List Int)(x y:Int):Prop:=∃ l1 l2,l=l1++l2∧x∈l1∧y∈l2
theorem Ztt.snoc {l:List Int}{x y b:Int}(h:Ztt l x y):Ztt (l++[b]) x y:=by
 obtain⟨l1,l2,rfl,h1,h2⟩:=h
 exact⟨l1,l2++[b],by simp,h1,by simp [h2]⟩
def Zle (u:UnT.D):List (Nat × Nat)→Prop
 | []=>True
 | [p]=>p.1=0
 | p::q::r=>(p.1:Int)∈nxD u q.1∧Zle u (q::r)
structure Zwd (u:UnT.D)(s:OSt):Prop where
 sl:s.1.length=nb u
 mem:∀ k < nb u,s.1.getD k false=true↔((k:Int)∈s.2.1∨∃ i,(k,i)∈s.2.2)
 nd:(s.2.1++s.2.2.map fun p=>(p.1:Int)).Nodup
 rp:∀ x∈s.2.1,(0:Int)≤x∧x < nb u
 rs:∀ p∈s.2.2,p.1 < nb u∧p.2≤(nxD u p.1).length
 lk:Zle u s.2.2
 par:∀ x∈s.2.1,x≠0→∃ y:Nat,x∈nxD u y∧((∃ i,(y,i)∈s.2.2)∨Ztt s.2.1 x y)
 cp:∀ x∈s.2.1,∀ k∈nxD u x.toNat,s.1.getD k.toNat false=true
 cs:∀ p∈s.2.2,∀ j < p.2,s.1.getD ((nxD u p.1).getD j 0).toNat false=true
 z:(0:Int)∈s.2.1→s.2.2=[]
 ne:s.2.2=[]→s.2.1.getLast?=some 0
 cnt:s.2.1.length+s.2.2.length=s.1.count true
def stM (st:List (Nat × Nat)):Nat:=(st.map fun p=>2 * (2 - p.2)+1).sum
def Z5h (u:UnT.D)(s:OSt):Nat:=6 * (nb u - s.1.count true)+stM s.2.2
theorem Zsu {u:UnT.D}{p:Nat × Nat}{r:List (Nat × Nat)}(h:Zle u (p::r)):Zle u r:=by
 cases r with
 | nil=>trivial
 | cons q r=>exact h.2
theorem Zmo {u:UnT.D}{b i j:Nat}{r:List (Nat × Nat)}(h:Zle u ((b,i)::r)):Zle u ((b,j)::r):=by
 cases r with
 | nil=>exact h
 | cons q r=>exact h
theorem Zjq (l:List Bool)(i k:Nat)(v:Bool)(h:i < l.length):(l.set i v).getD k false=if i=k then v else l.getD k false:=by
 rw [List.getD_eq_getElem?_getD,List.getElem?_set]
 split
 ·simp
 ·rw [List.getD_eq_getElem?_getD]
theorem Z2e {u:UnT.D}(hnx:Zm4 u){b:Nat}(hb:b < nb u):(nxD u b).length≤2∧∀ k∈nxD u b,(0:Int)≤k∧k < nb u:=hnx _ (Zfy hb)
theorem Zme {u:UnT.D}(hnx:Zm4 u){sn:List Bool}{pl:List Int}{b i:Nat}{st:List (Nat × Nat)}(h:Zwd u (sn,pl,(b,i)::st)) :
  Zwd u (Zmn u (sn,pl,(b,i)::st))∧Z5h u (Zmn u (sn,pl,(b,i)::st)) < Z5h u (sn,pl,(b,i)::st):=by
 obtain⟨sl,mem,nd,rp,rs,lk,par,cp,cs,z,ne,cnt⟩:=h
 dsimp only at sl mem nd rp rs lk par cp cs z ne cnt
 have hb:=rs (b,i) (by simp)
 dsimp only at hb
 have hn:=Z2e hnx hb.1
 have hb0:(0:Int)∉pl:=fun h0=>by have:=z h0;cases this
 have hst:Zmn u (sn,pl,(b,i)::st)=if i=(nxD u b).length then (sn,pl++[(b:Int)],st) else
   if sn.getD ((nxD u b).getD i 0).toNat false=true then (sn,pl,(b,i+1)::st) else
   (sn.set ((nxD u b).getD i 0).toNat true,pl,(((nxD u b).getD i 0).toNat,0)::(b,i+1)::st):=rfl
 rw [hst]
 by_cases hi:i=(nxD u b).length
 ·rw [if_pos hi]
  refine⟨⟨sl,fun k hk=>?_,?_,fun x hx=>?_,fun p hp=>rs p (by simp [hp]),Zsu lk,fun x hx h0=>?_,fun x hx k hk=>?_,fun p hp=>cs p (by simp [hp]),fun h0=>?_,fun he=>?_,by simp at cnt ⊢;omega⟩,?_⟩
  ·dsimp only
   rw [mem k hk]
   constructor
   ·rintro (h1 | ⟨j,h1⟩)
    ·exact Or.inl (by simp [h1])
    ·rcases List.mem_cons.1 h1 with e | h1
     ·exact Or.inl (by rw [Prod.mk.injEq] at e;simp [e.1])
     ·exact Or.inr ⟨j,h1⟩
   ·rintro (h1 | ⟨j,h1⟩)
    ·rcases List.mem_append.1 h1 with h1 | h1
     ·exact Or.inl h1
     ·simp at h1
      exact Or.inr ⟨i,by rw [show k=b by omega];simp⟩
    ·exact Or.inr ⟨j,by simp [h1]⟩
  ·dsimp only
   rw [List.map_cons] at nd
   simpa using nd
  ·dsimp only at hx
   rcases List.mem_append.1 hx with hx | hx
   ·exact rp x hx
   ·simp at hx;omega
  ·dsimp only at hx ⊢
   rcases List.mem_append.1 hx with hx | hx
   ·obtain⟨y,h1,h2⟩:=par x hx h0
    refine⟨y,h1,?_⟩
    rcases h2 with⟨j,h2⟩ | h2
    ·rcases List.mem_cons.1 h2 with e | h2
     ·rw [Prod.mk.injEq] at e
      exact Or.inr ⟨pl,[(b:Int)],rfl,hx,by simp [e.1]⟩
     ·exact Or.inl ⟨j,h2⟩
    ·exact Or.inr h2.snoc
   ·simp at hx
    subst hx
    cases st with
    | nil=>exact absurd (show (b:Int)=0 by have:b=0:=lk;omega) h0
    | cons q r=>exact⟨q.1,lk.1,Or.inl ⟨q.2,by simp⟩⟩
  ·dsimp only at hx ⊢
   rcases List.mem_append.1 hx with hx | hx
   ·exact cp x hx k hk
   ·simp at hx
    subst hx
    rw [Int.toNat_natCast] at hk
    obtain⟨j,hj,rfl⟩:=List.mem_iff_getElem.1 hk
    have:=cs (b,i) (by simp) j (by dsimp only;omega)
    dsimp only at this
    rw [List.getD_eq_getElem?_getD (l:=nxD u b),List.getElem?_eq_getElem hj] at this
    exact this
  ·dsimp only at h0 ⊢
   rcases List.mem_append.1 h0 with h0 | h0
   ·exact absurd h0 hb0
   ·simp at h0
    cases st with
    | nil=>rfl
    | cons q r =>
     exfalso
     have:∀ (st:List (Nat × Nat)),Zle u st→st≠[]→∃ i,(0,i)∈st:=by
      intro st
      induction st with
      | nil=>intro _ h;exact absurd rfl h
      | cons p r ih =>
       intro hl _
       cases r with
       | nil =>
        obtain⟨p1,p2⟩:=p
        have:p1=0:=hl
        exact⟨p2,by rw [this];simp⟩
       | cons q r =>
        obtain⟨i,hi⟩:=ih hl.2 (by simp)
        exact⟨i,List.mem_cons_of_mem _ hi⟩
     obtain⟨j,hj⟩:=this (q::r) lk.2 (by simp)
     rw [List.map_cons] at nd
     have nd2:=(List.nodup_append.1 nd).2.1
     rw [List.nodup_cons] at nd2
     exact nd2.1 (List.mem_map.2 ⟨(0,j),hj,by dsimp only;omega⟩)
  ·dsimp only at he ⊢
   subst he
   have:b=0:=lk
   simp [this]
  ·unfold Z5h stM
   simp only [List.map_cons,List.sum_cons]
   omega
 ·rw [if_neg hi]
  have hlt:i < (nxD u b).length:=by omega
  have hk:=hn.2 _ (Za6 hlt)
  obtain⟨k,hke⟩:∃ k:Nat,(nxD u b).getD i 0=(k:Int):=⟨((nxD u b).getD i 0).toNat,by omega⟩
  have hkm:(k:Int)∈nxD u b:=hke ▸ Za6 hlt
  rw [hke,Int.toNat_natCast]
  rw [hke] at hk
  have hkn:k < nb u:=by omega
  by_cases hs:sn.getD k false=true
  ·rw [if_pos hs]
   refine⟨⟨sl,fun q hq=>?_,by simpa using nd,rp,fun p hp=>?_,Zmo lk,fun x hx h0=>?_,cp,fun p hp j hj=>?_,fun h0=>absurd h0 hb0,fun he=>(by cases he),by simpa using cnt⟩,?_⟩
   ·dsimp only
    rw [mem q hq]
    constructor
    ·rintro (h1 | ⟨j,h1⟩)
     ·exact Or.inl h1
     ·rcases List.mem_cons.1 h1 with e | h1
      ·rw [Prod.mk.injEq] at e;exact Or.inr ⟨i+1,by rw [e.1];simp⟩
      ·exact Or.inr ⟨j,by simp [h1]⟩
    ·rintro (h1 | ⟨j,h1⟩)
     ·exact Or.inl h1
     ·rcases List.mem_cons.1 h1 with e | h1
      ·rw [Prod.mk.injEq] at e;exact Or.inr ⟨i,by rw [e.1];simp⟩
      ·exact Or.inr ⟨j,by simp [h1]⟩
   ·rcases List.mem_cons.1 hp with rfl | hp
    ·exact⟨hb.1,by dsimp only;omega⟩
    ·exact rs p (by simp [hp])
   ·obtain⟨y,h1,h2⟩:=par x hx h0
    refine⟨y,h1,?_⟩
    rcases h2 with⟨j,h2⟩ | h2
    ·rcases List.mem_cons.1 h2 with e | h2
     ·rw [Prod.mk.injEq] at e;exact Or.inl ⟨i+1,by rw [e.1];simp⟩
     ·exact Or.inl ⟨j,by simp [h2]⟩
    ·exact Or.inr h2
   ·rcases List.mem_cons.1 hp with rfl | hp
    ·dsimp only at hj ⊢
     by_cases e:j=i
     ·rw [e,hke,Int.toNat_natCast];exact hs
     ·exact cs (b,i) (by simp) j (by dsimp only;omega)
    ·exact cs p (by simp [hp]) j hj
   ·unfold Z5h stM
    simp only [List.map_cons,List.sum_cons]
    omega
  ·rw [if_neg hs]
   have hsf:sn.getD k false=false:=by simpa using hs
   have hkl:k < sn.length:=by omega
   have hmono:∀ q,sn.getD q false=true→(sn.set k true).getD q false=true:=fun q hq=>by
    rw [Zjq _ _ _ _ hkl];split
    ·rfl
    ·exact hq
   have hnk:¬ ((k:Int)∈pl∨∃ j,(k,j)∈(b,i)::st):=fun h=>hs ((mem k hkn).2 h)
   refine⟨⟨by simpa using sl,fun q hq=>?_,?_,rp,fun p hp=>?_,⟨hkm,Zmo lk⟩,fun x hx h0=>?_,fun x hx q hq=>hmono _ (cp x hx q hq),fun p hp j hj=>?_,fun h0=>absurd h0 hb0,fun he=>(by cases he),by dsimp only;rw [Zh3 hkl hsf];simp at cnt ⊢;omega⟩,?_⟩
   ·dsimp only
    rw [Zjq _ _ _ _ hkl]
    by_cases e:k=q
    ·rw [if_pos e]
     exact⟨fun _=>Or.inr ⟨0,by rw [e];simp⟩,fun _=>rfl⟩
    ·rw [if_neg e,mem q hq]
     constructor
     ·rintro (h1 | ⟨j,h1⟩)
      ·exact Or.inl h1
      ·rcases List.mem_cons.1 h1 with e | h1
       ·rw [Prod.mk.injEq] at e;exact Or.inr ⟨i+1,by rw [e.1];simp⟩
       ·exact Or.inr ⟨j,by simp [h1]⟩
     ·rintro (h1 | ⟨j,h1⟩)
      ·exact Or.inl h1
      ·rcases List.mem_cons.1 h1 with e1 | h1
       ·rw [Prod.mk.injEq] at e1;exact absurd e1.1.symm e
       ·rcases List.mem_cons.1 h1 with e1 | h1
        ·rw [Prod.mk.injEq] at e1;exact Or.inr ⟨i,by rw [e1.1];simp⟩
        ·exact Or.inr ⟨j,by simp [h1]⟩
   ·dsimp only
    rw [List.map_cons] at nd ⊢
    rw [List.map_cons]
    rw [List.nodup_append] at nd ⊢
    obtain⟨n1,n2,n3⟩:=nd
    have hk2:(k:Int)∉(b:Int)::List.map (fun p:Nat × Nat=>(p.1:Int)) st:=by
     intro hm
     apply hnk
     rcases List.mem_cons.1 hm with e | hm
     ·exact Or.inr ⟨i,by rw [show k=b by omega];simp⟩
     ·obtain⟨p,hp,e⟩:=List.mem_map.1 hm
      exact Or.inr ⟨p.2,List.mem_cons_of_mem _ (by rw [show k=p.1 by omega];exact hp)⟩
    refine⟨n1,List.nodup_cons.2 ⟨hk2,n2⟩,fun a ha c hc=>?_⟩
    rcases List.mem_cons.1 hc with rfl | hc
    ·intro e
     exact hnk (Or.inl (by rw [← e];exact ha))
    ·exact n3 a ha c hc
   ·rcases List.mem_cons.1 hp with rfl | hp
    ·exact⟨hkn,by dsimp only;omega⟩
    ·rcases List.mem_cons.1 hp with rfl | hp
     ·exact⟨hb.1,by dsimp only;omega⟩
     ·exact rs p (by simp [hp])
   ·obtain⟨y,h1,h2⟩:=par x hx h0
    refine⟨y,h1,?_⟩
    rcases h2 with⟨j,h2⟩ | h2
    ·rcases List.mem_cons.1 h2 with e | h2
     ·rw [Prod.mk.injEq] at e;exact Or.inl ⟨i+1,by rw [e.1];simp⟩
     ·exact Or.inl ⟨j,by simp [h2]⟩
    ·exact Or.inr h2
   ·rcases List.mem_cons.1 hp with rfl | hp
    ·dsimp only at hj;omega
    ·rcases List.mem_cons.1 hp with rfl | hp
     ·dsimp only at hj ⊢
      by_cases e:j=i
      ·rw [e,hke,Int.toNat_natCast,Zjq _ _ _ _ hkl,if_pos rfl]
      ·exact hmono _ (cs (b,i) (by simp) j (by dsimp only;omega))
     ·exact hmono _ (cs p (by simp [hp]) j hj)
   ·unfold Z5h stM
    simp only [List.map_cons,List.sum_cons]
    have c1:=Zh3 hkl hsf
    have c2:=Zip (sn.set k true)
    rw [List.length_set] at c2
    omega
theorem Z4f {u:UnT.D}(hnx:Zm4 u):∀ (M:Nat) (s:OSt),Zwd u s→Z5h u s≤M→∃ D O' sn,Zln u D s=some O'∧Zwd u (sn,O',[]):=by
 intro M
 induction M with
 | zero =>
  intro s h hM
  obtain⟨sn,pl,st⟩:=s
  cases st with
  | nil=>exact⟨0,pl,sn,rfl,h⟩
  | cons p r=>obtain⟨b,i⟩:=p;have:=(Zme hnx h).2;omega
 | succ M ih =>
  intro s h hM
  obtain⟨sn,pl,st⟩:=s
  cases st with
  | nil=>exact⟨0,pl,sn,rfl,h⟩
  | cons p r =>
   obtain⟨b,i⟩:=p
   obtain⟨h1,h2⟩:=Zme hnx h
   obtain⟨D,O',sn',h3,h4⟩:=ih _ h1 (by omega)
   exact⟨D+1,O',sn',by rw [Zln];exact h3,h4⟩
theorem Z0v {u:UnT.D}(hb:0 < nb u):Zwd u (Zp2 u):=by
 have hl:0 < (List.replicate (nb u) false).length:=by simpa using hb
 refine⟨by simp [Zp2],fun k hk=>?_,by simp [Zp2],fun x hx=>by simp [Zp2] at hx,fun p hp=>?_,by simp [Zp2,Zle],fun x hx=>by simp [Zp2] at hx,fun x hx=>by simp [Zp2] at hx,fun p hp j hj=>?_,fun h=>by simp [Zp2] at h,fun h=>by simp [Zp2] at h,?_⟩
 ·unfold Zp2
  dsimp only
  rw [Zjq _ _ _ _ hl]
  by_cases e:0=k
  ·rw [if_pos e];exact⟨fun _=>Or.inr ⟨0,by rw [← e];simp⟩,fun _=>rfl⟩
  ·rw [if_neg e,List.getD_eq_getElem?_getD,List.getElem?_replicate,if_pos hk]
   constructor
   ·intro h;cases h
   ·rintro (h | ⟨j,h⟩)
    ·simp at h
    ·simp at h;omega
 ·simp [Zp2] at hp;subst hp;exact⟨hb,by dsimp only;omega⟩
 ·simp [Zp2] at hp;subst hp;dsimp only at hj;omega
 ·unfold Zp2
  dsimp only
  rw [Zh3 hl (by rw [List.getD_eq_getElem?_getD,List.getElem?_replicate,if_pos hb];rfl)]
  simp [List.count_replicate]
end Go.Proofs.YtcgmchechmbmeaaDoor.base
end
section
set_option maxRecDepth 100000
namespace Go.Proofs.YtcgmchechmbmeaaDoor.base
open Go.Sh gen
theorem Zw {i:Nat}{k:Int}{L:List (List Int)}{j:Nat}(hj:j < L.length){x:Int}:x∈(Zd4 i L k).getD j []↔x∈L.getD j []∨(x=i∧k.toNat=j):=by
 unfold Zd4
 by_cases e:j=k.toNat
 ·subst e
  rw [Zdt hj,List.mem_append];simp
 ·rw [Zdw e]
  exact⟨Or.inl,fun h=>h.resolve_right fun h=>e h.2.symm⟩
theorem Zu4 {i:Nat}(l:List Int){L:List (List Int)}{j:Nat}(hj:j < L.length){x:Int}:x∈(l.foldl (Zd4 i) L).getD j []↔x∈L.getD j []∨(x=i∧∃ k∈l,k.toNat=j):=by
 induction l generalizing L with
 | nil=>simp
 | cons k r ih =>
  rw [List.foldl_cons,ih (by simpa [Zd4] using hj),Zw hj,or_assoc]
  apply or_congr_right
  constructor
  ·rintro (⟨h1,h2⟩ | ⟨h1,q,h2,h3⟩)
   ·exact⟨h1,k,by simp,h2⟩
   ·exact⟨h1,q,by simp [h2],h3⟩
  ·rintro⟨h1,q,h2,h3⟩
   rcases List.mem_cons.1 h2 with rfl | h2
   ·exact Or.inl ⟨h1,h3⟩
   ·exact Or.inr ⟨h1,q,h2,h3⟩
theorem Zvv (bs:List Zct.D){i:Nat}{L:List (List Int)}{j:Nat}(hj:j < L.length){x:Int}:x∈(Zdm i bs L).getD j []↔x∈L.getD j []∨∃ q b,bs[q]?=some b∧x=((i+q:Nat):Int)∧∃ k∈(show List Int from b.2.2.2.1),k.toNat=j:=by
 induction bs generalizing i L with
 | nil=>simp [Zdm]
 | cons b r ih =>
  rw [Zdm,ih (by rw [Zoc];exact hj),Zu4 _ hj,or_assoc]
  apply or_congr_right
  constructor
  ·rintro (⟨h1,h2⟩ | ⟨q,b',h1,h2,h3⟩)
   ·exact⟨0,b,rfl,by rw [h1];simp,h2⟩
   ·exact⟨q+1,b',by simpa using h1,by rw [h2];omega,h3⟩
  ·rintro⟨q,b',h1,h2,h3⟩
   cases q with
   | zero =>
    simp at h1
    subst h1
    exact Or.inl ⟨by rw [h2];simp,h3⟩
   | succ q=>exact Or.inr ⟨q,b',by simpa using h1,by rw [h2];omega,h3⟩
theorem Zij {u:UnT.D}(hnx:Zm4 u){b:Nat}(hb:b < nb u){a:Nat}:(a:Int)∈(Zal u).getD b []↔a < nb u∧(b:Int)∈nxD u a:=by
 unfold Zal
 rw [Zvv _ (by simpa using hb)]
 have e:(List.replicate (nb u) ([]:List Int)).getD b []=[]:=by rw [List.getD_eq_getElem?_getD,List.getElem?_replicate,if_pos hb];rfl
 rw [e]
 constructor
 ·rintro (h | ⟨q,x,h1,h2,k,h3,h4⟩)
  ·cases h
  ·have hq:a=q:=by omega
   subst hq
   obtain⟨hqn,rfl⟩:=List.getElem?_eq_some_iff.1 h1
   have ex:nxD u a=(u.2.2.2.1[a]).2.2.2.1:=congrArg (fun x:Zct.D=>x.2.2.2.1) (Zb2 hqn)
   have hk:=(Z2e hnx hqn).2 k (by rw [ex];exact h3)
   refine⟨hqn,?_⟩
   rw [ex,show (b:Int)=k by omega]
   exact h3
 ·rintro⟨h1,h2⟩
  have ex:nxD u a=(u.2.2.2.1[a]).2.2.2.1:=congrArg (fun x:Zct.D=>x.2.2.2.1) (Zb2 h1)
  rw [ex] at h2
  exact Or.inr ⟨a,_,List.getElem?_eq_getElem h1,by omega,(b:Int),h2,by simp⟩
theorem Zq5 {n:Nat}:∀ (O:List Int) (i:Nat) (P:List Int),O.Nodup→(∀ x∈O,(0:Int)≤x∧x < n)→P.length=n→
  (∀ j < O.length,(Zhi i O P).getD (O.getD j 0).toNat 0=((i+j:Nat):Int))∧∀ k:Nat,(k:Int)∉O→(Zhi i O P).getD k 0=P.getD k 0
 | [],i,P,_,_,_=>⟨fun j hj=>by simp at hj,fun k _=>rfl⟩
 | b::r,i,P,hd,hr,hP=>by
  rw [List.nodup_cons] at hd
  have hb:=hr b (by simp)
  obtain⟨h1,h2⟩:=Zq5 r (i+1) (P.set b.toNat (i:Int)) hd.2 (fun x hx=>hr x (by simp [hx])) (by simpa using hP)
  have hbl:b.toNat < P.length:=by omega
  refine⟨fun j hj=>?_,fun k hk=>?_⟩
  ·cases j with
   | zero =>
    rw [Zhi]
    have:=h2 b.toNat (by rw [Int.toNat_of_nonneg hb.1];exact hd.1)
    have e:(b::r).getD 0 0=b:=rfl
    rw [e,this,Zbd _ _ _ _ hbl,if_pos rfl,Nat.add_zero]
   | succ j =>
    rw [Zhi]
    have:=h1 j (by simpa using hj)
    have e:(b::r).getD (j+1) 0=r.getD j 0:=rfl
    rw [e,this];omega
  ·rw [Zhi]
   simp only [List.mem_cons,not_or] at hk
   rw [h2 k hk.2,Zbd _ _ _ _ hbl,if_neg (by omega)]
structure Rpo (n:Nat)(pd:Nat→List Int)(P T:List Int):Prop where
 pos:0 < n
 len:T.length+1=n
 p0:P.getD 0 0=0
 t:∀ j < T.length,∃ b:Nat,T.getD j 0=(b:Int)∧b < n∧b≠0∧P.getD b 0=((j+1:Nat):Int)
 all:∀ b < n,b≠0→∃ j < T.length,T.getD j 0=(b:Int)
 fw:∀ b < n,b≠0→∃ a < n,(a:Int)∈pd b∧P.getD a 0 < P.getD b 0
 pr:∀ b < n,∀ a∈pd b,(0:Int)≤a∧a < n
theorem Zyp {l:List Bool}(h:l.count true=l.length){k:Nat}(hk:k < l.length):l.getD k false=true:=by
 induction l generalizing k with
 | nil=>simp at hk
 | cons a r ih =>
  have hr:=Zip r
  rw [List.count_cons,List.length_cons] at h
  cases a with
  | false=>simp at h;omega
  | true =>
   cases k with
   | zero=>rfl
   | succ k =>
    simp at h
    have:=ih h (k:=k) (by simpa using hk)
    simpa using this
theorem Z6i {u:UnT.D}(hnx:Zm4 u)(hb:0 < nb u){sn:List Bool}{O':List Int}(h:Zwd u (sn,O',[]))(hl:O'.length=nb u) :
  (∀ x∈O'.reverse,(0:Int)≤x∧x < nb u)∧Rpo (nb u) (fun b=>(Zal u).getD b []) (Zgl (nb u) O'.reverse) (O'.reverse.drop 1):=by
 have hrp:∀ x∈O'.reverse,(0:Int)≤x∧x < nb u:=fun x hx=>h.rp x (by simpa using hx)
 have hnd:O'.reverse.Nodup:=by
  have:=h.nd
  simp only [List.map_nil,List.append_nil] at this
  exact List.pairwise_reverse.2 (List.Pairwise.imp (fun h=>Ne.symm h) this)
 obtain⟨hp1,_⟩:=Zq5 (n:=nb u) O'.reverse 0 (List.replicate (nb u) 0) hnd hrp (by simp)
 have hall:∀ k < nb u,(k:Int)∈O'.reverse:=by
  intro k hk
  have hc:O'.length+0=sn.count true:=h.cnt
  have hsl:sn.length=nb u:=h.sl
  have:=(h.mem k hk).1 (Zyp (l:=sn) (by omega) (by omega))
  rcases this with h1 | ⟨i,h1⟩
  ·simpa using h1
  ·cases h1
 obtain⟨O,hO⟩:∃ O,O'.reverse=O:=⟨_,rfl⟩
 have hOl:O.length=nb u:=by rw [← hO];simpa using hl
 obtain⟨P,hP⟩:∃ P,Zgl (nb u) O=P:=⟨_,rfl⟩
 have hPg:Zhi 0 O (List.replicate (nb u) 0)=P:=hP
 have h0:O.getD 0 0=0:=by
  have:=h.ne rfl
  dsimp only at this
  rw [← hO,List.getD_eq_getElem?_getD,← List.head?_eq_getElem?,List.head?_reverse,this];rfl
 have hbef:=h.par
 simp only at hbef
 rw [hO] at hrp hnd hp1 hall ⊢
 rw [hPg] at hp1
 rw [hP]
 have hp2:∀ j < nb u,P.getD (O.getD j 0).toNat 0=(j:Int):=fun j hj=>by rw [hp1 j (by omega)];omega
 have hidx:∀ k < nb u,∃ j < nb u,O.getD j 0=(k:Int):=by
  intro k hk
  obtain⟨j,hj,e⟩:=List.mem_iff_getElem.1 (hall k hk)
  exact⟨j,by omega,by rw [List.getD_eq_getElem?_getD,List.getElem?_eq_getElem hj];exact e⟩
 have hT:∀ j,(O.drop 1).getD j 0=O.getD (j+1) 0:=fun j=>by
  rw [List.getD_eq_getElem?_getD,List.getD_eq_getElem?_getD,List.getElem?_drop,Nat.add_comm]
 have hp0:P.getD 0 0=0:=by
  have:=hp2 0 hb
  rw [h0] at this
  simpa using this
 refine⟨hrp,⟨hb,by simp;omega,hp0,fun j hj=>?_,fun b hbn hb0=>?_,fun b hbn hb0=>?_,fun b hbn a ha=>Zge u b a ha⟩⟩
 ·have hj1:j+1 < nb u:=by simp at hj;omega
  have hr:=hrp _ (Za6 (l:=O) (i:=j+1) (by omega))
  have hp:=hp2 (j+1) hj1
  refine⟨(O.getD (j+1) 0).toNat,by rw [hT];omega,by omega,fun e=>?_,hp⟩
  rw [e,hp0] at hp
  omega
 ·obtain⟨j,hj,e⟩:=hidx b hbn
  cases j with
  | zero=>rw [h0] at e;omega
  | succ j=>exact⟨j,by simp;omega,by rw [hT];exact e⟩
 ·obtain⟨y,h1,h2⟩:=hbef (b:Int) (by have:=hall b hbn;rw [← hO] at this;simpa using this) (by omega)
  rcases h2 with⟨i,h2⟩ | ⟨l1,l2,e,h2,h3⟩
  ·cases h2
  ·have hy:=h.rp (y:Int) (by dsimp only;rw [e];simp [h3])
   have hyn:y < nb u:=by omega
   refine⟨y,hyn,(Zij hnx hbn).2 ⟨hyn,h1⟩,?_⟩
   have eO:O=l2.reverse++l1.reverse:=by rw [← hO,e];simp
   obtain⟨q,hq,eq1⟩:=List.mem_iff_getElem.1 (List.mem_reverse.2 h3)
   obtain⟨r,hr,er1⟩:=List.mem_iff_getElem.1 (List.mem_reverse.2 h2)
   have ol:O.length=l2.reverse.length+l1.reverse.length:=by rw [eO,List.length_append]
   have e1:O.getD q 0=(y:Int):=by
    rw [eO,List.getD_eq_getElem?_getD,List.getElem?_append_left hq,List.getElem?_eq_getElem hq];exact eq1
   have e2:O.getD (l2.reverse.length+r) 0=(b:Int):=by
    rw [eO,List.getD_eq_getElem?_getD,List.getElem?_append_right (by omega),Nat.add_sub_cancel_left,List.getElem?_eq_getElem hr];exact er1
   have g1:=hp2 q (by omega)
   have g2:=hp2 (l2.reverse.length+r) (by omega)
   rw [e1,Int.toNat_natCast] at g1
   rw [e2,Int.toNat_natCast] at g2
   rw [g1,g2];omega
end Go.Proofs.YtcgmchechmbmeaaDoor.base
end
section
set_option maxRecDepth 100000
namespace Go.Proofs.YtcgmchechmbmeaaDoor.base
open Go.Sh gen
inductive Anc (I:List Int):Nat→Nat→Prop
 | refl (x:Nat):Anc I x x
 | up {x y:Nat}:Anc I (I.getD x 0).toNat y→Anc I x y
theorem Anc.trans {I:List Int}{x y z:Nat}(h:Anc I x y)(k:Anc I y z):Anc I x z:=by
 induction h with
 | refl=>exact k
 | up _ ih=>exact .up (ih k)
theorem Rpo.pn {n:Nat}{pd:Nat→List Int}{P T:List Int}(R:Rpo n pd P T){x:Nat}(hx:x < n):0≤P.getD x 0∧P.getD x 0 < n∧(x≠0→0 < P.getD x 0):=by
 by_cases e:x=0
 ·rw [e,R.p0]
  have:=R.pos
  exact⟨by omega,by omega,fun h=>absurd rfl h⟩
 ·obtain⟨j,hj,hT⟩:=R.all x hx e
  obtain⟨b,h1,h2,h3,h4⟩:=R.t j hj
  have:b=x:=by rw [hT] at h1;omega
  rw [this] at h4
  have:=R.len
  rw [h4]
  exact⟨by omega,by omega,fun _=>by omega⟩
theorem Rpo.inj {n:Nat}{pd:Nat→List Int}{P T:List Int}(R:Rpo n pd P T){x y:Nat}(hx:x < n)(hy:y < n)(h:P.getD x 0=P.getD y 0):x=y:=by
 by_cases ex:x=0
 ·by_cases ey:y=0
  ·rw [ex,ey]
  ·have:=(R.pn hy).2.2 ey;rw [ex,R.p0] at h;omega
 ·by_cases ey:y=0
  ·have:=(R.pn hx).2.2 ex;rw [ey,R.p0] at h;omega
  ·obtain⟨j,hj,h1⟩:=R.all x hx ex
   obtain⟨b,h2,_,_,h3⟩:=R.t j hj
   obtain⟨j',hj',h1'⟩:=R.all y hy ey
   obtain⟨b',h2',_,_,h3'⟩:=R.t j' hj'
   have e1:b=x:=by rw [h1] at h2;omega
   have e2:b'=y:=by rw [h1'] at h2';omega
   rw [e1] at h3
   rw [e2] at h3'
   have:j=j':=by omega
   rw [this,h1'] at h1
   omega
structure DJ (n:Nat)(P I:List Int):Prop where
 len:I.length=n
 z:I.getD 0 0=0
 rg:∀ x < n,-1≤I.getD x 0∧I.getD x 0 < n
 up:∀ x < n,x≠0→0≤I.getD x 0→0≤I.getD (I.getD x 0).toNat 0∧P.getD (I.getD x 0).toNat 0 < P.getD x 0
theorem DJ.upOk {n:Nat}{P I:List Int}(h:DJ n P I):Z8b n I:=by
 intro x hx h0
 refine⟨(h.rg x hx).2,?_⟩
 by_cases e:x=0
 ·rw [e,h.z];simp only [Int.toNat_zero];rw [h.z];omega
 ·exact (h.up x hx e h0).1
theorem DJ.anc {n:Nat}{P I:List Int}(h:DJ n P I){x y:Nat}(ha:Anc I x y):x < n→0≤I.getD x 0→y < n∧0≤I.getD y 0∧P.getD y 0≤P.getD x 0:=by
 induction ha with
 | refl x=>exact fun hx h0=>⟨hx,h0,Int.le_refl _⟩
 | @up x y _ ih =>
  intro hx h0
  have hr:=h.upOk x hx h0
  have:=ih (by omega) hr.2
  refine⟨this.1,this.2.1,?_⟩
  by_cases e:x=0
  ·rw [e,h.z] at this;rw [e];exact this.2.2
  ·have:=(h.up x hx e h0).2;omega
theorem DJ.anc0 {n:Nat}{P I:List Int}(h:DJ n P I){w:Nat}(hw:Anc I 0 w):w=0:=by
 have:∀ a b,Anc I a b→a=0→b=0:=by
  intro a b hab
  induction hab with
  | refl=>exact id
  | up _ ih2=>intro e;subst e;rw [h.z] at ih2;exact ih2 rfl
 exact this 0 w hw rfl
theorem Z2u {n:Nat}{pd:Nat→List Int}{P T I:List Int}(R:Rpo n pd P T)(h:DJ n P I):∀ (M a b:Nat),a < n→b < n→0≤I.getD a 0→0≤I.getD b 0→(P.getD a 0+P.getD b 0).toNat≤M→
  ∃ D c,D≤M∧Zdl P I D a b=some c∧Anc I a c∧Anc I b c∧∀ z,Anc I a z→Anc I b z→Anc I c z:=by
 intro M
 induction M with
 | zero =>
  intro a b ha hb ha0 hb0 hM
  have h1:=R.pn ha
  have h2:=R.pn hb
  have:a=b:=R.inj ha hb (by omega)
  subst this
  exact⟨0,a,Nat.le_refl _,by rw [Zdl,if_pos rfl],.refl _,.refl _,fun z hz _=>hz⟩
 | succ M ih =>
  intro a b ha hb ha0 hb0 hM
  have h1:=R.pn ha
  have h2:=R.pn hb
  by_cases e:a=b
  ·subst e
   exact⟨0,a,by omega,by rw [Zdl,if_pos rfl],.refl _,.refl _,fun z hz _=>hz⟩
  by_cases hp:P.getD b 0 < P.getD a 0
  ·have ane:a≠0:=fun e0=>by rw [e0,R.p0] at hp;omega
   have hu:=h.upOk a ha ha0
   have hu2:=(h.up a ha ane ha0).2
   have ha':(I.getD a 0).toNat < n:=by omega
   have hpa:=R.pn ha'
   obtain⟨D,c,g1,g2,g3,g4,g5⟩:=ih (I.getD a 0).toNat b ha' hb hu.2 hb0 (by omega)
   refine⟨D+1,c,by omega,by rw [Zdl,if_neg e,if_pos hp];exact g2,.up g3,g4,fun z hz1 hz2=>g5 z ?_ hz2⟩
   cases hz1 with
   | refl=>have:=(h.anc hz2 hb hb0).2.2;omega
   | up hz=>exact hz
  ·have hne:P.getD a 0≠P.getD b 0:=fun e2=>e (R.inj ha hb e2)
   have bne:b≠0:=fun e0=>by rw [e0,R.p0] at hp hne;omega
   have hu:=h.upOk b hb hb0
   have hu2:=(h.up b hb bne hb0).2
   have hb':(I.getD b 0).toNat < n:=by omega
   have hpb:=R.pn hb'
   obtain⟨D,c,g1,g2,g3,g4,g5⟩:=ih a (I.getD b 0).toNat ha hb' ha0 hu.2 (by omega)
   refine⟨D+1,c,by omega,by rw [Zdl,if_neg e,if_neg hp];exact g2,g3,.up g4,fun z hz1 hz2=>g5 z hz1 ?_⟩
   cases hz2 with
   | refl=>have:=(h.anc hz1 ha ha0).2.2;omega
   | up hz=>exact hz
theorem Zx7 {n:Nat}{pd:Nat→List Int}{P T I:List Int}(R:Rpo n pd P T)(h:DJ n P I){a b:Nat}(ha:a < n)(hb:b < n)(ha0:0≤I.getD a 0)(hb0:0≤I.getD b 0) :
  ∃ c,Zk9 P I (2 * I.length+2) a b=c∧(∃ D,D≤2 * I.length+2∧Zdl P I D a b=some c)∧Anc I a c∧Anc I b c∧∀ z,Anc I a z→Anc I b z→Anc I c z:=by
 have h1:=R.pn ha
 have h2:=R.pn hb
 have hl:=h.len
 obtain⟨D,c,g1,g2,g3,g4,g5⟩:=Z2u R h (2 * I.length+2) a b ha hb ha0 hb0 (by omega)
 exact⟨c,Zrb g2 g1,⟨D,g1,g2⟩,g3,g4,g5⟩
theorem Zxm {n:Nat}{pd:Nat→List Int}{P T I:List Int}(R:Rpo n pd P T)(h:DJ n P I):∀ (l:List Int) (dd:Int),(∀ a∈l,(0:Int)≤a∧a < n)→-1≤dd→dd < n→(0≤dd→0≤I.getD dd.toNat 0)→
  -1≤l.foldl (Zoh P I) dd∧l.foldl (Zoh P I) dd < n∧(l.foldl (Zoh P I) dd < 0→dd < 0∧∀ a∈l,I.getD a.toNat 0 < 0)∧
  (0≤l.foldl (Zoh P I) dd→0≤I.getD (l.foldl (Zoh P I) dd).toNat 0∧(0≤dd→Anc I dd.toNat (l.foldl (Zoh P I) dd).toNat)∧(∀ a∈l,0≤I.getD a.toNat 0→Anc I a.toNat (l.foldl (Zoh P I) dd).toNat)∧
   ∀ z,(0≤dd→Anc I dd.toNat z)→(∀ a∈l,0≤I.getD a.toNat 0→Anc I a.toNat z)→Anc I (l.foldl (Zoh P I) dd).toNat z):=by
 intro l
 induction l with
 | nil =>
  intro dd _ h1 h2 h3
  exact⟨h1,h2,fun h=>⟨h,fun a ha=>by simp at ha⟩,fun h0=>⟨h3 h0,fun _=>.refl _,fun a ha=>by simp at ha,fun z hz _=>hz h0⟩⟩
 | cons a r ih =>
  intro dd hl h1 h2 h3
  rw [List.foldl_cons]
  have ha:=hl a (by simp)
  have hlr:∀ x∈r,(0:Int)≤x∧x < n:=fun x hx=>hl x (by simp [hx])
  by_cases hia:I.getD a.toNat 0 < 0
  ·have e:Zoh P I dd a=dd:=by unfold Zoh;rw [if_pos hia]
   rw [e]
   obtain⟨g1,g2,g3,g4⟩:=ih dd hlr h1 h2 h3
   refine⟨g1,g2,fun h=>⟨(g3 h).1,fun x hx=>?_⟩,fun h=>?_⟩
   ·rcases List.mem_cons.1 hx with rfl | hx
    ·exact hia
    ·exact (g3 h).2 x hx
   ·obtain⟨q1,q2,q3,q4⟩:=g4 h
    refine⟨q1,q2,fun x hx hx0=>?_,fun z hz hz2=>q4 z hz fun x hx=>hz2 x (by simp [hx])⟩
    rcases List.mem_cons.1 hx with rfl | hx
    ·omega
    ·exact q3 x hx hx0
  ·by_cases hdd:dd < 0
   ·have e:Zoh P I dd a=a:=by unfold Zoh;rw [if_neg hia,if_pos hdd]
    rw [e]
    obtain⟨g1,g2,g3,g4⟩:=ih a hlr (by omega) ha.2 (fun _=>by omega)
    refine⟨g1,g2,fun h=>?_,fun h=>?_⟩
    ·have:=(g3 h).1;omega
    ·obtain⟨q1,q2,q3,q4⟩:=g4 h
     refine⟨q1,fun h=>by omega,fun x hx hx0=>?_,fun z hz hz2=>q4 z (fun _=>hz2 a (by simp) (by omega)) fun x hx=>hz2 x (by simp [hx])⟩
     rcases List.mem_cons.1 hx with rfl | hx
     ·exact q2 ha.1
     ·exact q3 x hx hx0
   ·obtain⟨c,hc,⟨D,hD,hm⟩,c1,c2,c3⟩:=Zx7 R h (a:=dd.toNat) (b:=a.toNat) (by omega) (by omega) (h3 (by omega)) (by omega)
    have e:Zoh P I dd a=(c:Int):=by unfold Zoh;rw [if_neg hia,if_neg hdd,hc]
    rw [e]
    have hcu:=h.anc c1 (by omega) (h3 (by omega))
    obtain⟨g1,g2,g3,g4⟩:=ih (c:Int) hlr (by omega) (by omega) (fun _=>by rw [Int.toNat_natCast];exact hcu.2.1)
    refine⟨g1,g2,fun h=>?_,fun h=>?_⟩
    ·have:=(g3 h).1;omega
    ·obtain⟨q1,q2,q3,q4⟩:=g4 h
     rw [Int.toNat_natCast] at q2 q4
     refine⟨q1,fun _=>c1.trans (q2 (by omega)),fun x hx hx0=>?_,fun z hz hz2=>q4 z (fun _=>c3 z (hz (by omega)) (hz2 a (by simp) (by omega))) fun x hx=>hz2 x (by simp [hx])⟩
     rcases List.mem_cons.1 hx with rfl | hx
     ·exact c2.trans (q2 (by omega))
     ·exact q3 x hx hx0
end Go.Proofs.YtcgmchechmbmeaaDoor.base
end
section
set_option maxRecDepth 100000
namespace Go.Proofs.YtcgmchechmbmeaaDoor.base
open Go.Sh gen
def FwX (n:Nat)(pd:Nat→List Int)(P I:List Int)(x:Nat):Prop:=∀ a < n,(a:Int)∈pd x→P.getD a 0 < P.getD x 0→Anc I a (I.getD x 0).toNat
def UpX (n:Nat)(pd:Nat→List Int)(P I:List Int)(x:Nat):Prop:=∀ z < n,(∀ a < n,(a:Int)∈pd x→0≤I.getD a 0→Anc I a z)→P.getD z 0≤P.getD (I.getD x 0).toNat 0
structure J1 (n:Nat)(pd:Nat→List Int)(P:List Int)(j:Nat)(I:List Int):Prop where
 d:DJ n P I
 p:∀ x < n,0≤I.getD x 0↔P.getD x 0≤j
 f:∀ x < n,x≠0→P.getD x 0≤j→FwX n pd P I x
 u:∀ x < n,x≠0→P.getD x 0≤j→UpX n pd P I x
structure J2 (n:Nat)(pd:Nat→List Int)(P:List Int)(j:Nat)(Is I:List Int):Prop where
 ds:DJ n P Is
 d:DJ n P I
 ps:∀ x < n,0≤Is.getD x 0
 p:∀ x < n,0≤I.getD x 0
 fs:∀ x < n,x≠0→FwX n pd P Is x
 u:∀ x < n,x≠0→UpX n pd P I x
 f:∀ x < n,x≠0→P.getD x 0≤j→FwX n pd P I x
 q:∀ y < n,P.getD y 0≤j→∀ x z,Anc Is y x→Anc I y z→P.getD z 0≤P.getD x 0→Anc I x z
 w:∀ y < n,(j:Int) < P.getD y 0→I.getD y 0=Is.getD y 0
theorem Zg4 {n:Nat}{P I:List Int}(h:DJ n P I){b:Nat}(hb:b < n)(d:Int){x y:Nat}(hx:x < n)(h0:0≤I.getD x 0)(hp:P.getD x 0 < P.getD b 0):Anc (I.set b d) x y↔Anc I x y:=by
 have hl:b < I.length:=by rw [h.len];exact hb
 constructor
 ·intro ha
  revert hx h0 hp
  induction ha with
  | refl x=>exact fun _ _ _=>.refl x
  | @up x y _ ih =>
   intro hx h0 hp
   have hne:b≠x:=fun e=>by rw [e] at hp;omega
   rw [Zbd _ _ _ _ hl,if_neg hne] at ih
   have hr:=h.upOk x hx h0
   have h2:=(h.anc (.up (.refl _)) hx h0:_∧_∧P.getD (I.getD x 0).toNat 0≤P.getD x 0).2.2
   exact .up (ih (by omega) hr.2 (by omega))
 ·intro ha
  revert hx h0 hp
  induction ha with
  | refl x=>exact fun _ _ _=>.refl x
  | @up x y _ ih =>
   intro hx h0 hp
   have hne:b≠x:=fun e=>by rw [e] at hp;omega
   have hr:=h.upOk x hx h0
   have h2:=(h.anc (.up (.refl _)) hx h0:_∧_∧P.getD (I.getD x 0).toNat 0≤P.getD x 0).2.2
   refine .up ?_
   rw [Zbd _ _ _ _ hl,if_neg hne]
   exact ih (by omega) hr.2 (by omega)
theorem Zxg {n:Nat}{P I:List Int}(h:DJ n P I){b d:Nat}(hb:b < n)(hb0:b≠0)(hd:d < n)(hd0:0≤I.getD d 0)(hp:P.getD d 0 < P.getD b 0):DJ n P (I.set b (d:Int)):=by
 have hl:b < I.length:=by rw [h.len];exact hb
 refine⟨by simpa using h.len,?_,fun x hx=>?_,fun x hx hx0 hi=>?_⟩
 ·rw [Zbd _ _ _ _ hl,if_neg hb0];exact h.z
 ·rw [Zbd _ _ _ _ hl]
  split
  ·omega
  ·exact h.rg x hx
 ·have hset:∀ x,(I.set b (d:Int)).getD x 0=if b=x then (d:Int) else I.getD x 0:=fun x=>Zbd _ _ _ _ hl
  rw [hset x] at hi ⊢
  by_cases e:b=x
  ·rw [if_pos e,Int.toNat_natCast]
   refine⟨?_,by rw [← e];exact hp⟩
   rw [hset]
   split
   ·omega
   ·exact hd0
  ·rw [if_neg e] at hi ⊢
   refine⟨?_,(h.up x hx hx0 hi).2⟩
   rw [hset]
   split
   ·omega
   ·exact (h.up x hx hx0 hi).1
theorem Zj1 {u:UnT.D}{P T I:List Int}(R:Rpo (nb u) (fun b=>(Zal u).getD b []) P T)(h:DJ (nb u) P I){b:Nat}(hb:b < nb u)(hb0:b≠0)(hfw:∀ a < nb u,(a:Int)∈(Zal u).getD b []→P.getD a 0 < P.getD b 0→0≤I.getD a 0) :
  ∃ d:Nat,Zgu u P I b=(d:Int)∧d < nb u∧0≤I.getD d 0∧P.getD d 0 < P.getD b 0∧(∀ a < nb u,(a:Int)∈(Zal u).getD b []→0≤I.getD a 0→Anc I a d)∧
   ∀ z,(∀ a < nb u,(a:Int)∈(Zal u).getD b []→0≤I.getD a 0→Anc I a z)→Anc I d z:=by
 have hrow:=R.pr b hb
 obtain⟨g1,g2,g3,g4⟩:=Zxm R h ((Zal u).getD b []) (-1) hrow (by omega) (by have:=R.pos;omega) (fun h=>by omega)
 have hD:Zgu u P I b=((Zal u).getD b []).foldl (Zoh P I) (-1):=rfl
 rw [← hD] at g1 g2 g3 g4
 obtain⟨a,ha,ham,hap⟩:=R.fw b hb hb0
 have ha0:=hfw a ha ham hap
 have hnn:0≤Zgu u P I b:=by
  apply Decidable.byContradiction
  intro hn
  have:=(g3 (by omega)).2 _ ham
  rw [Int.toNat_natCast] at this
  omega
 obtain⟨q1,q2,q3,q4⟩:=g4 hnn
 obtain⟨d,hd⟩:∃ d:Nat,Zgu u P I b=(d:Int):=⟨(Zgu u P I b).toNat,by omega⟩
 rw [hd,Int.toNat_natCast] at q1 q3 q4
 rw [hd] at g2
 have hall:∀ a < nb u,(a:Int)∈(Zal u).getD b []→0≤I.getD a 0→Anc I a d:=fun a _ hm h0=>by have:=q3 _ hm (by rw [Int.toNat_natCast];exact h0);rwa [Int.toNat_natCast] at this
 have h3:=(h.anc (hall a ha ham ha0) ha ha0).2.2
 refine⟨d,hd,by omega,q1,by omega,hall,fun z hz=>q4 z (fun h=>by omega) fun x hx h0=>?_⟩
 have hxr:=hrow x hx
 obtain⟨a',rfl⟩:∃ a':Nat,x=(a':Int):=⟨x.toNat,by omega⟩
 rw [Int.toNat_natCast] at h0 ⊢
 exact hz a' (by omega) hx h0
theorem Z5d {u:UnT.D}{P T I:List Int}(R:Rpo (nb u) (fun b=>(Zal u).getD b []) P T){j:Nat}(h:J1 (nb u) (fun b=>(Zal u).getD b []) P j I){b:Nat}(hb:b < nb u)(hb0:b≠0)(hpb:P.getD b 0=((j+1:Nat):Int)) :
  J1 (nb u) (fun b=>(Zal u).getD b []) P (j+1) (I.set b (Zgu u P I b))∧I.getD b 0 < 0∧0≤Zgu u P I b∧Zgu u P I b < nb u:=by
 have hl:b < I.length:=by rw [h.d.len];exact hb
 have hIb:I.getD b 0 < 0:=by have:=(h.p b hb).1;omega
 obtain⟨d,hd,d1,d2,d3,d4,d5⟩:=Zj1 R h.d hb hb0 (fun a ha _ hp=>(h.p a ha).2 (by omega))
 rw [hd]
 have hDJ:=Zxg h.d hb hb0 d1 d2 d3
 have hP:∀ x < nb u,P.getD x 0≤((j+1:Nat):Int)→x≠b→P.getD x 0≤j:=fun x hx h1 h2=>by
  have:P.getD x 0≠P.getD b 0:=fun e=>h2 (R.inj hx hb e)
  omega
 have hset:∀ x,(I.set b (d:Int)).getD x 0=if b=x then (d:Int) else I.getD x 0:=fun x=>Zbd _ _ _ _ hl
 refine⟨⟨hDJ,fun x hx=>?_,fun x hx hx0 hpx=>?_,fun x hx hx0 hpx=>?_⟩,hIb,by omega,by omega⟩
 ·rw [hset]
  split
  ·rename_i e;rw [← e,hpb];constructor <;> intro _ <;> omega
  ·rename_i e
   rw [h.p x hx]
   exact⟨fun h1=>by omega,fun h1=>hP x hx h1 (Ne.symm e)⟩
 ·intro a ha ham hap
  rw [hset]
  by_cases e:b=x
  ·subst e
   rw [if_pos rfl,Int.toNat_natCast]
   have ha0:=(h.p a ha).2 (by omega)
   exact (Zg4 h.d hb _ ha ha0 hap).2 (d4 a ha ham ha0)
  ·rw [if_neg e]
   have hpx':=hP x hx hpx (Ne.symm e)
   have ha0:=(h.p a ha).2 (by omega)
   exact (Zg4 h.d hb _ ha ha0 (by omega)).2 (h.f x hx hx0 hpx' a ha ham hap)
 ·intro z hz hall
  rw [hset]
  have key:∀ a < nb u,0≤I.getD a 0→Anc (I.set b (d:Int)) a z→Anc I a z:=fun a ha ha0 hA=>(Zg4 h.d hb _ ha ha0 (by have:=(h.p a ha).1 ha0;omega)).1 hA
  have hp0:∀ a < nb u,0≤I.getD a 0→0≤(I.set b (d:Int)).getD a 0:=fun a ha ha0=>by
   rw [hset];split
   ·omega
   ·exact ha0
  by_cases e:b=x
  ·subst e
   rw [if_pos rfl,Int.toNat_natCast]
   have:=d5 z fun a ha ham ha0=>key a ha ha0 (hall a ha ham (hp0 a ha ha0))
   exact (h.d.anc this d1 d2).2.2
  ·rw [if_neg e]
   exact h.u x hx hx0 (hP x hx hpx (Ne.symm e)) z hz fun a ha ham ha0=>key a ha ha0 (hall a ha ham (hp0 a ha ha0))
theorem Z41 {u:UnT.D}{P T Is I:List Int}(R:Rpo (nb u) (fun b=>(Zal u).getD b []) P T){j:Nat}(h:J2 (nb u) (fun b=>(Zal u).getD b []) P j Is I){b:Nat}(hb:b < nb u)(hb0:b≠0)(hpb:P.getD b 0=((j+1:Nat):Int)) :
  J2 (nb u) (fun b=>(Zal u).getD b []) P (j+1) Is (I.set b (Zgu u P I b))∧0≤Zgu u P I b∧Zgu u P I b < nb u∧P.getD (Zgu u P I b).toNat 0≤P.getD (I.getD b 0).toNat 0:=by
 have hl:b < I.length:=by rw [h.d.len];exact hb
 obtain⟨d,hd,d1,d2,d3,d4,d5⟩:=Zj1 R h.d hb hb0 (fun a ha _ _=>h.p a ha)
 rw [hd,Int.toNat_natCast]
 have hDJ:=Zxg h.d hb hb0 d1 d2 d3
 have hset:∀ x,(I.set b (d:Int)).getD x 0=if b=x then (d:Int) else I.getD x 0:=fun x=>Zbd _ _ _ _ hl
 have hP:∀ x < nb u,P.getD x 0≤((j+1:Nat):Int)→x≠b→P.getD x 0≤j:=fun x hx h1 h2=>by
  have:P.getD x 0≠P.getD b 0:=fun e=>h2 (R.inj hx hb e)
  omega
 obtain⟨a,ha,ham,hap⟩:=R.fw b hb hb0
 have haj:P.getD a 0≤j:=by omega
 have e0:I.getD b 0=Is.getD b 0:=h.w b hb (by omega)
 have hFs:=h.fs b hb hb0 a ha ham hap
 have hIsb:=h.ds.upOk b hb (h.ps b hb)
 obtain⟨d0,hd0⟩:∃ d0:Nat,Is.getD b 0=(d0:Int):=⟨(Is.getD b 0).toNat,by have:=h.ps b hb;omega⟩
 rw [hd0,Int.toNat_natCast] at hFs
 rw [hd0] at e0 hIsb
 have hd0n:d0 < nb u:=by omega
 have hU:P.getD d 0≤P.getD d0 0:=by
  have:=h.u b hb hb0 d d1 (fun a ha ham ha0=>d4 a ha ham ha0)
  rwa [e0,Int.toNat_natCast] at this
 have hup:Anc I d0 d:=h.q a ha haj d0 d hFs (d4 a ha ham (h.p a ha)) hU
 have shrink:∀ x y,Anc (I.set b (d:Int)) x y→Anc I x y:=by
  intro x y hxy
  induction hxy with
  | refl x=>exact .refl x
  | @up x y _ ih =>
   rw [hset] at ih
   by_cases e:b=x
   ·subst e
    rw [if_pos rfl,Int.toNat_natCast] at ih
    refine .up ?_
    rw [e0,Int.toNat_natCast]
    exact hup.trans ih
   ·rw [if_neg e] at ih
    exact .up ih
 have hd0b:P.getD d0 0 < P.getD b 0:=by have:=(h.d.up b hb hb0 (h.p b hb)).2;rwa [e0,Int.toNat_natCast] at this
 refine⟨⟨h.ds,hDJ,h.ps,fun x hx=>?_,h.fs,fun x hx hx0=>?_,fun x hx hx0 hpx=>?_,fun y hy hpy x z h1 h2 h3=>?_,fun y hy hpy=>?_⟩,by omega,by omega,by rw [e0,Int.toNat_natCast];exact hU⟩
 ·rw [hset]
  split
  ·omega
  ·exact h.p x hx
 ·intro z hz hall
  rw [hset]
  have hall2:∀ a < nb u,(a:Int)∈(Zal u).getD x []→0≤I.getD a 0→Anc I a z:=fun a ha ham ha0=>shrink a z (hall a ha ham (by
   rw [hset];split
   ·omega
   ·exact ha0))
  by_cases e:b=x
  ·subst e
   rw [if_pos rfl,Int.toNat_natCast]
   exact (h.d.anc (d5 z hall2) d1 d2).2.2
  ·rw [if_neg e]
   exact h.u x hx hx0 z hz hall2
 ·intro a' ha' ham' hap'
  rw [hset]
  by_cases e:b=x
  ·subst e
   rw [if_pos rfl,Int.toNat_natCast]
   exact (Zg4 h.d hb _ ha' (h.p a' ha') hap').2 (d4 a' ha' ham' (h.p a' ha'))
  ·rw [if_neg e]
   have hpx':=hP x hx hpx (Ne.symm e)
   exact (Zg4 h.d hb _ ha' (h.p a' ha') (by omega)).2 (h.f x hx hx0 hpx' a' ha' ham' hap')
 ·by_cases e:y=b
  ·subst e
   cases h1 with
   | refl=>exact h2
   | up h1 =>
    rw [hd0,Int.toNat_natCast] at h1
    have hx:=h.ds.anc h1 hd0n (h.ps d0 hd0n)
    have hd0x:=hx.2.2
    have hzb:z≠y:=fun e=>by rw [e] at h3;omega
    cases h2 with
    | refl=>exact absurd rfl hzb
    | up h2 =>
     rw [hset,if_pos rfl,Int.toNat_natCast] at h2
     have h5:=shrink d z h2
     have h6:=h.q a ha haj x z (hFs.trans h1) ((d4 a ha ham (h.p a ha)).trans h5) h3
     exact (Zg4 h.d hb _ hx.1 (h.p x hx.1) (by omega)).2 h6
  ·have hpy':=hP y hy hpy e
   have h6:=h.q y hy hpy' x z h1 (shrink y z h2) h3
   have hx:=h.ds.anc h1 hy (h.ps y hy)
   exact (Zg4 h.d hb _ hx.1 (h.p x hx.1) (by omega)).2 h6
 ·rw [hset,if_neg (fun e=>by rw [← e,hpb] at hpy;omega)]
  exact h.w y hy (by omega)
end Go.Proofs.YtcgmchechmbmeaaDoor.base
end
