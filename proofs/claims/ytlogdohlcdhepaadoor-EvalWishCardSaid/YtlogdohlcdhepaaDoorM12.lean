/- This text proves, in plain Lean, that the order's way and the dominators' rounds come to an end for any unit of which all else was asked. No condition. -/
import Derived.Test.YtlogdohlcdhepaaDoorM11
set_option linter.unusedVariables false
set_option linter.unusedSimpArgs false
section
set_option maxRecDepth 100000
namespace Go.Proofs.YtlogdohlcdhepaaDoor.base
open Go.Sh gen
def JJ (u:UnT.D)(P:List Int)(j:Nat)(I:List Int):Prop:=J1 (nb u) (fun b=>(aheadF u).getD b []) P j I∨∃ Is,J2 (nb u) (fun b=>(aheadF u).getD b []) P j Is I
theorem JJ.d {u:UnT.D}{P I:List Int}{j:Nat}(h:JJ u P j I):DJ (nb u) P I:=by
  rcases h with h | ⟨_,h⟩
  · exact h.d
  · exact h.d
theorem jj_step {u:UnT.D}{P T I:List Int}(R:Rpo (nb u) (fun b=>(aheadF u).getD b []) P T){j:Nat}(h:JJ u P j I)(hj:j < T.length) :
    ∃ b:Nat,T.getD j 0=(b:Int)∧b < nb u∧b≠0∧JJ u P (j+1) (I.set b (domD u P I b))∧0≤domD u P I b∧domD u P I b < nb u∧(0≤I.getD b 0→P.getD (domD u P I b).toNat 0≤P.getD (I.getD b 0).toNat 0):=by
  obtain⟨b,h1,h2,h3,h4⟩:=R.t j hj
  refine⟨b,h1,h2,h3,?_⟩
  rcases h with h | ⟨Is,h⟩
  · obtain⟨g1,g2,g3,g4⟩:=j1_step R h h2 h3 h4
    exact⟨Or.inl g1,g3,g4,fun h=>by omega⟩
  · obtain⟨g1,g2,g3,g4⟩:=j2_step R h h2 h3 h4
    exact⟨Or.inr ⟨Is,g1⟩,g2,g3,fun _=>g4⟩
theorem jj_next {u:UnT.D}{P T I:List Int}(R:Rpo (nb u) (fun b=>(aheadF u).getD b []) P T)(h:JJ u P T.length I):J2 (nb u) (fun b=>(aheadF u).getD b []) P 0 I I:=by
  have hP:∀ x < nb u,P.getD x 0≤(T.length:Int):=fun x hx=>by have:=(R.pn hx).2.1;have:=R.len;omega
  have mk:DJ (nb u) P I→(∀ x < nb u,0≤I.getD x 0)→(∀ x < nb u,x≠0→FwX (nb u) (fun b=>(aheadF u).getD b []) P I x)→(∀ x < nb u,x≠0→UpX (nb u) (fun b=>(aheadF u).getD b []) P I x)→J2 (nb u) (fun b=>(aheadF u).getD b []) P 0 I I:=by
    intro hd hp hf hu
    refine⟨hd,hd,hp,hp,hf,hu,fun x hx h0 _=>hf x hx h0,fun y hy hpy x z h1 h2 _=>?_,fun y hy _=>rfl⟩
    have:y=0:=by
      apply Decidable.byContradiction
      intro h0
      have:=(R.pn hy).2.2 h0
      omega
    subst this
    rw [hd.anc0 h1,hd.anc0 h2]
    exact .refl 0
  rcases h with h | ⟨Is,h⟩
  · exact mk h.d (fun x hx=>(h.p x hx).2 (hP x hx)) (fun x hx h0=>h.f x hx h0 (hP x hx)) (fun x hx h0=>h.u x hx h0 (hP x hx))
  · exact mk h.d h.p (fun x hx h0=>h.f x hx h0 (hP x hx)) h.u
theorem i0_at {n:Nat}(hn:0 < n){x:Nat}(hx:x < n):((List.replicate n (-1:Int)).set 0 0).getD x 0=if x=0 then 0 else -1:=by
  rw [getD_set _ _ _ _ (by simpa using hn)]
  by_cases e:x=0
  · rw [if_pos e.symm,if_pos e]
  · rw [if_neg (Ne.symm e),if_neg e,List.getD_eq_getElem?_getD,List.getElem?_replicate,if_pos hx];rfl
theorem jj_0 {u:UnT.D}{P T:List Int}(R:Rpo (nb u) (fun b=>(aheadF u).getD b []) P T):JJ u P 0 ((List.replicate (nb u) (-1)).set 0 0):=by
  have hn:=R.pos
  refine Or.inl ⟨⟨by simp,?_,fun x hx=>?_,fun x hx h0 h=>?_⟩,fun x hx=>?_,fun x hx h0 h=>?_,fun x hx h0 h=>?_⟩
  · rw [i0_at hn hn,if_pos rfl]
  · rw [i0_at hn hx];split <;> omega
  · rw [i0_at hn hx,if_neg h0] at h;omega
  · rw [i0_at hn hx]
    by_cases e:x=0
    · rw [if_pos e,e,R.p0];simp
    · rw [if_neg e]
      have:=(R.pn hx).2.2 e
      constructor <;> intro _ <;> omega
  · have:=(R.pn hx).2.2 h0;omega
  · have:=(R.pn hx).2.2 h0;omega
theorem domJ_of {u:UnT.D}{P T:List Int}(R:Rpo (nb u) (fun b=>(aheadF u).getD b []) P T):DomJ u P T (JJ u P):=by
  refine⟨fun j I h=>h.d.len,fun j I h=>h.d.upOk,fun j I h a b ha hb ha0 hb0=>?_,fun j I h hj=>?_,fun I h=>Or.inr ⟨I,jj_next R h⟩⟩
  · obtain⟨c,_,⟨D,hD,hm⟩,_⟩:=meet_go R h.d ha hb ha0 hb0
    exact⟨D,c,hD,hm⟩
  · obtain⟨b,h1,_,_,h2,_⟩:=jj_step R h hj
    rw [h1,Int.toNat_natCast]
    exact h2
def wI (n:Nat)(P:List Int)(v:Int):Nat:=if v < 0 then n else (P.getD v.toNat 0).toNat
def mI (n:Nat)(P I:List Int):Nat:=(I.map (wI n P)).sum
theorem sum_set (l:List Nat){k:Nat}(hk:k < l.length)(x:Nat):(l.set k x).sum+l.getD k 0=l.sum+x:=by
  induction l generalizing k with
  | nil=>simp at hk
  | cons a r ih =>
    cases k with
    | zero=>simp;omega
    | succ k =>
      have:=ih (k:=k) (by simpa using hk)
      simp at this ⊢
      omega
theorem mI_set {n:Nat}{P I:List Int}{b:Nat}(hb:b < I.length)(v:Int):mI n P (I.set b v)+wI n P (I.getD b 0)=mI n P I+wI n P v:=by
  unfold mI
  rw [List.map_set]
  have:=sum_set (I.map (wI n P)) (k:=b) (by simpa using hb) (wI n P v)
  have e:(I.map (wI n P)).getD b 0=wI n P (I.getD b 0):=by
    rw [List.getD_eq_getElem?_getD,List.getElem?_map,List.getElem?_eq_getElem hb,List.getD_eq_getElem?_getD,List.getElem?_eq_getElem hb];rfl
  rw [e] at this
  exact this
theorem set_same {l:List Int}{b:Nat}(hb:b < l.length){v:Int}(h:l.getD b 0=v):l.set b v=l:=by
  apply ext_getD (by simp)
  intro k hk
  rw [getD_set _ _ _ _ hb]
  split
  · rename_i e;rw [← e,h]
  · rfl
theorem round_ok {u:UnT.D}{P T:List Int}(R:Rpo (nb u) (fun b=>(aheadF u).getD b []) P T):∀ (k j:Nat) (I:List Int) (ch:Bool),T.length - j=k→j≤T.length→JJ u P j I→
    JJ u P T.length ((T.drop j).foldl (domB u P) (I,ch)).1∧mI (nb u) P ((T.drop j).foldl (domB u P) (I,ch)).1≤mI (nb u) P I∧
    (((T.drop j).foldl (domB u P) (I,ch)).2=true→ch=true∨mI (nb u) P ((T.drop j).foldl (domB u P) (I,ch)).1 < mI (nb u) P I)∧
    (((T.drop j).foldl (domB u P) (I,ch)).2=false→ch=false∧((T.drop j).foldl (domB u P) (I,ch)).1=I∧∀ i,j≤i→i < T.length→I.getD (T.getD i 0).toNat 0=domD u P I (T.getD i 0).toNat):=by
  intro k
  induction k with
  | zero =>
    intro j I ch hk hj h
    have:j=T.length:=by omega
    subst this
    rw [List.drop_of_length_le (Nat.le_refl _),List.foldl_nil]
    exact⟨h,Nat.le_refl _,fun h=>Or.inl h,fun h=>⟨h,rfl,fun i h1 h2=>by omega⟩⟩
  | succ k ih =>
    intro j I ch hk hj h
    have hjt:j < T.length:=by omega
    obtain⟨b,h1,h2,h3,h4,h5,h6,h7⟩:=jj_step R h hjt
    have hbl:b < I.length:=by rw [h.d.len];exact h2
    rw [drop_getD hjt,List.foldl_cons,h1]
    have eB:domB u P (I,ch) (b:Int)=(I.set b (domD u P I b),ch || !decide (I.getD b 0=domD u P I b)):=by unfold domB;rw [Int.toNat_natCast]
    rw [eB]
    obtain⟨g1,g2,g3,g4⟩:=ih (j+1) _ (ch || !decide (I.getD b 0=domD u P I b)) (by omega) (by omega) h4
    have hs:=mI_set (n:=nb u) (P:=P) hbl (domD u P I b)
    have hd0:=h5
    obtain⟨d,hd⟩:∃ d:Nat,domD u P I b=(d:Int):=⟨(domD u P I b).toNat,by omega⟩
    have hpd:=R.pn (show d < nb u by omega)
    have wd:wI (nb u) P (domD u P I b)=(P.getD d 0).toNat:=by unfold wI;rw [hd,if_neg (by omega),Int.toNat_natCast]
    rw [hd,Int.toNat_natCast] at h7
    have hle:wI (nb u) P (domD u P I b)≤wI (nb u) P (I.getD b 0)∧(I.getD b 0≠domD u P I b→wI (nb u) P (domD u P I b) < wI (nb u) P (I.getD b 0)):=by
      rw [wd]
      by_cases hn:I.getD b 0 < 0
      · have:wI (nb u) P (I.getD b 0)=nb u:=by unfold wI;rw [if_pos hn]
        rw [this]
        exact⟨by omega,fun _=>by omega⟩
      · obtain⟨e,he⟩:∃ d:Nat,I.getD b 0=(d:Int):=⟨(I.getD b 0).toNat,by omega⟩
        have hen:e < nb u:=by have:=(h.d.rg b h2).2;omega
        have hpe:=R.pn hen
        have w2:wI (nb u) P (I.getD b 0)=(P.getD e 0).toNat:=by unfold wI;rw [he,if_neg (by omega),Int.toNat_natCast]
        have h8:=h7 (by omega)
        rw [he,Int.toNat_natCast] at h8
        rw [w2,he,hd]
        refine⟨by omega,fun hne=>?_⟩
        have:P.getD d 0≠P.getD e 0:=fun e2=>hne (by rw [R.inj (by omega) hen e2])
        omega
    refine⟨g1,by omega,fun hc=>?_,fun hc=>?_⟩
    · rcases g3 hc with h9 | h9
      · rw [Bool.or_eq_true] at h9
        rcases h9 with h9 | h9
        · exact Or.inl h9
        · have:=hle.2 (by simpa using h9)
          exact Or.inr (by omega)
      · exact Or.inr (by omega)
    · obtain⟨c1,c2,c3⟩:=g4 hc
      rw [Bool.or_eq_false_iff] at c1
      have heq:I.getD b 0=domD u P I b:=by simpa using c1.2
      have hss:=set_same hbl heq
      rw [hss] at c2 c3
      refine⟨c1.1,by rw [hss];exact c2,fun i hi1 hi2=>?_⟩
      by_cases e:i=j
      · rw [e,h1,Int.toNat_natCast];exact heq
      · exact c3 i (by omega) hi2
theorem dom_end {u:UnT.D}{P T:List Int}(R:Rpo (nb u) (fun b=>(aheadF u).getD b []) P T):∀ (M:Nat) (I:List Int),JJ u P 0 I→mI (nb u) P I≤M→
    ∃ D I',domIt u P T D (I,true)=some I'∧J2 (nb u) (fun b=>(aheadF u).getD b []) P 0 I' I'∧∀ b < nb u,b≠0→I'.getD b 0=domD u P I' b:=by
  intro M
  induction M with
  | zero =>
    intro I h hM
    obtain⟨g1,g2,g3,g4⟩:=round_ok R _ 0 I false rfl (by omega) h
    rw [List.drop_zero] at g1 g2 g3 g4
    cases hc:(T.foldl (domB u P) (I,false)).2 with
    | true => rcases g3 hc with h1 | h1
              · cases h1
              · omega
    | false =>
      obtain⟨_,c2,c3⟩:=g4 hc
      rw [c2] at g1
      have e:domR u P T (I,false)=(I,false):=Prod.ext c2 hc
      refine⟨1,I,by rw [domIt,if_pos rfl,e];rfl,jj_next R g1,fun b hb hb0=>?_⟩
      obtain⟨i,hi,hT⟩:=R.all b hb hb0
      have:=c3 i (by omega) hi
      rwa [hT,Int.toNat_natCast] at this
  | succ M ih =>
    intro I h hM
    obtain⟨g1,g2,g3,g4⟩:=round_ok R _ 0 I false rfl (by omega) h
    rw [List.drop_zero] at g1 g2 g3 g4
    cases hc:(T.foldl (domB u P) (I,false)).2 with
    | true =>
      have h1:mI (nb u) P (T.foldl (domB u P) (I,false)).1 < mI (nb u) P I:=by
        rcases g3 hc with h1 | h1
        · cases h1
        · exact h1
      obtain⟨D,I',e1,e2,e3⟩:=ih _ (Or.inr ⟨_,jj_next R g1⟩) (by omega)
      have e:domR u P T (I,false)=((T.foldl (domB u P) (I,false)).1,true):=Prod.ext rfl hc
      exact⟨D+1,I',by rw [domIt,if_pos rfl,e];exact e1,e2,e3⟩
    | false =>
      obtain⟨_,c2,c3⟩:=g4 hc
      rw [c2] at g1
      have e:domR u P T (I,false)=(I,false):=Prod.ext c2 hc
      refine⟨1,I,by rw [domIt,if_pos rfl,e];rfl,jj_next R g1,fun b hb hb0=>?_⟩
      obtain⟨i,hi,hT⟩:=R.all b hb hb0
      have:=c3 i (by omega) hi
      rwa [hT,Int.toNat_natCast] at this
theorem up_end {u:UnT.D}{P T I:List Int}(R:Rpo (nb u) (fun b=>(aheadF u).getD b []) P T)(h:DJ (nb u) P I)(hp:∀ x < nb u,0≤I.getD x 0)(a:Int):∀ (M b:Nat),b < nb u→(P.getD b 0).toNat≤M→∃ d r,d≤M+1∧upIt (I.set 0 (-1)) a d b=some r:=by
  have hl:0 < I.length:=by rw [h.len];exact R.pos
  have hset:∀ x,(I.set 0 (-1:Int)).getD x 0=if 0=x then -1 else I.getD x 0:=fun x=>getD_set _ _ _ _ hl
  intro M
  induction M with
  | zero =>
    intro b hb hM
    by_cases e:a=(b:Int)
    · exact⟨0,true,by omega,by rw [upIt,if_neg (by omega),if_pos e]⟩
    · have hb0:b=0:=by
        apply Decidable.byContradiction
        intro h0
        have:=(R.pn hb).2.2 h0
        omega
      refine⟨1,false,by omega,?_⟩
      rw [upIt,if_neg (by omega),if_neg e,Int.toNat_natCast,hset,if_pos hb0.symm,upIt,if_pos (by omega)]
  | succ M ih =>
    intro b hb hM
    by_cases e:a=(b:Int)
    · exact⟨0,true,by omega,by rw [upIt,if_neg (by omega),if_pos e]⟩
    · by_cases hb0:b=0
      · refine⟨1,false,by omega,?_⟩
        rw [upIt,if_neg (by omega),if_neg e,Int.toNat_natCast,hset,if_pos hb0.symm,upIt,if_pos (by omega)]
      · have hu:=(h.up b hb hb0 (hp b hb)).2
        have hr:=h.upOk b hb (hp b hb)
        obtain⟨c,hc⟩:∃ c:Nat,I.getD b 0=(c:Int):=⟨(I.getD b 0).toNat,by have:=hp b hb;omega⟩
        rw [hc] at hu hr
        rw [Int.toNat_natCast] at hu hr
        have hcn:c < nb u:=by omega
        have hpc:=R.pn hcn
        obtain⟨d,r,h1,h2⟩:=ih c hcn (by omega)
        refine⟨d+1,r,by omega,?_⟩
        rw [upIt,if_neg (by omega),if_neg e,Int.toNat_natCast,hset,if_neg (Ne.symm hb0),hc]
        exact h2
theorem term_ex {u:UnT.D}(hnx:NxOk u)(hb:0 < nb u):∃ O I,TermH u O I∧(∃ sn,OInv u (sn,O.reverse,[]))∧
    (O.length=nb u→∃ I',I=I'.set 0 (-1)∧Rpo (nb u) (fun b=>(aheadF u).getD b []) (placeF (nb u) O) (O.drop 1)∧J2 (nb u) (fun b=>(aheadF u).getD b []) (placeF (nb u) O) 0 I' I'∧∀ b < nb u,b≠0→I'.getD b 0=domD u (placeF (nb u) O) I' b):=by
  obtain⟨D,O',sn,hO,hinv⟩:=ord_end hnx _ (ord0 u) (ord0_inv hb) (Nat.le_refl _)
  by_cases hl:O'.reverse.length=nb u
  · have hl':O'.length=nb u:=by simpa using hl
    obtain⟨h1,R⟩:=rpo_of hnx hb hinv hl'
    obtain⟨D2,I',h2,h3,h4⟩:=dom_end R _ _ (jj_0 R) (Nat.le_refl _)
    have hset:∀ x,(I'.set 0 (-1:Int)).getD x 0=if 0=x then -1 else I'.getD x 0:=fun x=>getD_set _ _ _ _ (by rw [h3.d.len];exact hb)
    refine⟨O'.reverse,I'.set 0 (-1),⟨⟨D,O',hO,rfl⟩,fun _=>h1,fun _=>⟨JJ u (placeF (nb u) O'.reverse),D2,I',domJ_of R,jj_0 R,h2,rfl⟩,fun _=>⟨by simpa using h3.d.len,fun x hx=>?_⟩,fun _ a b hb'=>?_⟩,⟨sn,by rw [List.reverse_reverse];exact hinv⟩,fun _=>⟨I',rfl,R,h3,h4⟩⟩
    · rw [hset]
      split
      · omega
      · exact (h3.d.rg x hx).2
    · have hpb:=R.pn hb'
      obtain⟨d,r,g1,g2⟩:=up_end R h3.d h3.p a _ b hb' (Nat.le_refl _)
      refine⟨d,by omega,?_⟩
      rw [upF_eq g2 (show d < nb u+2 by omega)]
      exact g2
  · exact⟨O'.reverse,[],⟨⟨D,O',hO,rfl⟩,fun h=>absurd h hl,fun h=>absurd h hl,fun h=>absurd h hl,fun h=>absurd h hl⟩,⟨sn,by rw [List.reverse_reverse];exact hinv⟩,fun h=>absurd h hl⟩
end Go.Proofs.YtlogdohlcdhepaaDoor.base
end
