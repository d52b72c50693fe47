/- This text proves that exits and diamonds of turnstonehand.Unit keep what is told in EdD, in Zrh Lean. No condition but what the theorems themselves say. -/
import Derived.Test.YtcgmchechmbmeaaDoorM16
set_option linter.unusedVariables false
set_option linter.unusedSimpArgs false
section
set_option maxRecDepth 100000
namespace Go.Proofs.YtcgmchechmbmeaaDoor.base
open Go.Sh gen
variable {s s':Us}{B B':List Nat}{G:Gt}{ops:List Int}
theorem Z1j (l r:List Zcj.D)(k:Int):∀ i,Znm i (l++r) k=Znm i l k++Znm (i+l.length) r k:=by
 induction l with
 | nil=>intro i;simp [Znm]
 | cons x l ih =>
  intro i
  rw [List.cons_append,Znm,ih,Znm,List.append_assoc,List.length_cons,show i+1+l.length=i+(l.length+1) by omega]
theorem Ld.close (h:Ld s B G){g:Gt}{xs:List Zcj.D}(R:Rg s' B' (G++g))(hbs:s'.blks=s.blks++xs)(hl:g.length=xs.length)(hg:GOk (G++g))(mo:Mo s.vals s.sts B (G++g) s'.vals s'.sts B' (G++g))
  (hlo:∀ x∈xs,∀ t∈nxB x,(s.blks.length:Int) < t∧t≤s.blks.length+xs.length) (hled:∀ j < g.length,Znm s.blks.length xs ((s.blks.length+1+j:Nat):Int)=(g.getD j ([],[])).2)
  (hone:∀ x∈xs,x.2.1=2→∀ t∈nxB x,∃ j < g.length,t=((s.blks.length+1+j:Nat):Int)∧((g.getD j ([],[])).2).length=1) (hsub:∀ j < g.length,∀ a∈Gd G s.blks.length,a∈(g.getD j ([],[])).1):Ld s' B' (G++g):=by
 have e1:s'.blks.length=s.blks.length+xs.length:=by rw [hbs,List.length_append]
 have hgl:=h.gl
 have hnew:∀ j < g.length,(G++g).getD (s.blks.length+1+j) ([],[])=g.getD j ([],[]):=fun j hj=>by rw [← hgl];exact Zk0 hj
 refine⟨R,by rw [List.length_append,e1];omega,hg,fun k hk=>?_,fun x hx t ht=>?_,fun x hx h2 t ht=>?_,fun b hb=>?_⟩
 ·rw [hbs,Z1j,Nat.zero_add]
  by_cases e:k≤s.blks.length
  ·rw [h.led k e,Zrc (fun x hx t ht=>by have:=hlo x hx t ht;omega),List.append_nil,Zrn (by omega)]
  ·obtain⟨j,rfl⟩:∃ j,k=s.blks.length+1+j:=⟨k - (s.blks.length+1),by omega⟩
   rw [h.old (by omega),List.nil_append,hled j (by omega)]
   unfold Gp
   rw [hnew j (by omega)]
 ·rw [hbs,List.mem_append] at hx
  rw [e1]
  rcases hx with hx | hx
  ·have:=h.nx x hx t ht;omega
  ·have:=hlo x hx t ht;omega
 ·rw [hbs,List.mem_append] at hx
  rcases hx with hx | hx
  ·have h3:=h.nx x hx t ht
   rw [Zrn (by omega)]
   exact h.one x hx h2 t ht
  ·obtain⟨j,hj,rfl,hj1⟩:=hone x hx h2 t ht
   rw [Int.toNat_natCast]
   unfold Gp
   rw [hnew j hj];exact hj1
 ·have key:OkS s.vals B (G++g) b s.vals.length 0:=by
   by_cases e:b < G.length
   ·exact Zij (h.v0 b e) e (fun a ha=>by rw [Zhm e];exact ha)
   ·rw [List.length_append] at hb
    obtain⟨j,rfl⟩:∃ j,b=s.blks.length+1+j:=⟨b - (s.blks.length+1),by omega⟩
    refine Zij (h.v0 s.blks.length (by omega)) (by omega) (fun a ha=>?_)
    unfold Gd
    rw [hnew j (by omega)]
    exact hsub j (by omega) a ha
  exact key.mono mo (Nat.le_refl _) hb mo.vl
theorem Z5l (h:Ld s B G):∃ B' G',Ld (Zmt ops s) B' G':=by
 obtain⟨c,hc⟩:∃ c,s.blks.length=c:=⟨_,rfl⟩
 have hgl:=h.gl
 obtain⟨g,hg⟩:∃ g:Gt,g=[((c+1)::Gd G c,[(c:Int)]),((c+2)::Gd G c,[(c:Int)])]:=⟨_,rfl⟩
 have gl2:g.length=2:=by rw [hg];rfl
 have n1:(G++g).getD (c+1) ([],[])=((c+1)::Gd G c,[(c:Int)]):=by
  rw [show c+1=G.length+0 by omega,Zk0 (by omega),hg];rw [show G.length+0=c+1 by omega];rfl
 have n2:(G++g).getD (c+2) ([],[])=((c+2)::Gd G c,[(c:Int)]):=by
  rw [show c+2=G.length+1 by omega,Zk0 (by omega),hg];rw [show G.length+1=c+2 by omega];rfl
 have d1:Gd (G++g) (c+1)=(c+1)::Gd G c:=by unfold Gd;rw [n1]
 have d2:Gd (G++g) (c+2)=(c+2)::Gd G c:=by unfold Gd;rw [n2]
 have d0:Gd (G++g) c=Gd G c:=Zhm (by omega)
 have p1:[(c:Int)]=Gp (G++g) (c+1):=by unfold Gp;rw [n1]
 have p2:[(c:Int)]=Gp (G++g) (c+2):=by unfold Gp;rw [n2]
 have hgk:GOk (G++g):=by
  refine h.g.ext fun j hj=>?_
  rw [gl2] at hj ⊢
  have:j=0∨j=1:=by omega
  rcases this with rfl | rfl
  ·rw [hg]
   refine⟨fun p hp=>?_,⟨c,by omega,by simp⟩,by simp;omega⟩
   have hp:p∈[(c:Int)]:=hp
   rw [List.mem_singleton] at hp
   refine⟨c,hp,by omega,fun a ha=>?_⟩
   rw [Zhm (by omega)]
   rcases List.mem_cons.1 ha with rfl | ha
   ·exact Or.inl (by omega)
   ·exact Or.inr ha
  ·rw [hg]
   refine⟨fun p hp=>?_,⟨c,by omega,by simp⟩,by simp;omega⟩
   have hp:p∈[(c:Int)]:=hp
   rw [List.mem_singleton] at hp
   refine⟨c,hp,by omega,fun a ha=>?_⟩
   rw [Zhm (by omega)]
   rcases List.mem_cons.1 ha with rfl | ha
   ·exact Or.inl (by omega)
   ·exact Or.inr ha
 have hGl:(G++g).length=c+3:=by rw [List.length_append,gl2];omega
 have R0:=h.r.ext g
 have okc:=R0.ok (ops:=ops)
 have Ra:=R0.any (ops:=ops)
 obtain⟨a,ea⟩:=Zm8 ops s
 unfold Zmt
 dsimp only
 rw [hc] at okc ⊢
 generalize hcond:(Zbc ops s).2=cond at okc ⊢
 rw [ea] at Ra ⊢
 have dn:∀ z∈s.known,∀ j,(∀ x∈Gd G c,x∈Gd (G++g) j)→OkS s.vals B (G++g) j s.vals.length z:=fun z hz j hj=>Zij (h.r.kn z hz) (by omega) (by rw [hc];exact hj)
 have R2:Rg (bpP [(c:Int)] (Zbp 2 cond [(c:Int)+1,(c:Int)+2] 0 { s with at_:=a })) B (G++g):=by
  refine Ra.end (by show s.blks.length+1 < _;omega) (fun z hz=>?_) (Or.inr (Or.inl ⟨rfl,rfl,by show OkS s.vals B (G++g) s.blks.length s.vals.length cond;rw [hc];exact okc⟩)) (by show _=Gp (G++g) (s.blks.length+1);rw [hc];exact p1)
  show OkS s.vals B (G++g) (s.blks.length+1) s.vals.length z
  rw [hc]
  exact dn z hz _ (fun x hx=>by rw [d1];exact List.mem_cons_of_mem _ hx)
 obtain⟨s2,hs2⟩:∃ s2,bpP [(c:Int)] (Zbp 2 cond [(c:Int)+1,(c:Int)+2] 0 { s with at_:=a })=s2:=⟨_,rfl⟩
 have b2:s2.blks=s.blks++[(s.bv,2,cond,[(c:Int)+1,(c:Int)+2],s.bp,0,())]:=by rw [← hs2];rfl
 have b2l:s2.blks.length=c+1:=by rw [b2,List.length_append,hc];rfl
 have v2:s2.vals=s.vals:=by rw [← hs2];rfl
 have t2:s2.sts=s.sts:=by rw [← hs2];rfl
 have k2:s2.known=s.known:=by rw [← hs2];rfl
 rw [hs2] at R2 ⊢
 obtain⟨B4,R4,X4⟩:=Zln (ops:=ops) R2 (by rw [b2l,d1];simp)
 generalize Zf0 ops s2=s4 at R4 X4 ⊢
 obtain⟨R5,X5,i5,l5,z5,v5,kn5,_⟩:=R4.state (ops:=ops)
 have K5:Ek s2 B (G++g) (Zac ops s4).1 B4:=(X4.ek R2.lb _).trans (X5.ek R4.lb _)
 generalize (Zac ops s4).2=st at i5 ⊢
 generalize (Zac ops s4).1=s5 at R5 X5 l5 z5 v5 kn5 K5 ⊢
 obtain⟨L,hL⟩:=K5.kn
 rw [k2] at hL
 obtain⟨R6,k6⟩:=R5.cut hL h.r.kne
 have M5:=K5.mo
 rw [v2,t2] at M5
 have b5:s5.blks=s2.blks:=K5.bs
 have R7:Rg (bpP [(c:Int)] (Zbp 3 0 [] st (Zgs s.known.length s5))) B4 (G++g):=by
  refine R6.end (by show s5.blks.length+1 < _;rw [b5,b2l];omega) (fun z hz=>?_) (Or.inr (Or.inr ⟨rfl,rfl,s4.sts.length,by show s4.sts.length < s5.sts.length;omega,i5,fun z hz=>?_⟩)) (by show _=Gp (G++g) (s5.blks.length+1);rw [b5,b2l];exact p2)
  ·rw [k6] at hz
   show OkS s5.vals B4 (G++g) (s5.blks.length+1) s5.vals.length z
   rw [b5,b2l]
   exact (dn z hz (c+2) (fun x hx=>by rw [d2];exact List.mem_cons_of_mem _ hx)).mono M5 (Nat.le_refl _) (by omega) M5.vl
  ·show OkS s5.vals B4 (G++g) s5.blks.length s5.vals.length z
   have:=z5 z hz
   rw [v5,b5,← X4.bs]
   exact this
 have e7:bpP [(c:Int)] (Zgs s.known.length (Zbp 3 0 [] st s5))=bpP [(c:Int)] (Zbp 3 0 [] st (Zgs s.known.length s5)):=rfl
 rw [e7]
 obtain⟨s7,hs7⟩:∃ s7,bpP [(c:Int)] (Zbp 3 0 [] st (Zgs s.known.length s5))=s7:=⟨_,rfl⟩
 have b7:s7.blks=s5.blks++[(s5.bv,3,0,[],s5.bp,st,())]:=by rw [← hs7];rfl
 have b7l:s7.blks.length=c+2:=by rw [b7,List.length_append,b5,b2l];rfl
 have v7:s7.vals=s5.vals:=by rw [← hs7];rfl
 have t7:s7.sts=s5.sts:=by rw [← hs7];rfl
 rw [hs7] at R7 ⊢
 obtain⟨B8,R8,X8⟩:=Zln (ops:=ops) R7 (by rw [b7l,d2];simp)
 have M8:=(X8.ek R7.lb (G++g)).mo
 rw [v7,t7] at M8
 refine⟨B8,G++g,h.close (xs:=[(s.bv,2,cond,[(c:Int)+1,(c:Int)+2],s.bp,0,()),(s5.bv,3,0,[],s5.bp,st,())]) R8 (by rw [X8.bs,b7,b5,b2,List.append_assoc];rfl) gl2 hgk (M5.trans M8) ?_ ?_ ?_ ?_⟩
 ·intro x hx t ht
  rw [hc]
  simp only [List.mem_cons,List.not_mem_nil,or_false] at hx
  rcases hx with rfl | rfl
  ·simp only [nxB,List.mem_cons,List.not_mem_nil,or_false] at ht
   simp only [List.length_cons,List.length_nil]
   omega
  ·cases ht
 ·intro j hj
  rw [gl2] at hj
  rw [hc,hg]
  simp only [Znm,nxB,Ztr _ _ _ (show (c:Int)+1≠(c:Int)+2 by omega),List.filter_nil,List.map_nil,List.append_nil]
  have:j=0∨j=1:=by omega
  rcases this with rfl | rfl
  ·rw [if_pos (by omega)];rfl
  ·rw [if_neg (by omega),if_pos (by omega)];rfl
 ·intro x hx h2 t ht
  rw [hc,gl2,hg]
  simp only [List.mem_cons,List.not_mem_nil,or_false] at hx
  rcases hx with rfl | rfl
  ·simp only [nxB,List.mem_cons,List.not_mem_nil,or_false] at ht
   rcases ht with rfl | rfl
   ·exact⟨0,by omega,by omega,rfl⟩
   ·exact⟨1,by omega,by omega,rfl⟩
  ·cases ht
 ·intro j hj a ha
  rw [gl2] at hj
  rw [hc] at ha
  rw [hg]
  have:j=0∨j=1:=by omega
  rcases this with rfl | rfl
  ·exact List.mem_cons_of_mem _ ha
  ·exact List.mem_cons_of_mem _ ha
end Go.Proofs.YtcgmchechmbmeaaDoor.base
end
section
set_option maxRecDepth 100000
namespace Go.Proofs.YtcgmchechmbmeaaDoor.base
open Go.Sh gen
variable {s s':Us}{B B':List Nat}{G:Gt}{ops:List Int}
theorem Rg.fresh (h:Rg s B G)(hb:s.bv=[]){v:Nat}(hv:v < s.vals.length):B.getD v 0≠s.blks.length:=by
 intro e
 have:(v:Int)∈Zf1 B s.blks.length:=Ze6.2 ⟨v,rfl,by rw [h.lb];exact hv,e⟩
 rw [← h.bv,hb] at this
 cases this
theorem Rg.hd0 (h:Rg s B G)(hb:s.bv=[]):hdN s.vals B s.blks.length=0:=by
 unfold hdN
 rw [List.filter_eq_nil_iff.2 (fun v hv=>by
  rw [List.mem_range,h.lb] at hv
  rw [decide_eq_false (h.fresh hb hv)];simp)]
 rfl
theorem Z8i (h:Ld s B G):∃ B' G',Ld (Zw0 ops s) B' G':=by
 obtain⟨c,hc⟩:∃ c,s.blks.length=c:=⟨_,rfl⟩
 have hgl:=h.gl
 obtain⟨g,hg⟩:∃ g:Gt,g=[((c+1)::Gd G c,[(c:Int)]),((c+2)::Gd G c,[(c:Int)]),((c+3)::Gd G c,[((c+1:Nat):Int),((c+2:Nat):Int)])]:=⟨_,rfl⟩
 have gl2:g.length=3:=by rw [hg];rfl
 have n1:(G++g).getD (c+1) ([],[])=((c+1)::Gd G c,[(c:Int)]):=by
  rw [show c+1=G.length+0 by omega,Zk0 (by omega),hg];rw [show G.length+0=c+1 by omega];rfl
 have n2:(G++g).getD (c+2) ([],[])=((c+2)::Gd G c,[(c:Int)]):=by
  rw [show c+2=G.length+1 by omega,Zk0 (by omega),hg];rw [show G.length+1=c+2 by omega];rfl
 have n3:(G++g).getD (c+3) ([],[])=((c+3)::Gd G c,[((c+1:Nat):Int),((c+2:Nat):Int)]):=by
  rw [show c+3=G.length+2 by omega,Zk0 (by omega),hg];rw [show G.length+2=c+3 by omega];rfl
 have d3:Gd (G++g) (c+3)=(c+3)::Gd G c:=by unfold Gd;rw [n3]
 have p3:[((c+1:Nat):Int),((c+2:Nat):Int)]=Gp (G++g) (c+3):=by unfold Gp;rw [n3]
 have d1:Gd (G++g) (c+1)=(c+1)::Gd G c:=by unfold Gd;rw [n1]
 have d2:Gd (G++g) (c+2)=(c+2)::Gd G c:=by unfold Gd;rw [n2]
 have d0:Gd (G++g) c=Gd G c:=Zhm (by omega)
 have p1:[(c:Int)]=Gp (G++g) (c+1):=by unfold Gp;rw [n1]
 have p2:[(c:Int)]=Gp (G++g) (c+2):=by unfold Gp;rw [n2]
 have hgk:GOk (G++g):=by
  refine h.g.ext fun j hj=>?_
  rw [gl2] at hj ⊢
  have:j=0∨j=1∨j=2:=by omega
  rcases this with rfl | rfl | rfl
  ·rw [hg]
   refine⟨fun p hp=>?_,⟨c,by omega,by simp⟩,by simp;omega⟩
   have hp:p∈[(c:Int)]:=hp
   rw [List.mem_singleton] at hp
   refine⟨c,hp,by omega,fun a ha=>?_⟩
   rw [Zhm (by omega)]
   rcases List.mem_cons.1 ha with rfl | ha
   ·exact Or.inl (by omega)
   ·exact Or.inr ha
  ·rw [hg]
   refine⟨fun p hp=>?_,⟨c,by omega,by simp⟩,by simp;omega⟩
   have hp:p∈[(c:Int)]:=hp
   rw [List.mem_singleton] at hp
   refine⟨c,hp,by omega,fun a ha=>?_⟩
   rw [Zhm (by omega)]
   rcases List.mem_cons.1 ha with rfl | ha
   ·exact Or.inl (by omega)
   ·exact Or.inr ha
  ·refine⟨fun p hp=>?_,⟨c+1,by omega,by rw [hg];simp⟩,by rw [hg];simp;omega⟩
   have hp:p∈(g.getD 2 ([],[])).2:=hp
   rw [hg] at hp
   have hp:p∈[((c+1:Nat):Int),((c+2:Nat):Int)]:=hp
   have ha3:∀ a∈(g.getD 2 ([],[])).1,a=G.length+2∨a∈Gd G c:=fun a ha=>by
    rw [hg] at ha
    rcases List.mem_cons.1 ha with rfl | ha
    ·exact Or.inl (by omega)
    ·exact Or.inr ha
   simp only [List.mem_cons,List.not_mem_nil,or_false] at hp
   rcases hp with rfl | rfl
   ·exact⟨c+1,rfl,by omega,fun a ha=>(ha3 a ha).imp id (fun h=>by rw [d1];exact List.mem_cons_of_mem _ h)⟩
   ·exact⟨c+2,rfl,by omega,fun a ha=>(ha3 a ha).imp id (fun h=>by rw [d2];exact List.mem_cons_of_mem _ h)⟩
 have hGl:(G++g).length=c+4:=by rw [List.length_append,gl2];omega
 have R0:=h.r.ext g
 have okc:=R0.ok (ops:=ops)
 have Ra:=R0.any (ops:=ops)
 obtain⟨a,ea⟩:=Zm8 ops s
 unfold Zw0
 dsimp only
 rw [hc] at okc ⊢
 generalize hcond:(Zbc ops s).2=cond at okc ⊢
 rw [ea] at Ra ⊢
 have dn:∀ z∈s.known,∀ j,(∀ x∈Gd G c,x∈Gd (G++g) j)→OkS s.vals B (G++g) j s.vals.length z:=fun z hz j hj=>Zij (h.r.kn z hz) (by omega) (by rw [hc];exact hj)
 have R2:Rg (bpP [(c:Int)] (Zbp 2 cond [(c:Int)+1,(c:Int)+2] 0 { s with at_:=a })) B (G++g):=by
  refine Ra.end (by show s.blks.length+1 < _;omega) (fun z hz=>?_) (Or.inr (Or.inl ⟨rfl,rfl,by show OkS s.vals B (G++g) s.blks.length s.vals.length cond;rw [hc];exact okc⟩)) (by show _=Gp (G++g) (s.blks.length+1);rw [hc];exact p1)
  show OkS s.vals B (G++g) (s.blks.length+1) s.vals.length z
  rw [hc]
  exact dn z hz _ (fun x hx=>by rw [d1];exact List.mem_cons_of_mem _ hx)
 obtain⟨s2,hs2⟩:∃ s2,bpP [(c:Int)] (Zbp 2 cond [(c:Int)+1,(c:Int)+2] 0 { s with at_:=a })=s2:=⟨_,rfl⟩
 have b2:s2.blks=s.blks++[(s.bv,2,cond,[(c:Int)+1,(c:Int)+2],s.bp,0,())]:=by rw [← hs2];rfl
 have b2l:s2.blks.length=c+1:=by rw [b2,List.length_append,hc];rfl
 have v2:s2.vals=s.vals:=by rw [← hs2];rfl
 have t2:s2.sts=s.sts:=by rw [← hs2];rfl
 have k2:s2.known=s.known:=by rw [← hs2];rfl
 rw [hs2] at R2 ⊢
 obtain⟨B4,R4,X4⟩:=Zln (ops:=ops) R2 (by rw [b2l,d1];simp)
 have b4l:(Zf0 ops s2).blks.length=c+1:=by rw [X4.bs,b2l]
 obtain⟨s4,hs4⟩:∃ s4,Zf0 ops s2=s4:=⟨_,rfl⟩
 rw [hs4] at R4 X4 b4l ⊢
 have K4:=X4.ek R2.lb (G++g)
 obtain⟨L,hL⟩:=K4.kn
 rw [k2] at hL
 obtain⟨R5,k5⟩:=R4.cut hL h.r.kne
 have M4:=K4.mo
 rw [v2,t2] at M4
 have x4:=R4.last
 rw [b4l] at x4
 rw [show ((s4.blks.length:Nat):Int)+2=(c:Int)+3 by omega,show ((s4.blks.length:Nat):Int)=((c+1:Nat):Int) by omega]
 have R6:Rg (bpP [(c:Int)] (Zbp 1 0 [(c:Int)+3] 0 (Zgs s.known.length s4))) B4 (G++g):=by
  refine R5.end (by show s4.blks.length+1 < _;omega) (fun z hz=>?_) (Or.inl ⟨rfl,rfl⟩) (by show _=Gp (G++g) (s4.blks.length+1);rw [b4l];exact p2)
  rw [k5] at hz
  show OkS s4.vals B4 (G++g) (s4.blks.length+1) s4.vals.length z
  rw [b4l]
  exact (dn z hz (c+2) (fun x hx=>by rw [d2];exact List.mem_cons_of_mem _ hx)).mono M4 (Nat.le_refl _) (by omega) M4.vl
 obtain⟨s6,hs6⟩:∃ s6,bpP [(c:Int)] (Zbp 1 0 [(c:Int)+3] 0 (Zgs s.known.length s4))=s6:=⟨_,rfl⟩
 have b6:s6.blks=s4.blks++[(s4.bv,1,0,[(c:Int)+3],s4.bp,0,())]:=by rw [← hs6];rfl
 have b6l:s6.blks.length=c+2:=by rw [b6,List.length_append,b4l];rfl
 have v6:s6.vals=s4.vals:=by rw [← hs6];rfl
 have t6:s6.sts=s4.sts:=by rw [← hs6];rfl
 have k6:s6.known=s.known:=by rw [← hs6];exact k5
 rw [hs6] at R6 ⊢
 obtain⟨B7,R7,X7⟩:=Zln (ops:=ops) R6 (by rw [b6l,d2];simp)
 have b7l:(Zf0 ops s6).blks.length=c+2:=by rw [X7.bs,b6l]
 obtain⟨s7,hs7⟩:∃ s7,Zf0 ops s6=s7:=⟨_,rfl⟩
 rw [hs7] at R7 X7 b7l ⊢
 have K7:=X7.ek R6.lb (G++g)
 obtain⟨L7,hL7⟩:=K7.kn
 rw [k6] at hL7
 obtain⟨R8,k8⟩:=R7.cut hL7 h.r.kne
 have M7:=K7.mo
 rw [v6,t6] at M7
 have x7:=R7.last
 rw [b7l] at x7
 rw [show ((s7.blks.length:Nat):Int)+1=(c:Int)+3 by omega,show ((s7.blks.length:Nat):Int)=((c+2:Nat):Int) by omega]
 have R9:Rg (bpP [((c+1:Nat):Int),((c+2:Nat):Int)] (Zbp 1 0 [(c:Int)+3] 0 (Zgs s.known.length s7))) B7 (G++g):=by
  refine R8.end (by show s7.blks.length+1 < _;omega) (fun z hz=>?_) (Or.inl ⟨rfl,rfl⟩) (by show _=Gp (G++g) (s7.blks.length+1);rw [b7l];exact p3)
  rw [k8] at hz
  show OkS s7.vals B7 (G++g) (s7.blks.length+1) s7.vals.length z
  rw [b7l]
  exact ((dn z hz (c+3) (fun x hx=>by rw [d3];exact List.mem_cons_of_mem _ hx)).mono M4 (Nat.le_refl _) (by omega) M4.vl).mono M7 (Nat.le_refl _) (by omega) M7.vl
 obtain⟨s9,hs9⟩:∃ s9,bpP [((c+1:Nat):Int),((c+2:Nat):Int)] (Zbp 1 0 [(c:Int)+3] 0 (Zgs s.known.length s7))=s9:=⟨_,rfl⟩
 have b9:s9.blks=s7.blks++[(s7.bv,1,0,[(c:Int)+3],s7.bp,0,())]:=by rw [← hs9];rfl
 have b9l:s9.blks.length=c+3:=by rw [b9,List.length_append,b7l];rfl
 have v9:s9.vals=s7.vals:=by rw [← hs9];rfl
 have t9:s9.sts=s7.sts:=by rw [← hs9];rfl
 have n9:s9.bv=[]:=by rw [← hs9];rfl
 rw [hs9] at R9 ⊢
 have y4:OkS s9.vals B7 (G++g) (c+1) s9.vals.length (Zcw s4):=by rw [v9];exact x4.mono M7 (Nat.le_refl _) (by omega) M7.vl
 have y7:OkS s9.vals B7 (G++g) (c+2) s9.vals.length (Zcw s7):=by rw [v9];exact x7
 have hp:Znq s9 B7 (G++g) (21,0,0,0,[Zcw s4,Zcw s7],0,()):=by
  refine⟨rfl,fun h0=>absurd rfl h0,fun h0=>(by cases h0),fun h0=>(by cases h0),fun _=>⟨by omega,by rw [b9l,← p3];rfl,fun j hj=>?_⟩,fun h0=>(by cases h0),fun _ v hv hB=>absurd hB (R9.fresh n9 hv),fun _=>by rw [R9.hd0 n9];exact Nat.zero_le _⟩
  rw [b9l,← p3]
  have hj:j < 2:=hj
  have:j=0∨j=1:=by omega
  rcases this with rfl | rfl
  ·exact⟨c+1,rfl,by omega,y4⟩
  ·exact⟨c+2,rfl,by omega,y7⟩
 obtain⟨Ra0,Xa0⟩:=R9.knp hp (by rw [b9l,d3];simp) rfl
 obtain⟨B8,R8',X8⟩:=Zln (ops:=ops) Ra0 (by rw [Xa0.bs,b9l,d3];simp)
 have M8:=((Xa0.trans X8).ek R9.lb (G++g)).mo
 rw [v9,t9] at M8
 refine⟨B8,G++g,h.close (xs:=[(s.bv,2,cond,[(c:Int)+1,(c:Int)+2],s.bp,0,()),(s4.bv,1,0,[(c:Int)+3],s4.bp,0,()),(s7.bv,1,0,[(c:Int)+3],s7.bp,0,())]) R8' (by rw [X8.bs,Xa0.bs,b9,X7.bs,b6,X4.bs,b2,List.append_assoc,List.append_assoc];rfl) gl2 hgk ((M4.trans M7).trans M8) ?_ ?_ ?_ ?_⟩
 ·intro x hx t ht
  rw [hc]
  simp only [List.mem_cons,List.not_mem_nil,or_false] at hx
  rcases hx with rfl | rfl | rfl
  all_goals
   simp only [nxB,List.mem_cons,List.not_mem_nil,or_false] at ht
   simp only [List.length_cons,List.length_nil]
   omega
 ·intro j hj
  rw [gl2] at hj
  rw [hc,hg]
  simp only [Znm,nxB,Ztr _ _ _ (show (c:Int)+1≠(c:Int)+2 by omega),Zx1,List.append_nil]
  have:j=0∨j=1∨j=2:=by omega
  rcases this with rfl | rfl | rfl
  ·rw [if_pos (by omega),if_neg (by omega)];rfl
  ·rw [if_neg (by omega),if_pos (by omega),if_neg (by omega)];rfl
  ·rw [if_neg (by omega),if_neg (by omega),if_pos (by omega)];rfl
 ·intro x hx h2 t ht
  rw [hc,gl2,hg]
  simp only [List.mem_cons,List.not_mem_nil,or_false] at hx
  rcases hx with rfl | rfl | rfl
  ·simp only [nxB,List.mem_cons,List.not_mem_nil,or_false] at ht
   rcases ht with rfl | rfl
   ·exact⟨0,by omega,by omega,rfl⟩
   ·exact⟨1,by omega,by omega,rfl⟩
  ·cases h2
  ·cases h2
 ·intro j hj a ha
  rw [gl2] at hj
  rw [hc] at ha
  rw [hg]
  have:j=0∨j=1∨j=2:=by omega
  rcases this with rfl | rfl | rfl
  all_goals exact List.mem_cons_of_mem _ ha
end Go.Proofs.YtcgmchechmbmeaaDoor.base
end
