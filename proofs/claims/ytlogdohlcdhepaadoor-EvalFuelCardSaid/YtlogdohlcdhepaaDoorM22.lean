/- This text proves that diamonds of turnstonehand.Unit keep what is told in EdD, in Ztm Lean. No condition but what the theorems themselves say. -/
import Derived.Test.YtlogdohlcdhepaaDoorM21
set_option linter.unusedVariables false
set_option linter.unusedSimpArgs false
section
set_option maxRecDepth 100000
namespace Go.Proofs.YtlogdohlcdhepaaDoor.base
open Go.Sh gen
variable {s s':Us}{B B':List Nat}{G:Gt}{ops:List Int}
theorem Rg.fresh (h:Rg s B G)(hb:s.bv=[]){v:Nat}(hv:v < s.vals.length):B.getD v 0≠s.blks.length:=by
 intro e
 have:(v:Int)∈Zga B s.blks.length:=Zff.2 ⟨v,rfl,by rw [h.lb];exact hv,e⟩
 rw [← h.bv,hb] at this
 cases this
theorem Rg.hd0 (h:Rg s B G)(hb:s.bv=[]):hdN s.vals B s.blks.length=0:=by
 unfold hdN
 rw [List.filter_eq_nil_iff.2 (fun v hv=>by
  rw [List.mem_range,h.lb] at hv
  rw [decide_eq_false (h.fresh hb hv)];simp)]
 rfl
theorem Z91 (h:Ld s B G):∃ B' G',Ld (Zx2 ops s) B' G':=by
 obtain⟨c,hc⟩:∃ c,s.blks.length=c:=⟨_,rfl⟩
 have hgl:=h.gl
 obtain⟨g,hg⟩:∃ g:Gt,g=[((c+1)::Gd G c,[(c:Int)]),((c+2)::Gd G c,[(c:Int)]),((c+3)::Gd G c,[((c+1:Nat):Int),((c+2:Nat):Int)])]:=⟨_,rfl⟩
 have gl2:g.length=3:=by rw [hg];rfl
 have n1:(G++g).getD (c+1) ([],[])=((c+1)::Gd G c,[(c:Int)]):=by
  rw [show c+1=G.length+0 by omega,Zla (by omega),hg];rw [show G.length+0=c+1 by omega];rfl
 have n2:(G++g).getD (c+2) ([],[])=((c+2)::Gd G c,[(c:Int)]):=by
  rw [show c+2=G.length+1 by omega,Zla (by omega),hg];rw [show G.length+1=c+2 by omega];rfl
 have n3:(G++g).getD (c+3) ([],[])=((c+3)::Gd G c,[((c+1:Nat):Int),((c+2:Nat):Int)]):=by
  rw [show c+3=G.length+2 by omega,Zla (by omega),hg];rw [show G.length+2=c+3 by omega];rfl
 have d3:Gd (G++g) (c+3)=(c+3)::Gd G c:=by unfold Gd;rw [n3]
 have p3:[((c+1:Nat):Int),((c+2:Nat):Int)]=Gp (G++g) (c+3):=by unfold Gp;rw [n3]
 have d1:Gd (G++g) (c+1)=(c+1)::Gd G c:=by unfold Gd;rw [n1]
 have d2:Gd (G++g) (c+2)=(c+2)::Gd G c:=by unfold Gd;rw [n2]
 have d0:Gd (G++g) c=Gd G c:=Zhy (by omega)
 have p1:[(c:Int)]=Gp (G++g) (c+1):=by unfold Gp;rw [n1]
 have p2:[(c:Int)]=Gp (G++g) (c+2):=by unfold Gp;rw [n2]
 have hgk:GOk (G++g):=by
  refine h.g.ext fun j hj=>?_
  rw [gl2] at hj ⊢
  have:j=0∨j=1∨j=2:=by omega
  rcases this with rfl | rfl | rfl
  ·rw [hg]
   refine⟨fun p hp=>?_,⟨c,by omega,by simp⟩,by simp;omega⟩
   have hp:p∈[(c:Int)]:=hp
   rw [List.mem_singleton] at hp
   refine⟨c,hp,by omega,fun a ha=>?_⟩
   rw [Zhy (by omega)]
   rcases List.mem_cons.1 ha with rfl | ha
   ·exact Or.inl (by omega)
   ·exact Or.inr ha
  ·rw [hg]
   refine⟨fun p hp=>?_,⟨c,by omega,by simp⟩,by simp;omega⟩
   have hp:p∈[(c:Int)]:=hp
   rw [List.mem_singleton] at hp
   refine⟨c,hp,by omega,fun a ha=>?_⟩
   rw [Zhy (by omega)]
   rcases List.mem_cons.1 ha with rfl | ha
   ·exact Or.inl (by omega)
   ·exact Or.inr ha
  ·refine⟨fun p hp=>?_,⟨c+1,by omega,by rw [hg];simp⟩,by rw [hg];simp;omega⟩
   have hp:p∈(g.getD 2 ([],[])).2:=hp
   rw [hg] at hp
   have hp:p∈[((c+1:Nat):Int),((c+2:Nat):Int)]:=hp
   have ha3:∀ a∈(g.getD 2 ([],[])).1,a=G.length+2∨a∈Gd G c:=fun a ha=>by
    rw [hg] at ha
    rcases List.mem_cons.1 ha with rfl | ha
    ·exact Or.inl (by omega)
    ·exact Or.inr ha
   simp only [List.mem_cons,List.not_mem_nil,or_false] at hp
   rcases hp with rfl | rfl
   ·exact⟨c+1,rfl,by omega,fun a ha=>(ha3 a ha).imp id (fun h=>by rw [d1];exact List.mem_cons_of_mem _ h)⟩
   ·exact⟨c+2,rfl,by omega,fun a ha=>(ha3 a ha).imp id (fun h=>by rw [d2];exact List.mem_cons_of_mem _ h)⟩
 have hGl:(G++g).length=c+4:=by rw [List.length_append,gl2];omega
 have R0:=h.r.ext g
 have okc:=R0.ok (ops:=ops)
 have Ra:=R0.any (ops:=ops)
 obtain⟨a,ea⟩:=Zml ops s
 unfold Zx2
 dsimp only
 rw [hc] at okc ⊢
 generalize hcond:(Zbk ops s).2=cond at okc ⊢
 rw [ea] at Ra ⊢
 have dn:∀ z∈s.known,∀ j,(∀ x∈Gd G c,x∈Gd (G++g) j)→OkS s.vals B (G++g) j s.vals.length z:=fun z hz j hj=>Zip (h.r.kn z hz) (by omega) (by rw [hc];exact hj)
 have R2:Rg (bpP [(c:Int)] (Zb1 2 cond [(c:Int)+1,(c:Int)+2] 0 { s with at_:=a })) B (G++g):=by
  refine Ra.end (by show s.blks.length+1 < _;omega) (fun z hz=>?_) (Or.inr (Or.inl ⟨rfl,rfl,by show OkS s.vals B (G++g) s.blks.length s.vals.length cond;rw [hc];exact okc⟩)) (by show _=Gp (G++g) (s.blks.length+1);rw [hc];exact p1)
  show OkS s.vals B (G++g) (s.blks.length+1) s.vals.length z
  rw [hc]
  exact dn z hz _ (fun x hx=>by rw [d1];exact List.mem_cons_of_mem _ hx)
 obtain⟨s2,hs2⟩:∃ s2,bpP [(c:Int)] (Zb1 2 cond [(c:Int)+1,(c:Int)+2] 0 { s with at_:=a })=s2:=⟨_,rfl⟩
 have b2:s2.blks=s.blks++[(s.bv,2,cond,[(c:Int)+1,(c:Int)+2],s.bp,0,())]:=by rw [← hs2];rfl
 have b2l:s2.blks.length=c+1:=by rw [b2,List.length_append,hc];rfl
 have v2:s2.vals=s.vals:=by rw [← hs2];rfl
 have t2:s2.sts=s.sts:=by rw [← hs2];rfl
 have k2:s2.known=s.known:=by rw [← hs2];rfl
 rw [hs2] at R2 ⊢
 obtain⟨B4,R4,X4⟩:=Zls (ops:=ops) R2 (by rw [b2l,d1];simp)
 have b4l:(Zf8 ops s2).blks.length=c+1:=by rw [X4.bs,b2l]
 obtain⟨s4,hs4⟩:∃ s4,Zf8 ops s2=s4:=⟨_,rfl⟩
 rw [hs4] at R4 X4 b4l ⊢
 have K4:=X4.ek R2.lb (G++g)
 obtain⟨L,hL⟩:=K4.kn
 rw [k2] at hL
 obtain⟨R5,k5⟩:=R4.cut hL h.r.kne
 have M4:=K4.mo
 rw [v2,t2] at M4
 have x4:=R4.last
 rw [b4l] at x4
 rw [show ((s4.blks.length:Nat):Int)+2=(c:Int)+3 by omega,show ((s4.blks.length:Nat):Int)=((c+1:Nat):Int) by omega]
 have R6:Rg (bpP [(c:Int)] (Zb1 1 0 [(c:Int)+3] 0 (Zgy s.known.length s4))) B4 (G++g):=by
  refine R5.end (by show s4.blks.length+1 < _;omega) (fun z hz=>?_) (Or.inl ⟨rfl,rfl⟩) (by show _=Gp (G++g) (s4.blks.length+1);rw [b4l];exact p2)
  rw [k5] at hz
  show OkS s4.vals B4 (G++g) (s4.blks.length+1) s4.vals.length z
  rw [b4l]
  exact (dn z hz (c+2) (fun x hx=>by rw [d2];exact List.mem_cons_of_mem _ hx)).mono M4 (Nat.le_refl _) (by omega) M4.vl
 obtain⟨s6,hs6⟩:∃ s6,bpP [(c:Int)] (Zb1 1 0 [(c:Int)+3] 0 (Zgy s.known.length s4))=s6:=⟨_,rfl⟩
 have b6:s6.blks=s4.blks++[(s4.bv,1,0,[(c:Int)+3],s4.bp,0,())]:=by rw [← hs6];rfl
 have b6l:s6.blks.length=c+2:=by rw [b6,List.length_append,b4l];rfl
 have v6:s6.vals=s4.vals:=by rw [← hs6];rfl
 have t6:s6.sts=s4.sts:=by rw [← hs6];rfl
 have k6:s6.known=s.known:=by rw [← hs6];exact k5
 rw [hs6] at R6 ⊢
 obtain⟨B7,R7,X7⟩:=Zls (ops:=ops) R6 (by rw [b6l,d2];simp)
 have b7l:(Zf8 ops s6).blks.length=c+2:=by rw [X7.bs,b6l]
 obtain⟨s7,hs7⟩:∃ s7,Zf8 ops s6=s7:=⟨_,rfl⟩
 rw [hs7] at R7 X7 b7l ⊢
 have K7:=X7.ek R6.lb (G++g)
 obtain⟨L7,hL7⟩:=K7.kn
 rw [k6] at hL7
 obtain⟨R8,k8⟩:=R7.cut hL7 h.r.kne
 have M7:=K7.mo
 rw [v6,t6] at M7
 have x7:=R7.last
 rw [b7l] at x7
 rw [show ((s7.blks.length:Nat):Int)+1=(c:Int)+3 by omega,show ((s7.blks.length:Nat):Int)=((c+2:Nat):Int) by omega]
 have R9:Rg (bpP [((c+1:Nat):Int),((c+2:Nat):Int)] (Zb1 1 0 [(c:Int)+3] 0 (Zgy s.known.length s7))) B7 (G++g):=by
  refine R8.end (by show s7.blks.length+1 < _;omega) (fun z hz=>?_) (Or.inl ⟨rfl,rfl⟩) (by show _=Gp (G++g) (s7.blks.length+1);rw [b7l];exact p3)
  rw [k8] at hz
  show OkS s7.vals B7 (G++g) (s7.blks.length+1) s7.vals.length z
  rw [b7l]
  exact ((dn z hz (c+3) (fun x hx=>by rw [d3];exact List.mem_cons_of_mem _ hx)).mono M4 (Nat.le_refl _) (by omega) M4.vl).mono M7 (Nat.le_refl _) (by omega) M7.vl
 obtain⟨s9,hs9⟩:∃ s9,bpP [((c+1:Nat):Int),((c+2:Nat):Int)] (Zb1 1 0 [(c:Int)+3] 0 (Zgy s.known.length s7))=s9:=⟨_,rfl⟩
 have b9:s9.blks=s7.blks++[(s7.bv,1,0,[(c:Int)+3],s7.bp,0,())]:=by rw [← hs9];rfl
 have b9l:s9.blks.length=c+3:=by rw [b9,List.length_append,b7l];rfl
 have v9:s9.vals=s7.vals:=by rw [← hs9];rfl
 have t9:s9.sts=s7.sts:=by rw [← hs9];rfl
 have n9:s9.bv=[]:=by rw [← hs9];rfl
 rw [hs9] at R9 ⊢
 have y4:OkS s9.vals B7 (G++g) (c+1) s9.vals.length (Zc5 s4):=by rw [v9];exact x4.mono M7 (Nat.le_refl _) (by omega) M7.vl
 have y7:OkS s9.vals B7 (G++g) (c+2) s9.vals.length (Zc5 s7):=by rw [v9];exact x7
 have hp:Zod s9 B7 (G++g) (21,0,0,0,[Zc5 s4,Zc5 s7],0,()):=by
  refine⟨rfl,fun h0=>absurd rfl h0,fun h0=>(by cases h0),fun h0=>(by cases h0),fun _=>⟨by omega,by rw [b9l,← p3];rfl,fun j hj=>?_⟩,fun h0=>(by cases h0),fun _ v hv hB=>absurd hB (R9.fresh n9 hv),fun _=>by rw [R9.hd0 n9];exact Nat.zero_le _⟩
  rw [b9l,← p3]
  have hj:j < 2:=hj
  have:j=0∨j=1:=by omega
  rcases this with rfl | rfl
  ·exact⟨c+1,rfl,by omega,y4⟩
  ·exact⟨c+2,rfl,by omega,y7⟩
 obtain⟨Ra0,Xa0⟩:=R9.knp hp (by rw [b9l,d3];simp) rfl
 obtain⟨B8,R8',X8⟩:=Zls (ops:=ops) Ra0 (by rw [Xa0.bs,b9l,d3];simp)
 have M8:=((Xa0.trans X8).ek R9.lb (G++g)).mo
 rw [v9,t9] at M8
 refine⟨B8,G++g,h.close (xs:=[(s.bv,2,cond,[(c:Int)+1,(c:Int)+2],s.bp,0,()),(s4.bv,1,0,[(c:Int)+3],s4.bp,0,()),(s7.bv,1,0,[(c:Int)+3],s7.bp,0,())]) R8' (by rw [X8.bs,Xa0.bs,b9,X7.bs,b6,X4.bs,b2,List.append_assoc,List.append_assoc];rfl) gl2 hgk ((M4.trans M7).trans M8) ?_ ?_ ?_ ?_⟩
 ·intro x hx t ht
  rw [hc]
  simp only [List.mem_cons,List.not_mem_nil,or_false] at hx
  rcases hx with rfl | rfl | rfl
  all_goals
   simp only [nxB,List.mem_cons,List.not_mem_nil,or_false] at ht
   simp only [List.length_cons,List.length_nil]
   omega
 ·intro j hj
  rw [gl2] at hj
  rw [hc,hg]
  simp only [Zny,nxB,Ztq _ _ _ (show (c:Int)+1≠(c:Int)+2 by omega),Zzy,List.append_nil]
  have:j=0∨j=1∨j=2:=by omega
  rcases this with rfl | rfl | rfl
  ·rw [if_pos (by omega),if_neg (by omega)];rfl
  ·rw [if_neg (by omega),if_pos (by omega),if_neg (by omega)];rfl
  ·rw [if_neg (by omega),if_neg (by omega),if_pos (by omega)];rfl
 ·intro x hx h2 t ht
  rw [hc,gl2,hg]
  simp only [List.mem_cons,List.not_mem_nil,or_false] at hx
  rcases hx with rfl | rfl | rfl
  ·simp only [nxB,List.mem_cons,List.not_mem_nil,or_false] at ht
   rcases ht with rfl | rfl
   ·exact⟨0,by omega,by omega,rfl⟩
   ·exact⟨1,by omega,by omega,rfl⟩
  ·cases h2
  ·cases h2
 ·intro j hj a ha
  rw [gl2] at hj
  rw [hc] at ha
  rw [hg]
  have:j=0∨j=1∨j=2:=by omega
  rcases this with rfl | rfl | rfl
  all_goals exact List.mem_cons_of_mem _ ha
end Go.Proofs.YtlogdohlcdhepaaDoor.base
end
section
set_option maxRecDepth 100000
namespace Go.Proofs.YtlogdohlcdhepaaDoor.base
open Go.Sh gen
variable {s s':Us}{B B':List Nat}{G:Gt}{ops:List Int}
theorem Z6y (vals:List Zbu.D)(p:Nat)(d:Zbu.D){n:Nat}(hn:n < vals.length):vAt (vals.set p d) n=if p=n then d else vAt vals n:=by
 unfold vAt
 rw [List.getD_eq_getElem?_getD,List.getElem?_set]
 split
 ·rename_i e;subst e;rw [if_pos hn];rfl
 ·rw [List.getD_eq_getElem?_getD]
theorem Z7q (vals:List Zbu.D){n:Nat}(hn:n < vals.length):vAt vals n=vals[n]:=by
 unfold vAt;rw [List.getD_eq_getElem?_getD,List.getElem?_eq_getElem hn];rfl
theorem Rg.sets (h:Rg s B G){p:Nat}(hp:p < s.vals.length)(h21:(vAt s.vals p).1=21){l:List Int}(hl:l.length=(Gp G (B.getD p 0)).length)(hq:∀ j < l.length,∃ q:Nat,(Gp G (B.getD p 0)).getD j 0=q∧q < G.length∧OkS s.vals B G q s.vals.length (l.getD j 0)):Rg (Zbh p l s) B G∧Ek s B G (Zbh p l s) B:=by
 have es:Zbh p l s={ s with vals:=s.vals.set p (Zsh s.vals[p] l) }:=by unfold Zbh;rw [dif_pos hp]
 obtain⟨V,hV⟩:∃ V,s.vals.set p (Zsh s.vals[p] l)=V:=⟨_,rfl⟩
 have el:V.length=s.vals.length:=by rw [← hV];simp
 have ev:∀ n < s.vals.length,vAt V n=if p=n then Zsh s.vals[p] l else vAt s.vals n:=fun n hn=>by rw [← hV];exact Z6y _ _ _ hn
 have k:Mo s.vals s.sts B G V s.sts B G:=by
  refine⟨by omega,fun n hn=>?_,fun n _=>rfl,Nat.le_refl _,fun n _=>rfl,Nat.le_refl _,fun i _=>rfl⟩
  rw [ev n hn]
  split
  ·rename_i e;subst e;rw [Z7q _ hp];exact⟨rfl,rfl⟩
  ·exact⟨rfl,rfl⟩
 rw [es,hV]
 have eo:∀ n < s.vals.length,(vAt V n).1=(vAt s.vals n).1:=fun n hn=>(k.vo n hn).1
 refine⟨⟨by show B.length=V.length;rw [el];exact h.lb,h.gl,fun v hv=>h.bb v (by rw [← el];exact hv),h.bv,h.bl,h.pb,h.bp,fun v hv=>?_,fun z hz=>(h.kn z hz).mono k (Nat.le_refl _) h.gl k.vl,h.kne,fun v w hvw hw hB hh=>?_,fun v hv h1=>?_,fun v hv h2=>?_,fun i hi=>k.sf (h.sf i hi),fun i hi=>(h.en i hi).mono k (Nat.lt_trans hi h.gl),fun i=>?_⟩,⟨rfl,⟨[],by simp⟩,k⟩⟩
 ·have hv:v < V.length:=hv
  rw [el] at hv
  show VS V s.sts B G v
  by_cases e:p=v
  ·subst e
   have e1:vAt V p=Zsh s.vals[p] l:=by rw [ev p hp,if_pos rfl]
   have e2:(vAt V p).1=21:=by rw [eo p hp];exact h21
   have e3:Zfc (vAt V p)=l:=by rw [e1];rfl
   refine⟨by rw [e2];rfl,fun _=>?_,fun h0=>absurd e2 h0,fun h0=>(by rw [e2] at h0;cases h0),fun h0=>(by rw [e2] at h0;cases h0),fun h0=>(by rw [e2] at h0;cases h0)⟩
   rw [e3]
   refine⟨hl,fun j hj=>?_⟩
   obtain⟨q,g1,g2,g3⟩:=hq j hj
   exact⟨q,g1,g2,g3.mono k (Nat.le_refl _) g2 k.vl⟩
  ·exact (h.va v hv).mono k hv (by have:=h.bb v hv;have:=h.gl;omega) (by rw [ev v hv,if_neg e])
 ·have hw:w < V.length:=hw
  rw [el] at hw
  have hh:Za9 (vAt V w).1=true:=hh
  show Za9 (vAt V v).1=true
  rw [eo w hw] at hh
  rw [eo v (by omega)]
  exact h.hd v w hvw hw hB hh
 ·have hv:v < V.length:=hv
  rw [el] at hv
  have h1:(vAt V v).1=1:=h1
  rw [eo v hv] at h1
  exact h.h1 v hv h1
 ·have hv:v < V.length:=hv
  rw [el] at hv
  have h2:(vAt V v).1=21:=h2
  rw [eo v hv] at h2
  exact h.h2 v hv h2
 ·show hdN V B i≤4
  have:hdN V B i=hdN s.vals B i:=by
   unfold hdN
   congr 1
   apply List.filter_congr
   intro v hv
   rw [List.mem_range,h.lb] at hv
   rw [eo v hv]
  rw [this];exact h.hn i
theorem Z5z (hk:s.known≠[]):(Zbk ops s).2∈s.known:=by
 have hk:0 < s.known.length:=List.length_pos_iff.2 hk
 have hl:=Zcn (ops:=ops) (s:=s) (k:=(s.known.length:Nat)) (by omega)
 unfold Zbk
 dsimp only
 exact Za8 (by omega)
theorem Zxn (h:Ld s B G){c:Nat}(hc:s.blks.length=c){g:Gt}(hg:g=[((c+1)::Gd G c,[(c:Int),(c:Int)+2]),((c+2)::(c+1)::Gd G c,[(c:Int)+1]),((c+3)::(c+1)::Gd G c,[(c:Int)+1])])(hgk:GOk (G++g)){p:Int}{x1 x2 x3 y1 y2 y3:List Int}
  (R:Rg s' B' (G++g)) (hb:s'.blks=s.blks++[(x1,1,0,[(c:Int)+1],y1,0,()),(x2,2,p,[(c:Int)+2,(c:Int)+3],y2,0,()),(x3,1,0,[(c:Int)+1],y3,0,())]) (mo:Mo s.vals s.sts B (G++g) s'.vals s'.sts B' (G++g)):Ld s' B' (G++g):=by
 have gl2:g.length=3:=by rw [hg];rfl
 refine h.close R hb gl2 hgk mo ?_ ?_ ?_ ?_
 ·intro x hx t ht
  rw [hc]
  simp only [List.mem_cons,List.not_mem_nil,or_false] at hx
  rcases hx with rfl | rfl | rfl
  all_goals
   simp only [nxB,List.mem_cons,List.not_mem_nil,or_false] at ht
   simp only [List.length_cons,List.length_nil]
   omega
 ·intro j hj
  rw [gl2] at hj
  rw [hc,hg]
  simp only [Zny,nxB,Ztq _ _ _ (show (c:Int)+2≠(c:Int)+3 by omega),Zzy,List.append_nil]
  have:j=0∨j=1∨j=2:=by omega
  rcases this with rfl | rfl | rfl
  ·rw [if_pos (by omega),if_neg (by omega),if_neg (by omega)];rfl
  ·rw [if_neg (by omega),if_pos (by omega)];rfl
  ·rw [if_neg (by omega),if_neg (by omega),if_pos (by omega)];rfl
 ·intro x hx h2 t ht
  rw [hc,gl2,hg]
  simp only [List.mem_cons,List.not_mem_nil,or_false] at hx
  rcases hx with rfl | rfl | rfl
  ·cases h2
  ·simp only [nxB,List.mem_cons,List.not_mem_nil,or_false] at ht
   rcases ht with rfl | rfl
   ·exact⟨1,by omega,by omega,rfl⟩
   ·exact⟨2,by omega,by omega,rfl⟩
  ·cases h2
 ·intro j hj a ha
  rw [gl2] at hj
  rw [hc] at ha
  rw [hg]
  have:j=0∨j=1∨j=2:=by omega
  rcases this with rfl | rfl | rfl
  ·exact List.mem_cons_of_mem _ ha
  ·exact List.mem_cons_of_mem _ (List.mem_cons_of_mem _ ha)
  ·exact List.mem_cons_of_mem _ (List.mem_cons_of_mem _ ha)
set_option maxHeartbeats 1000000 in
theorem Z6r (h:Ld s B G):∃ B' G',Ld (Zl8 ops s) B' G':=by
 obtain⟨c,hc⟩:∃ c,s.blks.length=c:=⟨_,rfl⟩
 have hgl:=h.gl
 obtain⟨g,hg⟩:∃ g:Gt,g=[((c+1)::Gd G c,[(c:Int),(c:Int)+2]),((c+2)::(c+1)::Gd G c,[(c:Int)+1]),((c+3)::(c+1)::Gd G c,[(c:Int)+1])]:=⟨_,rfl⟩
 have gl2:g.length=3:=by rw [hg];rfl
 have n1:(G++g).getD (c+1) ([],[])=((c+1)::Gd G c,[(c:Int),(c:Int)+2]):=by
  rw [show c+1=G.length+0 by omega,Zla (by omega),hg];rw [show G.length+0=c+1 by omega];rfl
 have n2:(G++g).getD (c+2) ([],[])=((c+2)::(c+1)::Gd G c,[(c:Int)+1]):=by
  rw [show c+2=G.length+1 by omega,Zla (by omega),hg];rw [show G.length+1=c+2 by omega];rfl
 have n3:(G++g).getD (c+3) ([],[])=((c+3)::(c+1)::Gd G c,[(c:Int)+1]):=by
  rw [show c+3=G.length+2 by omega,Zla (by omega),hg];rw [show G.length+2=c+3 by omega];rfl
 have d3:Gd (G++g) (c+3)=(c+3)::(c+1)::Gd G c:=by unfold Gd;rw [n3]
 have p3:[(c:Int)+1]=Gp (G++g) (c+3):=by unfold Gp;rw [n3]
 have d1:Gd (G++g) (c+1)=(c+1)::Gd G c:=by unfold Gd;rw [n1]
 have d2:Gd (G++g) (c+2)=(c+2)::(c+1)::Gd G c:=by unfold Gd;rw [n2]
 have d0:Gd (G++g) c=Gd G c:=Zhy (by omega)
 have p1:[(c:Int),(c:Int)+2]=Gp (G++g) (c+1):=by unfold Gp;rw [n1]
 have p2:[(c:Int)+1]=Gp (G++g) (c+2):=by unfold Gp;rw [n2]
 have hgk:GOk (G++g):=by
  refine h.g.ext fun j hj=>?_
  rw [gl2] at hj ⊢
  have:j=0∨j=1∨j=2:=by omega
  have hin:∀ x∈Gd G c,x∈Gd (G++g) (c+1):=fun x hx=>by rw [d1];exact List.mem_cons_of_mem _ hx
  rcases this with rfl | rfl | rfl
  ·refine⟨fun p hp=>?_,⟨c,by omega,by rw [hg];simp⟩,by rw [hg];simp;omega⟩
   rw [hg] at hp
   have hp:p∈[(c:Int),(c:Int)+2]:=hp
   have ha3:∀ a∈(g.getD 0 ([],[])).1,a=G.length+0∨a∈Gd G c:=fun a ha=>by
    rw [hg] at ha
    rcases List.mem_cons.1 ha with rfl | ha
    ·exact Or.inl (by omega)
    ·exact Or.inr ha
   simp only [List.mem_cons,List.not_mem_nil,or_false] at hp
   rcases hp with rfl | rfl
   ·exact⟨c,rfl,by omega,fun a ha=>(ha3 a ha).imp id (fun h=>by rw [d0];exact h)⟩
   ·exact⟨c+2,by omega,by omega,fun a ha=>(ha3 a ha).imp id (fun h=>by rw [d2];exact List.mem_cons_of_mem _ (List.mem_cons_of_mem _ h))⟩
  ·refine⟨fun p hp=>?_,⟨c+1,by omega,by rw [hg];simp⟩,by rw [hg];simp;omega⟩
   rw [hg] at hp
   have hp:p∈[(c:Int)+1]:=hp
   rw [List.mem_singleton] at hp
   refine⟨c+1,by omega,by omega,fun a ha=>?_⟩
   rw [hg] at ha
   rcases List.mem_cons.1 ha with rfl | ha
   ·exact Or.inl (by omega)
   ·exact Or.inr (by rw [d1];exact ha)
  ·refine⟨fun p hp=>?_,⟨c+1,by omega,by rw [hg];simp⟩,by rw [hg];simp;omega⟩
   rw [hg] at hp
   have hp:p∈[(c:Int)+1]:=hp
   rw [List.mem_singleton] at hp
   refine⟨c+1,by omega,by omega,fun a ha=>?_⟩
   rw [hg] at ha
   rcases List.mem_cons.1 ha with rfl | ha
   ·exact Or.inl (by omega)
   ·exact Or.inr (by rw [d1];exact ha)
 have hGl:(G++g).length=c+4:=by rw [List.length_append,gl2];omega
 have s12:∀ x∈Gd (G++g) (c+1),x∈Gd (G++g) (c+2):=fun x hx=>by rw [d2,← d1];exact List.mem_cons_of_mem _ hx
 have s13:∀ x∈Gd (G++g) (c+1),x∈Gd (G++g) (c+3):=fun x hx=>by rw [d3,← d1];exact List.mem_cons_of_mem _ hx
 have R0:=h.r.ext g
 have okc:=R0.ok (ops:=ops)
 have Ra:=R0.any (ops:=ops)
 have v02:OkS s.vals B (G++g) (c+2) s.vals.length 0:=Zip (h.v0 c (by omega)) (by omega) (fun x hx=>by rw [d2];exact List.mem_cons_of_mem _ (List.mem_cons_of_mem _ hx))
 have dn:∀ z∈s.known,∀ j,(∀ x∈Gd G c,x∈Gd (G++g) j)→OkS s.vals B (G++g) j s.vals.length z:=fun z hz j hj=>Zip (h.r.kn z hz) (by omega) (by rw [hc];exact hj)
 obtain⟨a,ea⟩:=Zml ops s
 unfold Zl8
 dsimp only
 rw [hc] at okc ⊢
 generalize (Zbk ops s).2=f at okc ⊢
 rw [ea] at Ra ⊢
 have R1:Rg (bpP [(c:Int),(c:Int)+2] (Zb1 1 0 [(c:Int)+1] 0 { s with at_:=a })) B (G++g):=by
  refine Ra.end (by show s.blks.length+1 < _;omega) (fun z hz=>?_) (Or.inl ⟨rfl,rfl⟩) (by show _=Gp (G++g) (s.blks.length+1);rw [hc];exact p1)
  show OkS s.vals B (G++g) (s.blks.length+1) s.vals.length z
  rw [hc]
  exact dn z hz _ (fun x hx=>by rw [d1];exact List.mem_cons_of_mem _ hx)
 obtain⟨s1,hs1⟩:∃ s1,bpP [(c:Int),(c:Int)+2] (Zb1 1 0 [(c:Int)+1] 0 { s with at_:=a })=s1:=⟨_,rfl⟩
 have b1:s1.blks=s.blks++[(s.bv,1,0,[(c:Int)+1],s.bp,0,())]:=by rw [← hs1];rfl
 have b1l:s1.blks.length=c+1:=by rw [b1,List.length_append,hc];rfl
 have v1:s1.vals=s.vals:=by rw [← hs1];rfl
 have t1:s1.sts=s.sts:=by rw [← hs1];rfl
 have k1:s1.known=s.known:=by rw [← hs1];rfl
 have n1':s1.bv=[]:=by rw [← hs1];rfl
 rw [hs1] at R1 ⊢
 rw [← v1] at okc v02
 have kno1:∀ z∈s1.known,OkS s1.vals B (G++g) c s1.vals.length z:=fun z hz=>by rw [v1];rw [k1] at hz;exact dn z hz c (fun x hx=>by rw [d0];exact hx)
 have P2:Zod s1 B (G++g) (21,0,0,0,[f,0],0,()):=by
  refine⟨rfl,fun h0=>absurd rfl h0,fun h0=>(by cases h0),fun h0=>(by cases h0),fun _=>⟨by omega,by rw [b1l,← p1];rfl,fun j hj=>?_⟩,fun h0=>(by cases h0),fun _ v hv hB=>absurd hB (R1.fresh n1' hv),fun _=>by rw [R1.hd0 n1'];exact Nat.zero_le _⟩
  rw [b1l,← p1]
  have hj:j < 2:=hj
  have:j=0∨j=1:=by omega
  rcases this with rfl | rfl
  ·exact⟨c,rfl,by omega,okc⟩
  ·exact⟨c+2,by show (c:Int)+2=_;omega,by omega,v02⟩
 obtain⟨R2,X2⟩:=R1.put P2
 have o2p:OkS (Zbr (21,0,0,0,[f,0],0,()) s1).vals (B++[s1.blks.length]) (G++g) s1.blks.length (Zbr (21,0,0,0,[f,0],0,()) s1).vals.length (s1.vals.length:Nat):=Zvt R1 (by rw [b1l,d1];simp) rfl
 obtain⟨p,hp⟩:∃ p,s1.vals.length=p:=⟨_,rfl⟩
 have l2:(Zbr (21,0,0,0,[f,0],0,()) s1).vals.length=p+1:=by show (s1.vals++[_]).length=_;rw [List.length_append,hp];rfl
 have w2:vAt (Zbr (21,0,0,0,[f,0],0,()) s1).vals p=(21,0,0,0,[f,0],0,()):=by show vAt (s1.vals++[_]) p=_;rw [← hp,Zel]
 have B2p:(B++[s1.blks.length]).getD p 0=c+1:=by rw [← hp,← R1.lb,Ze7,b1l]
 have fr2:∀ v < (Zbr (21,0,0,0,[f,0],0,()) s1).vals.length,(B++[s1.blks.length]).getD v 0=c+1→v=p:=by
  intro v hv hB
  rw [l2] at hv
  apply Decidable.byContradiction
  intro hne
  rw [Zcy _ _ _ (by rw [R1.lb];omega)] at hB
  exact R1.fresh n1' (show v < s1.vals.length by omega) (by rw [b1l];exact hB)
 have n2h:hdN (Zbr (21,0,0,0,[f,0],0,()) s1).vals (B++[s1.blks.length]) (c+1)≤1:=by
  show hdN (s1.vals++[(21,0,0,0,[f,0],0,())]) (B++[s1.blks.length]) (c+1)≤1
  rw [Zu9 _ _ _ _ _ R1.lb,← b1l,R1.hd0 n1']
  split <;> omega
 have k2:(Zbr (21,0,0,0,[f,0],0,()) s1).known=s1.known:=rfl
 have b2:(Zbr (21,0,0,0,[f,0],0,()) s1).blks=s1.blks:=rfl
 have M2:=(X2.ek R1.lb (G++g)).mo
 generalize hB2:B++[s1.blks.length]=B2 at R2 X2 o2p B2p fr2 M2 n2h
 rw [hp] at o2p ⊢
 rw [b1l] at o2p
 generalize Zbr (21,0,0,0,[f,0],0,()) s1=s2 at R2 X2 o2p l2 w2 fr2 k2 b2 M2 n2h ⊢
 obtain⟨a2,ea2⟩:=Zml ops s2
 have hx:=Z5z (ops:=ops) R2.kne
 rw [k2] at hx
 have R2a:=R2.at a2
 have okx:=(kno1 _ hx).mono M2 (Nat.le_refl _) (by omega) M2.vl
 generalize (Zbk ops s2).2=x at okx hx ⊢
 rw [ea2]
 obtain⟨s2a,hs2a⟩:∃ s2a:Us,{ s2 with at_:=a2 }=s2a:=⟨_,rfl⟩
 have va:s2a.vals=s2.vals:=by rw [← hs2a]
 have ta:s2a.sts=s2.sts:=by rw [← hs2a]
 have ba:s2a.blks=s2.blks:=by rw [← hs2a]
 have ka:s2a.known=s2.known:=by rw [← hs2a]
 rw [hs2a] at R2a ⊢
 have bal:s2a.blks.length=c+1:=by rw [ba,b2,b1l]
 rw [← va] at okx o2p l2 w2 fr2
 have o2d:OkS s2a.vals B2 (G++g) (c+2) s2a.vals.length (p:Nat):=o2p.sub s12
 have n3:hdN s2a.vals B2 (c+1)≤3:=by rw [va];omega
 have P3:Zod s2a B2 (G++g) (21,0,0,0,[x,(p:Int)],0,()):=by
  refine⟨rfl,fun h0=>absurd rfl h0,fun h0=>(by cases h0),fun h0=>(by cases h0),fun _=>⟨by omega,by rw [bal,← p1];rfl,fun j hj=>?_⟩,fun h0=>(by cases h0),fun _ v hv hB=>?_,fun _=>by rw [bal];exact n3⟩
  ·rw [bal,← p1]
   have hj:j < 2:=hj
   have:j=0∨j=1:=by omega
   rcases this with rfl | rfl
   ·exact⟨c,rfl,by omega,okx⟩
   ·exact⟨c+2,by show (c:Int)+2=_;omega,by omega,o2d⟩
  ·rw [bal] at hB
   rw [fr2 v hv hB,w2];rfl
 obtain⟨R3,X3⟩:=R2a.put P3
 have o3q:OkS (Zbr (21,0,0,0,[x,(p:Int)],0,()) s2a).vals (B2++[s2a.blks.length]) (G++g) s2a.blks.length (Zbr (21,0,0,0,[x,(p:Int)],0,()) s2a).vals.length (s2a.vals.length:Nat):=Zvt R2a (by rw [bal,d1];simp) rfl
 have M3:=(X3.ek R2a.lb (G++g)).mo
 have l3:(Zbr (21,0,0,0,[x,(p:Int)],0,()) s2a).vals.length=p+2:=by show (s2a.vals++[_]).length=_;rw [List.length_append,l2];rfl
 have w3:vAt (Zbr (21,0,0,0,[x,(p:Int)],0,()) s2a).vals (p+1)=(21,0,0,0,[x,(p:Int)],0,()):=by show vAt (s2a.vals++[_]) (p+1)=_;rw [← l2,Zel]
 have B3q:(B2++[s2a.blks.length]).getD (p+1) 0=c+1:=by rw [← l2,← R2a.lb,Ze7,bal]
 have k3:(Zbr (21,0,0,0,[x,(p:Int)],0,()) s2a).known=s2a.known:=rfl
 have b3:(Zbr (21,0,0,0,[x,(p:Int)],0,()) s2a).blks=s2a.blks:=rfl
 rw [l2] at o3q
 have o3p:=o2p.mono M3 (Nat.le_refl _) (by omega) M3.vl
 have okf3:OkS (Zbr (21,0,0,0,[x,(p:Int)],0,()) s2a).vals (B2++[s2a.blks.length]) (G++g) c (Zbr (21,0,0,0,[x,(p:Int)],0,()) s2a).vals.length f:=by
  have h2:=okc.mono M2 (Nat.le_refl _) (by omega) M2.vl
  rw [← va] at h2
  exact h2.mono M3 (Nat.le_refl _) (by omega) M3.vl
 have okx3:=okx.mono M3 (Nat.le_refl _) (by omega) M3.vl
 have w3p:(vAt (Zbr (21,0,0,0,[x,(p:Int)],0,()) s2a).vals p).1=21:=by rw [(M3.vo p (by omega)).1,w2]
 have w3q:(vAt (Zbr (21,0,0,0,[x,(p:Int)],0,()) s2a).vals (p+1)).1=21:=by rw [w3]
 have B3p:(B2++[s2a.blks.length]).getD p 0=c+1:=by rw [M3.bo p (by omega)];exact B2p
 have M13:Mo s.vals s.sts B (G++g) (Zbr (21,0,0,0,[x,(p:Int)],0,()) s2a).vals (Zbr (21,0,0,0,[x,(p:Int)],0,()) s2a).sts (B2++[s2a.blks.length]) (G++g):=by
  rw [v1,t1] at M2
  rw [va,ta] at M3
  exact M2.trans M3
 rw [l2]
 generalize B2++[s2a.blks.length]=B3 at R3 X3 o3q o3p okf3 okx3 B3p B3q M13 M3
 rw [bal] at o3q
 generalize Zbr (21,0,0,0,[x,(p:Int)],0,()) s2a=s3 at R3 X3 o3q o3p okf3 okx3 l3 k3 b3 w3 w3p w3q M13 M3 ⊢
 have b3l:s3.blks.length=c+1:=by rw [b3,bal]
 have R4:Rg { s3 with known:=s3.known++[(p:Int),((p+1:Nat):Int)] } B3 (G++g):=R3.kno (fun z hz=>by
  rw [b3l]
  simp only [List.mem_cons,List.not_mem_nil,or_false] at hz
  rcases hz with rfl | rfl
  ·exact o3p
  ·exact o3q)
 obtain⟨s4,hs4⟩:∃ s4:Us,{ s3 with known:=s3.known++[(p:Int),((p+1:Nat):Int)] }=s4:=⟨_,rfl⟩
 have v4:s4.vals=s3.vals:=by rw [← hs4]
 have t4:s4.sts=s3.sts:=by rw [← hs4]
 have b4:s4.blks=s3.blks:=by rw [← hs4]
 rw [hs4] at R4 ⊢
 have b4l:s4.blks.length=c+1:=by rw [b4,b3l]
 have k4:s4.known=s.known++[(p:Int),((p+1:Nat):Int)]:=by rw [← hs4];show s3.known++_=_;rw [k3,ka,k2,k1]
 have M14:Mo s.vals s.sts B (G++g) s4.vals s4.sts B3 (G++g):=by rw [v4,t4];exact M13
 rw [← v4] at o3p o3q okf3 okx3 w3p w3q l3
 obtain⟨R5,X5,i5,l5,z5,v5,kn5,_⟩:=R4.state (ops:=ops)
 generalize (Zah ops s4).2=st at i5 ⊢
 generalize (Zah ops s4).1=t5 at R5 X5 l5 z5 v5 kn5 ⊢
 have P6:Zod t5 B3 (G++g) (23,0,0,0,[],st,()):=Zp2 (k:=s4.sts.length) (Or.inr rfl) (fun e=>by omega) (by omega) i5 (fun z hz=>Zfl (z5 z hz) R4.lb R4.gl X5)
 obtain⟨R6,X6⟩:=R5.put P6
 have X46:=X5.trans X6
 generalize B3++[t5.blks.length]=B6 at R6 X46
 generalize Zbr (23,0,0,0,[],st,()) t5=t6 at R6 X46 ⊢
 have b6l:t6.blks.length=c+1:=by rw [X46.bs,b4l]
 have P7:Zod t6 B6 (G++g) (2,0,0,1,[],0,()):=Zfr rfl ⟨by omega,by omega,by omega,by omega⟩ (fun e=>by omega) (fun e=>by rcases e with e | e <;> cases e) (fun e=>by cases e)
 obtain⟨R7,X7⟩:=R6.put P7
 have o7:=Zvt (d:=(2,0,0,1,[],0,())) R6 (by rw [b6l,d1];simp) rfl
 have X47:=X46.trans X7
 generalize B6++[t6.blks.length]=B7 at R7 X47 o7
 rw [b6l] at o7
 generalize Zbr (2,0,0,1,[],0,()) t6=t7 at R7 X47 o7 ⊢
 have b7l:t7.blks.length=c+1:=by rw [X47.bs,b4l]
 have M47:=(X47.ek R4.lb (G++g)).mo
 have o7p:=o3p.mono M47 (Nat.le_refl _) (by omega) M47.vl
 have P8:Zod t7 B7 (G++g) (4,(p:Int),(t6.vals.length:Nat),0,[],0,()):=Zfr rfl ⟨by omega,by omega,by omega,by omega⟩ (fun e=>by omega) (fun _=>by unfold okC;rw [b7l];exact o7p) (fun _=>by unfold okC;rw [b7l];exact o7)
 obtain⟨R8,X8⟩:=R7.knp P8 (by rw [b7l,d1];simp) rfl
 have k8m:((t7.vals.length:Nat):Int)∈(knP (4,(p:Int),(t6.vals.length:Nat),0,[],0,()) t7).known:=by show _∈t7.known++[_];simp
 have X48:=X47.trans X8
 generalize B7++[t7.blks.length]=B8 at R8 X48
 generalize ht7:((t7.vals.length:Nat):Int)=less at k8m ⊢
 generalize knP (4,(p:Int),(t6.vals.length:Nat),0,[],0,()) t7=t8 at R8 X48 k8m ⊢
 have b8:=X48.bs
 have b8l:t8.blks.length=c+1:=by rw [b8,b4l]
 have M48:=(X48.ek R4.lb (G++g)).mo
 have o8p:=o3p.mono M48 (Nat.le_refl _) (by omega) M48.vl
 have o8f:=okf3.mono M48 (Nat.le_refl _) (by omega) M48.vl
 have o8x:=okx3.mono M48 (Nat.le_refl _) (by omega) M48.vl
 have o8l:=R8.kn _ k8m
 rw [b8l] at o8l
 have w8p:(vAt t8.vals p).1=21:=by rw [(M48.vo p (by omega)).1];exact w3p
 have w8q:(vAt t8.vals (p+1)).1=21:=by rw [(M48.vo (p+1) (by omega)).1];exact w3q
 have B8p:B8.getD p 0=c+1:=by rw [M48.bo p (by omega)];exact B3p
 have B8q:B8.getD (p+1) 0=c+1:=by rw [M48.bo (p+1) (by omega)];exact B3q
 have l8:p+2≤t8.vals.length:=by have:=M48.vl;omega
 obtain⟨L8,hL8⟩:=X48.kn
 have kne8:t8.known≠[]:=R8.kne
 have R9:Rg (bpP [(c:Int)+1] (Zb1 2 (p:Int) [(c:Int)+2,(c:Int)+3] 0 t8)) B8 (G++g):=by
  refine R8.end (by omega) (fun z hz=>?_) (Or.inr (Or.inl ⟨rfl,rfl,?_⟩)) (by rw [b8l];exact p2)
  ·have:=R8.kn z hz
   rw [b8l] at this ⊢
   exact this.sub s12
  ·show OkS t8.vals B8 (G++g) t8.blks.length t8.vals.length (p:Int)
   rw [b8l];exact o8p
 have e8:(Zb1 2 (p:Int) [(c:Int)+2,(c:Int)+3] 0 t8).known=t8.known:=rfl
 rw [e8]
 obtain⟨t9,ht9⟩:∃ t9,bpP [(c:Int)+1] (Zb1 2 (p:Int) [(c:Int)+2,(c:Int)+3] 0 t8)=t9:=⟨_,rfl⟩
 have b9:t9.blks=t8.blks++[(t8.bv,2,(p:Int),[(c:Int)+2,(c:Int)+3],t8.bp,0,())]:=by rw [← ht9];rfl
 have b9l:t9.blks.length=c+2:=by rw [b9,List.length_append,b8l];rfl
 have v9:t9.vals=t8.vals:=by rw [← ht9];rfl
 have t9s:t9.sts=t8.sts:=by rw [← ht9];rfl
 have k9:t9.known=t8.known:=by rw [← ht9];rfl
 rw [ht9] at R9 ⊢
 obtain⟨B10,R10,X10⟩:=Zls (ops:=ops) R9 (by rw [b9l,d2];simp)
 generalize Zf8 ops t9=t10 at R10 X10 ⊢
 have K10:=X10.ek R9.lb (G++g)
 have M10:=K10.mo
 rw [v9,t9s] at M10
 have b10l:t10.blks.length=c+2:=by rw [X10.bs,b9l]
 have o10f:=o8f.mono M10 (Nat.le_refl _) (by omega) M10.vl
 have o10x:=o8x.mono M10 (Nat.le_refl _) (by omega) M10.vl
 have o10l:=(o8l.sub s12).mono M10 (Nat.le_refl _) (by omega) M10.vl
 have w10p:(vAt t10.vals p).1=21:=by rw [(M10.vo p (by omega)).1];exact w8p
 have w10q:(vAt t10.vals (p+1)).1=21:=by rw [(M10.vo (p+1) (by omega)).1];exact w8q
 have B10p:B10.getD p 0=c+1:=by rw [M10.bo p (by omega)];exact B8p
 have B10q:B10.getD (p+1) 0=c+1:=by rw [M10.bo (p+1) (by omega)];exact B8q
 have l10:p+2≤t10.vals.length:=by have:=M10.vl;omega
 have two:∀ {t:Us} {y z:Int} {v:Nat},Rg t B10 (G++g)→v < t.vals.length→(vAt t.vals v).1=21→B10.getD v 0=c+1→OkS t.vals B10 (G++g) c t.vals.length y→OkS t.vals B10 (G++g) (c+2) t.vals.length z→Rg (Zbh v [y,z] t) B10 (G++g)∧Ek t B10 (G++g) (Zbh v [y,z] t) B10:=by
  intro t y z v hR hv h21 hB hy hz
  refine hR.sets hv h21 (by rw [hB,← p1];rfl) (fun j hj=>?_)
  rw [hB,← p1]
  have hj:j < 2:=hj
  have:j=0∨j=1:=by omega
  rcases this with rfl | rfl
  ·exact⟨c,rfl,by omega,hy⟩
  ·exact⟨c+2,by show (c:Int)+2=_;omega,by omega,hz⟩
 rw [Int.toNat_natCast,Int.toNat_natCast]
 obtain⟨R11,K11⟩:=two R10 (by omega) w10p B10p o10f o10l
 generalize Zbh p [f,less] t10=t11 at R11 K11 ⊢
 have E11:Rg (Zat ops 3 t11).1 B10 (G++g)∧Ek t10 B10 (G++g) (Zat ops 3 t11).1 B10:=⟨R11.next 3,K11.trans ((Zd8 3).ek R11.lb _)⟩
 have E13:Rg (if (Zat ops 3 t11).2=0 then Zbh p [f,Zc5 (Zat ops 3 t11).1] (Zat ops 3 t11).1 else (Zat ops 3 t11).1) B10 (G++g)∧Ek t10 B10 (G++g) (if (Zat ops 3 t11).2=0 then Zbh p [f,Zc5 (Zat ops 3 t11).1] (Zat ops 3 t11).1 else (Zat ops 3 t11).1) B10:=by
  obtain⟨r,K⟩:=E11
  generalize (Zat ops 3 t11).1=t12 at r K ⊢
  split
  ·have hl:=r.last
   rw [K.bs,b10l] at hl
   obtain⟨r2,K2⟩:=two r (show p < t12.vals.length by have:=K.mo.vl;omega) (by rw [(K.mo.vo p (by omega)).1];exact w10p) B10p (o10f.mono K.mo (Nat.le_refl _) (by omega) K.mo.vl) hl
   exact⟨r2,K.trans K2⟩
  ·exact⟨r,K⟩
 generalize (if (Zat ops 3 t11).2=0 then Zbh p [f,Zc5 (Zat ops 3 t11).1] (Zat ops 3 t11).1 else (Zat ops 3 t11).1)=t13 at E13 ⊢
 obtain⟨R13,K13⟩:=E13
 unfold Zn8
 have hl13:=R13.last
 rw [K13.bs,b10l] at hl13
 obtain⟨R14,K14⟩:=two R13 (show p+1 < t13.vals.length by have:=K13.mo.vl;omega) (by rw [(K13.mo.vo (p+1) (by omega)).1];exact w10q) B10q (o10x.mono K13.mo (Nat.le_refl _) (by omega) K13.mo.vl) hl13
 generalize Zbh (p+1) [x,Zc5 t13] t13=t14 at R14 K14 ⊢
 have K94:=(K10.trans K13).trans K14
 obtain⟨L,hL⟩:=K94.kn
 rw [k9] at hL
 obtain⟨R15,k15⟩:=R14.cut hL kne8
 have M94:=K94.mo
 rw [v9,t9s] at M94
 have b14l:t14.blks.length=c+2:=by rw [K94.bs,b9l]
 have R16:Rg (bpP [(c:Int)+1] (Zb1 1 0 [(c:Int)+1] 0 (Zgy t8.known.length t14))) B10 (G++g):=by
  refine R15.end (by show t14.blks.length+1 < (G++g).length;rw [b14l,hGl];exact Nat.lt_succ_self _) (fun z hz=>?_) (Or.inl ⟨rfl,rfl⟩) (by show _=Gp (G++g) (t14.blks.length+1);rw [b14l];exact p3)
  rw [k15] at hz
  show OkS t14.vals B10 (G++g) (t14.blks.length+1) t14.vals.length z
  rw [b14l]
  have h1:=R8.kn z hz
  rw [b8l] at h1
  exact (h1.sub s13).mono M94 (Nat.le_refl _) (by omega) M94.vl
 obtain⟨t16,ht16⟩:∃ t16,bpP [(c:Int)+1] (Zb1 1 0 [(c:Int)+1] 0 (Zgy t8.known.length t14))=t16:=⟨_,rfl⟩
 have b16:t16.blks=t14.blks++[(t14.bv,1,0,[(c:Int)+1],t14.bp,0,())]:=by rw [← ht16];rfl
 have b16l:t16.blks.length=c+3:=by rw [b16,List.length_append,b14l];rfl
 have v16:t16.vals=t14.vals:=by rw [← ht16];rfl
 have t16s:t16.sts=t14.sts:=by rw [← ht16];rfl
 rw [ht16] at R16 ⊢
 obtain⟨B17,R17,X17⟩:=Zls (ops:=ops) R16 (by rw [b16l,d3];simp)
 have M17:=(X17.ek R16.lb (G++g)).mo
 rw [v16,t16s] at M17
 have hb4:s4.blks=s.blks++[(s.bv,1,0,[(c:Int)+1],s.bp,0,())]:=by rw [b4,b3,ba,b2,b1]
 exact⟨B17,G++g,Zxn h hc hg hgk R17 (by rw [X17.bs,b16,K94.bs,b9,b8,hb4,List.append_assoc,List.append_assoc];rfl) (((M14.trans M48).trans M94).trans M17)⟩
end Go.Proofs.YtlogdohlcdhepaaDoor.base
end
