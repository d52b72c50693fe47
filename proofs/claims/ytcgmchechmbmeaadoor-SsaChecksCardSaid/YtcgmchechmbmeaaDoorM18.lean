/- This text proves that loops of turnstonehand.Unit keep what is told in EdD, in Zrh Lean. No condition but what the theorems themselves say. -/
import Derived.Test.YtcgmchechmbmeaaDoorM17
set_option linter.unusedVariables false
set_option linter.unusedSimpArgs false
section
set_option maxRecDepth 100000
namespace Go.Proofs.YtcgmchechmbmeaaDoor.base
open Go.Sh gen
variable {s s':Us}{B B':List Nat}{G:Gt}{ops:List Int}
theorem Z4c (vals:List Zb.D)(p:Nat)(d:Zb.D){n:Nat}(hn:n < vals.length):vAt (vals.set p d) n=if p=n then d else vAt vals n:=by
 unfold vAt
 rw [List.getD_eq_getElem?_getD,List.getElem?_set]
 split
 ·rename_i e;subst e;rw [if_pos hn];rfl
 ·rw [List.getD_eq_getElem?_getD]
theorem Z5 (vals:List Zb.D){n:Nat}(hn:n < vals.length):vAt vals n=vals[n]:=by
 unfold vAt;rw [List.getD_eq_getElem?_getD,List.getElem?_eq_getElem hn];rfl
theorem Rg.sets (h:Rg s B G){p:Nat}(hp:p < s.vals.length)(h21:(vAt s.vals p).1=21){l:List Int}(hl:l.length=(Gp G (B.getD p 0)).length)(hq:∀ j < l.length,∃ q:Nat,(Gp G (B.getD p 0)).getD j 0=q∧q < G.length∧OkS s.vals B G q s.vals.length (l.getD j 0)):Rg (Za8 p l s) B G∧Ek s B G (Za8 p l s) B:=by
 have es:Za8 p l s={ s with vals:=s.vals.set p (Zrr s.vals[p] l) }:=by unfold Za8;rw [dif_pos hp]
 obtain⟨V,hV⟩:∃ V,s.vals.set p (Zrr s.vals[p] l)=V:=⟨_,rfl⟩
 have el:V.length=s.vals.length:=by rw [← hV];simp
 have ev:∀ n < s.vals.length,vAt V n=if p=n then Zrr s.vals[p] l else vAt s.vals n:=fun n hn=>by rw [← hV];exact Z4c _ _ _ hn
 have k:Mo s.vals s.sts B G V s.sts B G:=by
  refine⟨by omega,fun n hn=>?_,fun n _=>rfl,Nat.le_refl _,fun n _=>rfl,Nat.le_refl _,fun i _=>rfl⟩
  rw [ev n hn]
  split
  ·rename_i e;subst e;rw [Z5 _ hp];exact⟨rfl,rfl⟩
  ·exact⟨rfl,rfl⟩
 rw [es,hV]
 have eo:∀ n < s.vals.length,(vAt V n).1=(vAt s.vals n).1:=fun n hn=>(k.vo n hn).1
 refine⟨⟨by show B.length=V.length;rw [el];exact h.lb,h.gl,fun v hv=>h.bb v (by rw [← el];exact hv),h.bv,h.bl,h.pb,h.bp,fun v hv=>?_,fun z hz=>(h.kn z hz).mono k (Nat.le_refl _) h.gl k.vl,h.kne,fun v w hvw hw hB hh=>?_,fun v hv h1=>?_,fun v hv h2=>?_,fun i hi=>k.sf (h.sf i hi),fun i hi=>(h.en i hi).mono k (Nat.lt_trans hi h.gl),fun i=>?_⟩,⟨rfl,⟨[],by simp⟩,k⟩⟩
 ·have hv:v < V.length:=hv
  rw [el] at hv
  show VS V s.sts B G v
  by_cases e:p=v
  ·subst e
   have e1:vAt V p=Zrr s.vals[p] l:=by rw [ev p hp,if_pos rfl]
   have e2:(vAt V p).1=21:=by rw [eo p hp];exact h21
   have e3:Zd3 (vAt V p)=l:=by rw [e1];rfl
   refine⟨by rw [e2];rfl,fun _=>?_,fun h0=>absurd e2 h0,fun h0=>(by rw [e2] at h0;cases h0),fun h0=>(by rw [e2] at h0;cases h0),fun h0=>(by rw [e2] at h0;cases h0)⟩
   rw [e3]
   refine⟨hl,fun j hj=>?_⟩
   obtain⟨q,g1,g2,g3⟩:=hq j hj
   exact⟨q,g1,g2,g3.mono k (Nat.le_refl _) g2 k.vl⟩
  ·exact (h.va v hv).mono k hv (by have:=h.bb v hv;have:=h.gl;omega) (by rw [ev v hv,if_neg e])
 ·have hw:w < V.length:=hw
  rw [el] at hw
  have hh:Zaw (vAt V w).1=true:=hh
  show Zaw (vAt V v).1=true
  rw [eo w hw] at hh
  rw [eo v (by omega)]
  exact h.hd v w hvw hw hB hh
 ·have hv:v < V.length:=hv
  rw [el] at hv
  have h1:(vAt V v).1=1:=h1
  rw [eo v hv] at h1
  exact h.h1 v hv h1
 ·have hv:v < V.length:=hv
  rw [el] at hv
  have h2:(vAt V v).1=21:=h2
  rw [eo v hv] at h2
  exact h.h2 v hv h2
 ·show hdN V B i≤4
  have:hdN V B i=hdN s.vals B i:=by
   unfold hdN
   congr 1
   apply List.filter_congr
   intro v hv
   rw [List.mem_range,h.lb] at hv
   rw [eo v hv]
  rw [this];exact h.hn i
theorem Z52 (hk:s.known≠[]):(Zbc ops s).2∈s.known:=by
 have hk:0 < s.known.length:=List.length_pos_iff.2 hk
 have hl:=Zcg (ops:=ops) (s:=s) (k:=(s.known.length:Nat)) (by omega)
 unfold Zbc
 dsimp only
 exact Za4 (by omega)
theorem Zvr (h:Ld s B G){c:Nat}(hc:s.blks.length=c){g:Gt}(hg:g=[((c+1)::Gd G c,[(c:Int),(c:Int)+2]),((c+2)::(c+1)::Gd G c,[(c:Int)+1]),((c+3)::(c+1)::Gd G c,[(c:Int)+1])])(hgk:GOk (G++g)){p:Int}{x1 x2 x3 y1 y2 y3:List Int}
  (R:Rg s' B' (G++g)) (hb:s'.blks=s.blks++[(x1,1,0,[(c:Int)+1],y1,0,()),(x2,2,p,[(c:Int)+2,(c:Int)+3],y2,0,()),(x3,1,0,[(c:Int)+1],y3,0,())]) (mo:Mo s.vals s.sts B (G++g) s'.vals s'.sts B' (G++g)):Ld s' B' (G++g):=by
 have gl2:g.length=3:=by rw [hg];rfl
 refine h.close R hb gl2 hgk mo ?_ ?_ ?_ ?_
 ·intro x hx t ht
  rw [hc]
  simp only [List.mem_cons,List.not_mem_nil,or_false] at hx
  rcases hx with rfl | rfl | rfl
  all_goals
   simp only [nxB,List.mem_cons,List.not_mem_nil,or_false] at ht
   simp only [List.length_cons,List.length_nil]
   omega
 ·intro j hj
  rw [gl2] at hj
  rw [hc,hg]
  simp only [Znm,nxB,Ztr _ _ _ (show (c:Int)+2≠(c:Int)+3 by omega),Zx1,List.append_nil]
  have:j=0∨j=1∨j=2:=by omega
  rcases this with rfl | rfl | rfl
  ·rw [if_pos (by omega),if_neg (by omega),if_neg (by omega)];rfl
  ·rw [if_neg (by omega),if_pos (by omega)];rfl
  ·rw [if_neg (by omega),if_neg (by omega),if_pos (by omega)];rfl
 ·intro x hx h2 t ht
  rw [hc,gl2,hg]
  simp only [List.mem_cons,List.not_mem_nil,or_false] at hx
  rcases hx with rfl | rfl | rfl
  ·cases h2
  ·simp only [nxB,List.mem_cons,List.not_mem_nil,or_false] at ht
   rcases ht with rfl | rfl
   ·exact⟨1,by omega,by omega,rfl⟩
   ·exact⟨2,by omega,by omega,rfl⟩
  ·cases h2
 ·intro j hj a ha
  rw [gl2] at hj
  rw [hc] at ha
  rw [hg]
  have:j=0∨j=1∨j=2:=by omega
  rcases this with rfl | rfl | rfl
  ·exact List.mem_cons_of_mem _ ha
  ·exact List.mem_cons_of_mem _ (List.mem_cons_of_mem _ ha)
  ·exact List.mem_cons_of_mem _ (List.mem_cons_of_mem _ ha)
set_option maxHeartbeats 1000000 in
theorem Z38 (h:Ld s B G):∃ B' G',Ld (Zlt ops s) B' G':=by
 obtain⟨c,hc⟩:∃ c,s.blks.length=c:=⟨_,rfl⟩
 have hgl:=h.gl
 obtain⟨g,hg⟩:∃ g:Gt,g=[((c+1)::Gd G c,[(c:Int),(c:Int)+2]),((c+2)::(c+1)::Gd G c,[(c:Int)+1]),((c+3)::(c+1)::Gd G c,[(c:Int)+1])]:=⟨_,rfl⟩
 have gl2:g.length=3:=by rw [hg];rfl
 have n1:(G++g).getD (c+1) ([],[])=((c+1)::Gd G c,[(c:Int),(c:Int)+2]):=by
  rw [show c+1=G.length+0 by omega,Zk0 (by omega),hg];rw [show G.length+0=c+1 by omega];rfl
 have n2:(G++g).getD (c+2) ([],[])=((c+2)::(c+1)::Gd G c,[(c:Int)+1]):=by
  rw [show c+2=G.length+1 by omega,Zk0 (by omega),hg];rw [show G.length+1=c+2 by omega];rfl
 have n3:(G++g).getD (c+3) ([],[])=((c+3)::(c+1)::Gd G c,[(c:Int)+1]):=by
  rw [show c+3=G.length+2 by omega,Zk0 (by omega),hg];rw [show G.length+2=c+3 by omega];rfl
 have d3:Gd (G++g) (c+3)=(c+3)::(c+1)::Gd G c:=by unfold Gd;rw [n3]
 have p3:[(c:Int)+1]=Gp (G++g) (c+3):=by unfold Gp;rw [n3]
 have d1:Gd (G++g) (c+1)=(c+1)::Gd G c:=by unfold Gd;rw [n1]
 have d2:Gd (G++g) (c+2)=(c+2)::(c+1)::Gd G c:=by unfold Gd;rw [n2]
 have d0:Gd (G++g) c=Gd G c:=Zhm (by omega)
 have p1:[(c:Int),(c:Int)+2]=Gp (G++g) (c+1):=by unfold Gp;rw [n1]
 have p2:[(c:Int)+1]=Gp (G++g) (c+2):=by unfold Gp;rw [n2]
 have hgk:GOk (G++g):=by
  refine h.g.ext fun j hj=>?_
  rw [gl2] at hj ⊢
  have:j=0∨j=1∨j=2:=by omega
  have hin:∀ x∈Gd G c,x∈Gd (G++g) (c+1):=fun x hx=>by rw [d1];exact List.mem_cons_of_mem _ hx
  rcases this with rfl | rfl | rfl
  ·refine⟨fun p hp=>?_,⟨c,by omega,by rw [hg];simp⟩,by rw [hg];simp;omega⟩
   rw [hg] at hp
   have hp:p∈[(c:Int),(c:Int)+2]:=hp
   have ha3:∀ a∈(g.getD 0 ([],[])).1,a=G.length+0∨a∈Gd G c:=fun a ha=>by
    rw [hg] at ha
    rcases List.mem_cons.1 ha with rfl | ha
    ·exact Or.inl (by omega)
    ·exact Or.inr ha
   simp only [List.mem_cons,List.not_mem_nil,or_false] at hp
   rcases hp with rfl | rfl
   ·exact⟨c,rfl,by omega,fun a ha=>(ha3 a ha).imp id (fun h=>by rw [d0];exact h)⟩
   ·exact⟨c+2,by omega,by omega,fun a ha=>(ha3 a ha).imp id (fun h=>by rw [d2];exact List.mem_cons_of_mem _ (List.mem_cons_of_mem _ h))⟩
  ·refine⟨fun p hp=>?_,⟨c+1,by omega,by rw [hg];simp⟩,by rw [hg];simp;omega⟩
   rw [hg] at hp
   have hp:p∈[(c:Int)+1]:=hp
   rw [List.mem_singleton] at hp
   refine⟨c+1,by omega,by omega,fun a ha=>?_⟩
   rw [hg] at ha
   rcases List.mem_cons.1 ha with rfl | ha
   ·exact Or.inl (by omega)
   ·exact Or.inr (by rw [d1];exact ha)
  ·refine⟨fun p hp=>?_,⟨c+1,by omega,by rw [hg];simp⟩,by rw [hg];simp;omega⟩
   rw [hg] at hp
   have hp:p∈[(c:Int)+1]:=hp
   rw [List.mem_singleton] at hp
   refine⟨c+1,by omega,by omega,fun a ha=>?_⟩
   rw [hg] at ha
   rcases List.mem_cons.1 ha with rfl | ha
   ·exact Or.inl (by omega)
   ·exact Or.inr (by rw [d1];exact ha)
 have hGl:(G++g).length=c+4:=by rw [List.length_append,gl2];omega
 have s12:∀ x∈Gd (G++g) (c+1),x∈Gd (G++g) (c+2):=fun x hx=>by rw [d2,← d1];exact List.mem_cons_of_mem _ hx
 have s13:∀ x∈Gd (G++g) (c+1),x∈Gd (G++g) (c+3):=fun x hx=>by rw [d3,← d1];exact List.mem_cons_of_mem _ hx
 have R0:=h.r.ext g
 have okc:=R0.ok (ops:=ops)
 have Ra:=R0.any (ops:=ops)
 have v02:OkS s.vals B (G++g) (c+2) s.vals.length 0:=Zij (h.v0 c (by omega)) (by omega) (fun x hx=>by rw [d2];exact List.mem_cons_of_mem _ (List.mem_cons_of_mem _ hx))
 have dn:∀ z∈s.known,∀ j,(∀ x∈Gd G c,x∈Gd (G++g) j)→OkS s.vals B (G++g) j s.vals.length z:=fun z hz j hj=>Zij (h.r.kn z hz) (by omega) (by rw [hc];exact hj)
 obtain⟨a,ea⟩:=Zm8 ops s
 unfold Zlt
 dsimp only
 rw [hc] at okc ⊢
 generalize (Zbc ops s).2=f at okc ⊢
 rw [ea] at Ra ⊢
 have R1:Rg (bpP [(c:Int),(c:Int)+2] (Zbp 1 0 [(c:Int)+1] 0 { s with at_:=a })) B (G++g):=by
  refine Ra.end (by show s.blks.length+1 < _;omega) (fun z hz=>?_) (Or.inl ⟨rfl,rfl⟩) (by show _=Gp (G++g) (s.blks.length+1);rw [hc];exact p1)
  show OkS s.vals B (G++g) (s.blks.length+1) s.vals.length z
  rw [hc]
  exact dn z hz _ (fun x hx=>by rw [d1];exact List.mem_cons_of_mem _ hx)
 obtain⟨s1,hs1⟩:∃ s1,bpP [(c:Int),(c:Int)+2] (Zbp 1 0 [(c:Int)+1] 0 { s with at_:=a })=s1:=⟨_,rfl⟩
 have b1:s1.blks=s.blks++[(s.bv,1,0,[(c:Int)+1],s.bp,0,())]:=by rw [← hs1];rfl
 have b1l:s1.blks.length=c+1:=by rw [b1,List.length_append,hc];rfl
 have v1:s1.vals=s.vals:=by rw [← hs1];rfl
 have t1:s1.sts=s.sts:=by rw [← hs1];rfl
 have k1:s1.known=s.known:=by rw [← hs1];rfl
 have n1':s1.bv=[]:=by rw [← hs1];rfl
 rw [hs1] at R1 ⊢
 rw [← v1] at okc v02
 have kno1:∀ z∈s1.known,OkS s1.vals B (G++g) c s1.vals.length z:=fun z hz=>by rw [v1];rw [k1] at hz;exact dn z hz c (fun x hx=>by rw [d0];exact hx)
 have P2:Znq s1 B (G++g) (21,0,0,0,[f,0],0,()):=by
  refine⟨rfl,fun h0=>absurd rfl h0,fun h0=>(by cases h0),fun h0=>(by cases h0),fun _=>⟨by omega,by rw [b1l,← p1];rfl,fun j hj=>?_⟩,fun h0=>(by cases h0),fun _ v hv hB=>absurd hB (R1.fresh n1' hv),fun _=>by rw [R1.hd0 n1'];exact Nat.zero_le _⟩
  rw [b1l,← p1]
  have hj:j < 2:=hj
  have:j=0∨j=1:=by omega
  rcases this with rfl | rfl
  ·exact⟨c,rfl,by omega,okc⟩
  ·exact⟨c+2,by show (c:Int)+2=_;omega,by omega,v02⟩
 obtain⟨R2,X2⟩:=R1.put P2
 have o2p:OkS (Zbi (21,0,0,0,[f,0],0,()) s1).vals (B++[s1.blks.length]) (G++g) s1.blks.length (Zbi (21,0,0,0,[f,0],0,()) s1).vals.length (s1.vals.length:Nat):=Zug R1 (by rw [b1l,d1];simp) rfl
 obtain⟨p,hp⟩:∃ p,s1.vals.length=p:=⟨_,rfl⟩
 have l2:(Zbi (21,0,0,0,[f,0],0,()) s1).vals.length=p+1:=by show (s1.vals++[_]).length=_;rw [List.length_append,hp];rfl
 have w2:vAt (Zbi (21,0,0,0,[f,0],0,()) s1).vals p=(21,0,0,0,[f,0],0,()):=by show vAt (s1.vals++[_]) p=_;rw [← hp,Zd8]
 have B2p:(B++[s1.blks.length]).getD p 0=c+1:=by rw [← hp,← R1.lb,Ze0,b1l]
 have fr2:∀ v < (Zbi (21,0,0,0,[f,0],0,()) s1).vals.length,(B++[s1.blks.length]).getD v 0=c+1→v=p:=by
  intro v hv hB
  rw [l2] at hv
  apply Decidable.byContradiction
  intro hne
  rw [Zcp _ _ _ (by rw [R1.lb];omega)] at hB
  exact R1.fresh n1' (show v < s1.vals.length by omega) (by rw [b1l];exact hB)
 have n2h:hdN (Zbi (21,0,0,0,[f,0],0,()) s1).vals (B++[s1.blks.length]) (c+1)≤1:=by
  show hdN (s1.vals++[(21,0,0,0,[f,0],0,())]) (B++[s1.blks.length]) (c+1)≤1
  rw [Zuc _ _ _ _ _ R1.lb,← b1l,R1.hd0 n1']
  split <;> omega
 have k2:(Zbi (21,0,0,0,[f,0],0,()) s1).known=s1.known:=rfl
 have b2:(Zbi (21,0,0,0,[f,0],0,()) s1).blks=s1.blks:=rfl
 have M2:=(X2.ek R1.lb (G++g)).mo
 generalize hB2:B++[s1.blks.length]=B2 at R2 X2 o2p B2p fr2 M2 n2h
 rw [hp] at o2p ⊢
 rw [b1l] at o2p
 generalize Zbi (21,0,0,0,[f,0],0,()) s1=s2 at R2 X2 o2p l2 w2 fr2 k2 b2 M2 n2h ⊢
 obtain⟨a2,ea2⟩:=Zm8 ops s2
 have hx:=Z52 (ops:=ops) R2.kne
 rw [k2] at hx
 have R2a:=R2.at a2
 have okx:=(kno1 _ hx).mono M2 (Nat.le_refl _) (by omega) M2.vl
 generalize (Zbc ops s2).2=x at okx hx ⊢
 rw [ea2]
 obtain⟨s2a,hs2a⟩:∃ s2a:Us,{ s2 with at_:=a2 }=s2a:=⟨_,rfl⟩
 have va:s2a.vals=s2.vals:=by rw [← hs2a]
 have ta:s2a.sts=s2.sts:=by rw [← hs2a]
 have ba:s2a.blks=s2.blks:=by rw [← hs2a]
 have ka:s2a.known=s2.known:=by rw [← hs2a]
 rw [hs2a] at R2a ⊢
 have bal:s2a.blks.length=c+1:=by rw [ba,b2,b1l]
 rw [← va] at okx o2p l2 w2 fr2
 have o2d:OkS s2a.vals B2 (G++g) (c+2) s2a.vals.length (p:Nat):=o2p.sub s12
 have n3:hdN s2a.vals B2 (c+1)≤3:=by rw [va];omega
 have P3:Znq s2a B2 (G++g) (21,0,0,0,[x,(p:Int)],0,()):=by
  refine⟨rfl,fun h0=>absurd rfl h0,fun h0=>(by cases h0),fun h0=>(by cases h0),fun _=>⟨by omega,by rw [bal,← p1];rfl,fun j hj=>?_⟩,fun h0=>(by cases h0),fun _ v hv hB=>?_,fun _=>by rw [bal];exact n3⟩
  ·rw [bal,← p1]
   have hj:j < 2:=hj
   have:j=0∨j=1:=by omega
   rcases this with rfl | rfl
   ·exact⟨c,rfl,by omega,okx⟩
   ·exact⟨c+2,by show (c:Int)+2=_;omega,by omega,o2d⟩
  ·rw [bal] at hB
   rw [fr2 v hv hB,w2];rfl
 obtain⟨R3,X3⟩:=R2a.put P3
 have o3q:OkS (Zbi (21,0,0,0,[x,(p:Int)],0,()) s2a).vals (B2++[s2a.blks.length]) (G++g) s2a.blks.length (Zbi (21,0,0,0,[x,(p:Int)],0,()) s2a).vals.length (s2a.vals.length:Nat):=Zug R2a (by rw [bal,d1];simp) rfl
 have M3:=(X3.ek R2a.lb (G++g)).mo
 have l3:(Zbi (21,0,0,0,[x,(p:Int)],0,()) s2a).vals.length=p+2:=by show (s2a.vals++[_]).length=_;rw [List.length_append,l2];rfl
 have w3:vAt (Zbi (21,0,0,0,[x,(p:Int)],0,()) s2a).vals (p+1)=(21,0,0,0,[x,(p:Int)],0,()):=by show vAt (s2a.vals++[_]) (p+1)=_;rw [← l2,Zd8]
 have B3q:(B2++[s2a.blks.length]).getD (p+1) 0=c+1:=by rw [← l2,← R2a.lb,Ze0,bal]
 have k3:(Zbi (21,0,0,0,[x,(p:Int)],0,()) s2a).known=s2a.known:=rfl
 have b3:(Zbi (21,0,0,0,[x,(p:Int)],0,()) s2a).blks=s2a.blks:=rfl
 rw [l2] at o3q
 have o3p:=o2p.mono M3 (Nat.le_refl _) (by omega) M3.vl
 have okf3:OkS (Zbi (21,0,0,0,[x,(p:Int)],0,()) s2a).vals (B2++[s2a.blks.length]) (G++g) c (Zbi (21,0,0,0,[x,(p:Int)],0,()) s2a).vals.length f:=by
  have h2:=okc.mono M2 (Nat.le_refl _) (by omega) M2.vl
  rw [← va] at h2
  exact h2.mono M3 (Nat.le_refl _) (by omega) M3.vl
 have okx3:=okx.mono M3 (Nat.le_refl _) (by omega) M3.vl
 have w3p:(vAt (Zbi (21,0,0,0,[x,(p:Int)],0,()) s2a).vals p).1=21:=by rw [(M3.vo p (by omega)).1,w2]
 have w3q:(vAt (Zbi (21,0,0,0,[x,(p:Int)],0,()) s2a).vals (p+1)).1=21:=by rw [w3]
 have B3p:(B2++[s2a.blks.length]).getD p 0=c+1:=by rw [M3.bo p (by omega)];exact B2p
 have M13:Mo s.vals s.sts B (G++g) (Zbi (21,0,0,0,[x,(p:Int)],0,()) s2a).vals (Zbi (21,0,0,0,[x,(p:Int)],0,()) s2a).sts (B2++[s2a.blks.length]) (G++g):=by
  rw [v1,t1] at M2
  rw [va,ta] at M3
  exact M2.trans M3
 rw [l2]
 generalize B2++[s2a.blks.length]=B3 at R3 X3 o3q o3p okf3 okx3 B3p B3q M13 M3
 rw [bal] at o3q
 generalize Zbi (21,0,0,0,[x,(p:Int)],0,()) s2a=s3 at R3 X3 o3q o3p okf3 okx3 l3 k3 b3 w3 w3p w3q M13 M3 ⊢
 have b3l:s3.blks.length=c+1:=by rw [b3,bal]
 have R4:Rg { s3 with known:=s3.known++[(p:Int),((p+1:Nat):Int)] } B3 (G++g):=R3.kno (fun z hz=>by
  rw [b3l]
  simp only [List.mem_cons,List.not_mem_nil,or_false] at hz
  rcases hz with rfl | rfl
  ·exact o3p
  ·exact o3q)
 obtain⟨s4,hs4⟩:∃ s4:Us,{ s3 with known:=s3.known++[(p:Int),((p+1:Nat):Int)] }=s4:=⟨_,rfl⟩
 have v4:s4.vals=s3.vals:=by rw [← hs4]
 have t4:s4.sts=s3.sts:=by rw [← hs4]
 have b4:s4.blks=s3.blks:=by rw [← hs4]
 rw [hs4] at R4 ⊢
 have b4l:s4.blks.length=c+1:=by rw [b4,b3l]
 have k4:s4.known=s.known++[(p:Int),((p+1:Nat):Int)]:=by rw [← hs4];show s3.known++_=_;rw [k3,ka,k2,k1]
 have M14:Mo s.vals s.sts B (G++g) s4.vals s4.sts B3 (G++g):=by rw [v4,t4];exact M13
 rw [← v4] at o3p o3q okf3 okx3 w3p w3q l3
 obtain⟨R5,X5,i5,l5,z5,v5,kn5,_⟩:=R4.state (ops:=ops)
 generalize (Zac ops s4).2=st at i5 ⊢
 generalize (Zac ops s4).1=t5 at R5 X5 l5 z5 v5 kn5 ⊢
 have P6:Znq t5 B3 (G++g) (23,0,0,0,[],st,()):=Zp9 (k:=s4.sts.length) (Or.inr rfl) (fun e=>by omega) (by omega) i5 (fun z hz=>Zfd (z5 z hz) R4.lb R4.gl X5)
 obtain⟨R6,X6⟩:=R5.put P6
 have X46:=X5.trans X6
 generalize B3++[t5.blks.length]=B6 at R6 X46
 generalize Zbi (23,0,0,0,[],st,()) t5=t6 at R6 X46 ⊢
 have b6l:t6.blks.length=c+1:=by rw [X46.bs,b4l]
 have P7:Znq t6 B6 (G++g) (2,0,0,1,[],0,()):=Zfg rfl ⟨by omega,by omega,by omega,by omega⟩ (fun e=>by omega) (fun e=>by rcases e with e | e <;> cases e) (fun e=>by cases e)
 obtain⟨R7,X7⟩:=R6.put P7
 have o7:=Zug (d:=(2,0,0,1,[],0,())) R6 (by rw [b6l,d1];simp) rfl
 have X47:=X46.trans X7
 generalize B6++[t6.blks.length]=B7 at R7 X47 o7
 rw [b6l] at o7
 generalize Zbi (2,0,0,1,[],0,()) t6=t7 at R7 X47 o7 ⊢
 have b7l:t7.blks.length=c+1:=by rw [X47.bs,b4l]
 have M47:=(X47.ek R4.lb (G++g)).mo
 have o7p:=o3p.mono M47 (Nat.le_refl _) (by omega) M47.vl
 have P8:Znq t7 B7 (G++g) (4,(p:Int),(t6.vals.length:Nat),0,[],0,()):=Zfg rfl ⟨by omega,by omega,by omega,by omega⟩ (fun e=>by omega) (fun _=>by unfold okC;rw [b7l];exact o7p) (fun _=>by unfold okC;rw [b7l];exact o7)
 obtain⟨R8,X8⟩:=R7.knp P8 (by rw [b7l,d1];simp) rfl
 have k8m:((t7.vals.length:Nat):Int)∈(knP (4,(p:Int),(t6.vals.length:Nat),0,[],0,()) t7).known:=by show _∈t7.known++[_];simp
 have X48:=X47.trans X8
 generalize B7++[t7.blks.length]=B8 at R8 X48
 generalize ht7:((t7.vals.length:Nat):Int)=less at k8m ⊢
 generalize knP (4,(p:Int),(t6.vals.length:Nat),0,[],0,()) t7=t8 at R8 X48 k8m ⊢
 have b8:=X48.bs
 have b8l:t8.blks.length=c+1:=by rw [b8,b4l]
 have M48:=(X48.ek R4.lb (G++g)).mo
 have o8p:=o3p.mono M48 (Nat.le_refl _) (by omega) M48.vl
 have o8f:=okf3.mono M48 (Nat.le_refl _) (by omega) M48.vl
 have o8x:=okx3.mono M48 (Nat.le_refl _) (by omega) M48.vl
 have o8l:=R8.kn _ k8m
 rw [b8l] at o8l
 have w8p:(vAt t8.vals p).1=21:=by rw [(M48.vo p (by omega)).1];exact w3p
 have w8q:(vAt t8.vals (p+1)).1=21:=by rw [(M48.vo (p+1) (by omega)).1];exact w3q
 have B8p:B8.getD p 0=c+1:=by rw [M48.bo p (by omega)];exact B3p
 have B8q:B8.getD (p+1) 0=c+1:=by rw [M48.bo (p+1) (by omega)];exact B3q
 have l8:p+2≤t8.vals.length:=by have:=M48.vl;omega
 obtain⟨L8,hL8⟩:=X48.kn
 have kne8:t8.known≠[]:=R8.kne
 have R9:Rg (bpP [(c:Int)+1] (Zbp 2 (p:Int) [(c:Int)+2,(c:Int)+3] 0 t8)) B8 (G++g):=by
  refine R8.end (by omega) (fun z hz=>?_) (Or.inr (Or.inl ⟨rfl,rfl,?_⟩)) (by rw [b8l];exact p2)
  ·have:=R8.kn z hz
   rw [b8l] at this ⊢
   exact this.sub s12
  ·show OkS t8.vals B8 (G++g) t8.blks.length t8.vals.length (p:Int)
   rw [b8l];exact o8p
 have e8:(Zbp 2 (p:Int) [(c:Int)+2,(c:Int)+3] 0 t8).known=t8.known:=rfl
 rw [e8]
 obtain⟨t9,ht9⟩:∃ t9,bpP [(c:Int)+1] (Zbp 2 (p:Int) [(c:Int)+2,(c:Int)+3] 0 t8)=t9:=⟨_,rfl⟩
 have b9:t9.blks=t8.blks++[(t8.bv,2,(p:Int),[(c:Int)+2,(c:Int)+3],t8.bp,0,())]:=by rw [← ht9];rfl
 have b9l:t9.blks.length=c+2:=by rw [b9,List.length_append,b8l];rfl
 have v9:t9.vals=t8.vals:=by rw [← ht9];rfl
 have t9s:t9.sts=t8.sts:=by rw [← ht9];rfl
 have k9:t9.known=t8.known:=by rw [← ht9];rfl
 rw [ht9] at R9 ⊢
 obtain⟨B10,R10,X10⟩:=Zln (ops:=ops) R9 (by rw [b9l,d2];simp)
 generalize Zf0 ops t9=t10 at R10 X10 ⊢
 have K10:=X10.ek R9.lb (G++g)
 have M10:=K10.mo
 rw [v9,t9s] at M10
 have b10l:t10.blks.length=c+2:=by rw [X10.bs,b9l]
 have o10f:=o8f.mono M10 (Nat.le_refl _) (by omega) M10.vl
 have o10x:=o8x.mono M10 (Nat.le_refl _) (by omega) M10.vl
 have o10l:=(o8l.sub s12).mono M10 (Nat.le_refl _) (by omega) M10.vl
 have w10p:(vAt t10.vals p).1=21:=by rw [(M10.vo p (by omega)).1];exact w8p
 have w10q:(vAt t10.vals (p+1)).1=21:=by rw [(M10.vo (p+1) (by omega)).1];exact w8q
 have B10p:B10.getD p 0=c+1:=by rw [M10.bo p (by omega)];exact B8p
 have B10q:B10.getD (p+1) 0=c+1:=by rw [M10.bo (p+1) (by omega)];exact B8q
 have l10:p+2≤t10.vals.length:=by have:=M10.vl;omega
 have two:∀ {t:Us} {y z:Int} {v:Nat},Rg t B10 (G++g)→v < t.vals.length→(vAt t.vals v).1=21→B10.getD v 0=c+1→OkS t.vals B10 (G++g) c t.vals.length y→OkS t.vals B10 (G++g) (c+2) t.vals.length z→Rg (Za8 v [y,z] t) B10 (G++g)∧Ek t B10 (G++g) (Za8 v [y,z] t) B10:=by
  intro t y z v hR hv h21 hB hy hz
  refine hR.sets hv h21 (by rw [hB,← p1];rfl) (fun j hj=>?_)
  rw [hB,← p1]
  have hj:j < 2:=hj
  have:j=0∨j=1:=by omega
  rcases this with rfl | rfl
  ·exact⟨c,rfl,by omega,hy⟩
  ·exact⟨c+2,by show (c:Int)+2=_;omega,by omega,hz⟩
 rw [Int.toNat_natCast,Int.toNat_natCast]
 obtain⟨R11,K11⟩:=two R10 (by omega) w10p B10p o10f o10l
 generalize Za8 p [f,less] t10=t11 at R11 K11 ⊢
 have E11:Rg (Zar ops 3 t11).1 B10 (G++g)∧Ek t10 B10 (G++g) (Zar ops 3 t11).1 B10:=⟨R11.next 3,K11.trans ((Zd0 3).ek R11.lb _)⟩
 have E13:Rg (if (Zar ops 3 t11).2=0 then Za8 p [f,Zcw (Zar ops 3 t11).1] (Zar ops 3 t11).1 else (Zar ops 3 t11).1) B10 (G++g)∧Ek t10 B10 (G++g) (if (Zar ops 3 t11).2=0 then Za8 p [f,Zcw (Zar ops 3 t11).1] (Zar ops 3 t11).1 else (Zar ops 3 t11).1) B10:=by
  obtain⟨r,K⟩:=E11
  generalize (Zar ops 3 t11).1=t12 at r K ⊢
  split
  ·have hl:=r.last
   rw [K.bs,b10l] at hl
   obtain⟨r2,K2⟩:=two r (show p < t12.vals.length by have:=K.mo.vl;omega) (by rw [(K.mo.vo p (by omega)).1];exact w10p) B10p (o10f.mono K.mo (Nat.le_refl _) (by omega) K.mo.vl) hl
   exact⟨r2,K.trans K2⟩
  ·exact⟨r,K⟩
 generalize (if (Zar ops 3 t11).2=0 then Za8 p [f,Zcw (Zar ops 3 t11).1] (Zar ops 3 t11).1 else (Zar ops 3 t11).1)=t13 at E13 ⊢
 obtain⟨R13,K13⟩:=E13
 unfold Znx
 have hl13:=R13.last
 rw [K13.bs,b10l] at hl13
 obtain⟨R14,K14⟩:=two R13 (show p+1 < t13.vals.length by have:=K13.mo.vl;omega) (by rw [(K13.mo.vo (p+1) (by omega)).1];exact w10q) B10q (o10x.mono K13.mo (Nat.le_refl _) (by omega) K13.mo.vl) hl13
 generalize Za8 (p+1) [x,Zcw t13] t13=t14 at R14 K14 ⊢
 have K94:=(K10.trans K13).trans K14
 obtain⟨L,hL⟩:=K94.kn
 rw [k9] at hL
 obtain⟨R15,k15⟩:=R14.cut hL kne8
 have M94:=K94.mo
 rw [v9,t9s] at M94
 have b14l:t14.blks.length=c+2:=by rw [K94.bs,b9l]
 have R16:Rg (bpP [(c:Int)+1] (Zbp 1 0 [(c:Int)+1] 0 (Zgs t8.known.length t14))) B10 (G++g):=by
  refine R15.end (by show t14.blks.length+1 < (G++g).length;rw [b14l,hGl];exact Nat.lt_succ_self _) (fun z hz=>?_) (Or.inl ⟨rfl,rfl⟩) (by show _=Gp (G++g) (t14.blks.length+1);rw [b14l];exact p3)
  rw [k15] at hz
  show OkS t14.vals B10 (G++g) (t14.blks.length+1) t14.vals.length z
  rw [b14l]
  have h1:=R8.kn z hz
  rw [b8l] at h1
  exact (h1.sub s13).mono M94 (Nat.le_refl _) (by omega) M94.vl
 obtain⟨t16,ht16⟩:∃ t16,bpP [(c:Int)+1] (Zbp 1 0 [(c:Int)+1] 0 (Zgs t8.known.length t14))=t16:=⟨_,rfl⟩
 have b16:t16.blks=t14.blks++[(t14.bv,1,0,[(c:Int)+1],t14.bp,0,())]:=by rw [← ht16];rfl
 have b16l:t16.blks.length=c+3:=by rw [b16,List.length_append,b14l];rfl
 have v16:t16.vals=t14.vals:=by rw [← ht16];rfl
 have t16s:t16.sts=t14.sts:=by rw [← ht16];rfl
 rw [ht16] at R16 ⊢
 obtain⟨B17,R17,X17⟩:=Zln (ops:=ops) R16 (by rw [b16l,d3];simp)
 have M17:=(X17.ek R16.lb (G++g)).mo
 rw [v16,t16s] at M17
 have hb4:s4.blks=s.blks++[(s.bv,1,0,[(c:Int)+1],s.bp,0,())]:=by rw [b4,b3,ba,b2,b1]
 exact⟨B17,G++g,Zvr h hc hg hgk R17 (by rw [X17.bs,b16,K94.bs,b9,b8,hb4,List.append_assoc,List.append_assoc];rfl) (((M14.trans M48).trans M94).trans M17)⟩
end Go.Proofs.YtcgmchechmbmeaaDoor.base
end
section
set_option maxRecDepth 100000
namespace Go.Proofs.YtcgmchechmbmeaaDoor.base
open Go.Sh gen
variable {s s':Us}{B B':List Nat}{G:Gt}{ops:List Int}
def G0:Gt:=[([0],[])]
def Z8v (v:Nat):Zb.D:=((1:Int),(0:Int),(0:Int),(v:Int),([]:List Int),(0:Int),())
theorem Zzp (k:Nat):(∀ v < k,vAt (Zba k).vals v=Z8v v)∧(Zba k).known=(List.range k).map Int.ofNat∧(Zba k).bv=(List.range k).map Int.ofNat∧(Zba k).bp=[]:=by
 induction k with
 | zero=>exact⟨fun v hv=>by omega,rfl,rfl,rfl⟩
 | succ k ih =>
  obtain⟨h1,h2,h3,h4⟩:=ih
  have hl:=(Ziv k).1
  have ev:(Zba (k+1)).vals=(Zba k).vals++[Z8v k]:=rfl
  refine⟨fun v hv=>?_,?_,?_,h4⟩
  ·rw [ev]
   by_cases e:v=k
   ·subst e
    have:=Zd8 (Zba v).vals (Z8v v)
    rw [hl] at this
    exact this
   ·rw [Zhv _ _ (by omega)];exact h1 v (by omega)
  ·show (Zba k).known++[((Zba k).vals.length:Int)]=_
   rw [h2,hl,List.range_succ,List.map_append];rfl
  ·show (Zba k).bv++[((Zba k).vals.length:Int)]=_
   rw [h3,hl,List.range_succ,List.map_append];rfl
theorem Zwm (n:Nat):Zf1 (List.replicate n 0) 0=(List.range n).map Int.ofNat:=by
 unfold Zf1
 rw [List.length_replicate]
 congr 1
 rw [List.filter_eq_self]
 intro v hv
 rw [List.mem_range] at hv
 rw [List.getD_eq_getElem?_getD,List.getElem?_replicate,if_pos hv];rfl
theorem Z1i (k:Nat)(hk:k≤4):Ld (knP (2,0,0,5,[],0,()) (Zba k)) (List.replicate (k+1) 0) G0:=by
 obtain⟨h1,h2,h3,h4⟩:=Zzp k
 obtain⟨l1,l2,l3,l4,l5,l6⟩:=Ziv k
 obtain⟨w,hw⟩:∃ w,knP (2,0,0,5,[],0,()) (Zba k)=w:=⟨_,rfl⟩
 have wv:w.vals=(Zba k).vals++[(2,0,0,5,[],0,())]:=by rw [← hw];rfl
 have wl:w.vals.length=k+1:=by rw [wv,List.length_append,l1];rfl
 have wb:w.blks=[]:=by rw [← hw];exact l4
 have ws:w.sts=[]:=by rw [← hw];exact l5
 have wk:w.known=(List.range (k+1)).map Int.ofNat:=by rw [← hw];show (Zba k).known++[((Zba k).vals.length:Int)]=_;rw [h2,l1,List.range_succ,List.map_append];rfl
 have wbv:w.bv=(List.range (k+1)).map Int.ofNat:=by rw [← hw];show (Zba k).bv++[((Zba k).vals.length:Int)]=_;rw [h3,l1,List.range_succ,List.map_append];rfl
 have wbp:w.bp=[]:=by rw [← hw];exact h4
 have wa:∀ v < k,vAt w.vals v=Z8v v:=fun v hv=>by rw [wv,Zhv _ _ (by omega)];exact h1 v hv
 have wc:vAt w.vals k=(2,0,0,5,[],0,()):=by
  rw [wv]
  have:=Zd8 (Zba k).vals (2,0,0,5,[],0,())
  rw [l1] at this
  exact this
 rw [hw]
 have bz:∀ v,(List.replicate (k+1) 0).getD v 0=0:=fun v=>by
  rw [List.getD_eq_getElem?_getD,List.getElem?_replicate];split <;> rfl
 have wo:∀ v < k+1,((vAt w.vals v).1=1∧v < k)∨((vAt w.vals v).1=2∧v=k):=fun v hv=>by
  by_cases e:v=k
  ·subst e;rw [wc];exact Or.inr ⟨rfl,rfl⟩
  ·rw [wa v (by omega)];exact Or.inl ⟨rfl,by omega⟩
 have wn:∀ v < k+1,noW (vAt w.vals v).1=false:=fun v hv=>by
  rcases wo v hv with⟨e,_⟩ | ⟨e,_⟩ <;> rw [e] <;> rfl
 have ok:∀ v < k+1,OkS w.vals (List.replicate (k+1) 0) G0 0 w.vals.length (v:Nat):=fun v hv=>⟨v,rfl,by omega,wn v hv,by rw [bz];simp [Gd,G0]⟩
 have hR:Rg w (List.replicate (k+1) 0) G0:=by
  refine⟨by rw [List.length_replicate,wl],by rw [wb];exact Nat.zero_lt_one,fun v _=>by rw [bz];omega,by rw [wbv,wb];exact (Zwm (k+1)).symm,fun i hi=>(by rw [wb] at hi;cases hi),fun i hi=>(by rw [wb] at hi;cases hi),by rw [wbp,wb];rfl,fun v hv=>?_,fun z hz=>?_,by rw [wk,List.range_succ];simp,fun v w' hvw hw' _ hh=>?_,fun v _ _=>bz v,fun v hv h21=>?_,fun i hi=>(by rw [ws] at hi;cases hi),fun i hi=>(by rw [wb] at hi;cases hi),fun i=>?_⟩
  ·rw [wl] at hv
   rcases wo v hv with⟨e,hvk⟩ | ⟨e,rfl⟩
   ·have ev:=wa v hvk
    refine⟨by rw [e];rfl,fun h=>(by rw [e] at h;cases h),fun _ z hz=>?_,fun h=>(by rw [e] at h;cases h),fun h=>(by rw [e] at h;cases h),fun _=>?_⟩
    ·rw [ev] at hz;cases hz
    ·rw [ev]
     refine⟨by show (0:Int)≤(v:Nat);omega,by show ((v:Nat):Int) < 40;omega,fun q hq=>?_⟩
     rw [wa q (by omega)]
     unfold Zji
     rw [Bool.and_eq_false_iff]
     refine Or.inr (decide_eq_false ?_)
     show ¬ ((q:Nat):Int)=(v:Nat)
     omega
   ·refine⟨by rw [e];rfl,fun h=>(by rw [e] at h;cases h),fun _ z hz=>?_,fun h=>(by rw [e] at h;cases h),fun h=>(by rw [e] at h;cases h),fun h=>(by rw [e] at h;cases h)⟩
    rw [wc] at hz;cases hz
  ·rw [wk,List.mem_map] at hz
   obtain⟨n,hn,rfl⟩:=hz
   rw [List.mem_range] at hn
   rw [wb]
   exact ok n hn
  ·rw [wl] at hw'
   rcases wo w' hw' with⟨e,_⟩ | ⟨e,_⟩
   ·rcases wo v (by omega) with⟨e2,_⟩ | ⟨_,e2⟩
    ·rw [e2];rfl
    ·omega
   ·rw [e] at hh;cases hh
  ·rw [wl] at hv
   rcases wo v hv with⟨e,_⟩ | ⟨e,_⟩ <;> rw [e] at h21 <;> cases h21
  ·unfold hdN
   rw [List.length_replicate,List.range_succ,List.filter_append,List.length_append]
   have h1:((List.range k).filter fun v=>decide ((List.replicate (k+1) 0).getD v 0=i) && Zaw (vAt w.vals v).1).length≤k:=by
    have:=List.length_filter_le (fun v=>decide ((List.replicate (k+1) 0).getD v 0=i) && Zaw (vAt w.vals v).1) (List.range k)
    rwa [List.length_range] at this
   have h2:([k].filter fun v=>decide ((List.replicate (k+1) 0).getD v 0=i) && Zaw (vAt w.vals v).1)=[]:=by
    rw [List.filter_eq_nil_iff]
    intro v hv
    rw [List.mem_singleton] at hv
    subst hv
    rw [wc]
    simp [Zaw]
   rw [h2]
   simp only [List.length_nil]
   omega
 refine⟨hR,by rw [wb];rfl,⟨Nat.zero_lt_one,rfl,rfl,fun b hb h0=>?_,fun b hb h0=>?_,fun b hb=>?_⟩,fun q hq=>?_,fun x hx=>(by rw [wb] at hx;cases hx),fun x hx=>(by rw [wb] at hx;cases hx),fun b hb=>?_⟩
 ·have:b < 1:=hb
  omega
 ·have:b < 1:=hb
  omega
 ·have:b < 1:=hb
  have:b=0:=by omega
  subst this
  simp [Gd,G0]
 ·rw [wb] at hq ⊢
  have:q=0:=by simpa using hq
  subst this
  rfl
 ·have:b < 1:=hb
  have:b=0:=by omega
  subst this
  exact ok 0 (by omega)
theorem Ld.row (h:Ld s B G):∃ B',Ld (Zf0 ops s) B' G:=by
 obtain⟨B',R,X⟩:=Zln (ops:=ops) h.r (h.g.s _ (by have:=h.gl;omega))
 have M:=(X.ek h.r.lb G).mo
 refine⟨B',R,by rw [X.bs];exact h.gl,h.g,by rw [X.bs];exact h.led,by rw [X.bs];exact h.nx,by rw [X.bs];exact h.one,fun b hb=>(h.v0 b hb).mono M (Nat.le_refl _) hb M.vl⟩
theorem Zqx:∀ (l:List Int) (k:Nat) {s:Us} {B:List Nat} {G:Gt},Ld s B G→∃ B' G',Ld (Zc6 ops l k s) B' G'
 | [],_,s,B,G,h=>⟨B,G,by rw [Zc6];exact h⟩
 | _::_,0,s,B,G,h=>⟨B,G,by rw [Zc6];exact h⟩
 | x::r,k+1,s,B,G,h=>by
  rw [Zc6]
  split
  ·have key:∃ B' G',Ld (if x % 3=0 then Zw0 ops s else if x % 3=1 then Zlt ops s else Zmt ops s) B' G':=by
    split
    ·exact Z8i h
    split
    ·exact Z38 h
    ·exact Z5l h
   obtain⟨B',G',h'⟩:=key
   exact Zqx r k h'
  ·exact⟨B,G,h⟩
theorem Zv4 {i:Nat}{k:Int}{L:List (List Int)}{j:Nat}(hj:j < L.length)(hk:0≤k):(Zcy i L k).getD j []=L.getD j []++(if k=(j:Int) then [(i:Int)] else []):=by
 unfold Zcy
 by_cases e:k=(j:Int)
 ·subst e
  rw [Int.toNat_natCast,Zc8 hj,if_pos rfl]
 ·rw [Zc5 (by omega),if_neg e,List.append_nil]
theorem Zvt {i j:Nat}(l:List Int){L:List (List Int)}(hj:j < L.length)(hk:∀ k∈l,(0:Int)≤k):(l.foldl (Zcy i) L).getD j []=L.getD j []++(l.filter fun t=>decide (t=(j:Int))).map (fun _=>(i:Int)):=by
 induction l generalizing L with
 | nil=>simp
 | cons k r ih =>
  rw [List.foldl_cons,ih (by unfold Zcy;rw [List.length_set];exact hj) (fun x hx=>hk x (by simp [hx])),Zv4 hj (hk k (by simp)),List.filter_cons,List.append_assoc]
  by_cases e:k=(j:Int)
  ·rw [if_pos e,if_pos (decide_eq_true e)];rfl
  ·rw [if_neg e,if_neg (by simpa using e)];rfl
theorem Zv1 {j:Nat}(bs:List Zcj.D):∀ (i:Nat) {L:List (List Int)},j < L.length→(∀ x∈bs,∀ t∈nxB x,(0:Int)≤t)→(Zc2 i bs L).getD j []=L.getD j []++Znm i bs (j:Int):=by
 induction bs with
 | nil=>intro i L _ _;simp [Zc2,Znm]
 | cons x r ih =>
  intro i L hj hk
  rw [Zc2,ih (i+1) (by rw [Zkl];exact hj) (fun y hy=>hk y (by simp [hy]))]
  have:=Zvt (i:=i) (nxB x) hj (hk x (by simp))
  rw [show List.foldl (Zcy i) L (show List Int from x.2.2.2.1)=List.foldl (Zcy i) L (nxB x) from rfl,this,List.append_assoc]
  rfl
theorem Z97 (h:Ld s B G)(hv:s.vals.length≤300)(hb:s.blks.length≤30)(hs:s.sts.length≤900):∃ D,UR (Zbp 3 0 [] (Zac ops s).2 (Zac ops s).1).un B D∧∀ i < nb (Zbp 3 0 [] (Zac ops s).2 (Zac ops s).1).un,(vlD (Zbp 3 0 [] (Zac ops s).2 (Zac ops s).1).un i).countP (fun v=>Zaw (Za0 (Zbp 3 0 [] (Zac ops s).2 (Zac ops s).1).un v).1)≤4:=by
 obtain⟨c,hc⟩:∃ c,s.blks.length=c:=⟨_,rfl⟩
 obtain⟨R,X,i5,l5,z5,v5,k5,b5⟩:=h.r.state (ops:=ops)
 have xb:=X.bs
 generalize (Zac ops s).2=st at i5 ⊢
 generalize (Zac ops s).1=t at R X l5 z5 v5 k5 b5 xb ⊢
 have hcl:t.blks.length=c:=by rw [xb,hc]
 have hgl:=h.gl
 have M:=(X.ek h.r.lb G).mo
 obtain⟨u,hu⟩:∃ u,(Zbp 3 0 [] st t).un=u:=⟨_,rfl⟩
 rw [hu]
 have ub:u.2.2.2.1=t.blks++[(t.bv,3,0,[],t.bp,st,())]:=by rw [← hu];rfl
 have uv:u.2.2.1=t.vals:=by rw [← hu];rfl
 have us:u.2.2.2.2.1=t.sts:=by rw [← hu];rfl
 have nbu:nb u=c+1:=by unfold nb;rw [ub,List.length_append,hcl];rfl
 have nvu:nv u=t.vals.length:=by unfold nv;rw [uv]
 have nsu:ns u=t.sts.length:=by unfold ns;rw [us]
 have ev:∀ v:Nat,Za0 u (v:Int)=vAt t.vals v:=fun v=>by unfold Za0;rw [Int.toNat_natCast];show List.getD u.2.2.1 v _=_;rw [uv];rfl
 have eb:∀ i,Zcl u i=bAt (t.blks++[(t.bv,3,0,[],t.bp,st,())]) i:=fun i=>by show List.getD u.2.2.2.1 i _=_;rw [ub];rfl
 have es:∀ i,stD u i=sAt t.sts i:=fun i=>by show (List.getD u.2.2.2.2.1 i _).1=_;rw [us];rfl
 have eo:∀ i < c,Zcl u i=bAt t.blks i:=fun i hi=>by rw [eb,Zpb _ _ (by omega)]
 have en:Zcl u c=(t.bv,3,0,[],t.bp,st,()):=by rw [eb,← hcl,Zpp]
 obtain⟨D,hD⟩:∃ D,G.map Prod.fst=D:=⟨_,rfl⟩
 have eD:∀ i,D.getD i []=Gd G i:=fun i=>by
  rw [← hD,List.getD_eq_getElem?_getD,List.getElem?_map]
  unfold Gd
  rw [List.getD_eq_getElem?_getD]
  cases G[i]? with
  | none=>rfl
  | some x=>rfl
 have ok:∀ {i w:Nat} {z:Int},OkS t.vals B G i w z→OkV u B D i w z:=fun {i w z} ⟨n,h1,h2,h3,h4⟩=>⟨n,h1,h2,by rw [ev];exact h3,by rw [eD];exact h4⟩
 have epr:∀ b < c+1,prD u b=Gp G b:=fun b hb=>by
  by_cases e:b < c
  ·show (Zcl u b).2.2.2.2.1=_
   rw [eo b e];exact R.pb b (by omega)
  ·have:b=c:=by omega
   subst this
   show (Zcl u b).2.2.2.2.1=_
   rw [en,← hcl];exact R.bp
 have enx:∀ x∈u.2.2.2.1,∀ t'∈nxB x,(0:Int)≤t'∧t'≤c:=fun x hx t' ht=>by
  rw [ub,List.mem_append] at hx
  rcases hx with hx | hx
  ·rw [xb] at hx;have:=h.nx x hx t' ht;omega
  ·rw [List.mem_singleton] at hx;subst hx;cases ht
 have eah:∀ b < c+1,(Zak u).getD b []=Gp G b:=fun b hb=>by
  unfold Zak
  rw [Zv1 _ 0 (by rw [List.length_replicate,nbu];exact hb) (fun x hx t' ht=>(enx x hx t' ht).1),ub,Zxz,xb,h.led b (by omega),List.getD_eq_getElem?_getD,List.getElem?_replicate,if_pos (by rw [nbu];exact hb)]
  simp [nxB]
 have evl:∀ i < c+1,vlD u i=Zf1 B i:=fun i hi=>by
  show (Zcl u i).1=_
  by_cases e:i < c
  ·rw [eo i e];exact R.bl i (by omega)
  ·have:i=c:=by omega
   subst this
   rw [en,← hcl];exact R.bv
 refine⟨D,⟨?_,by rw [nvu];exact R.lb,fun v hv'=>?_,fun i hi=>?_,fun v w hvw hw hB hh=>?_,fun v hv' h1=>?_,fun v hv' h2=>?_,fun b hb'=>?_,?_,fun b hb' hb0 p hp=>?_,fun a ha=>?_,fun b hb' hb0=>?_,fun i hi t' ht=>?_,fun i hi=>?_,fun v hv'=>?_,fun i hi=>?_⟩,fun i hi=>?_⟩
 ·unfold Zi1
  have e1:¬ 3000 < nv u:=by rw [nvu,v5];omega
  have e2:¬ 300 < nb u:=by rw [nbu];omega
  have e3:¬ 1000 < ns u:=by rw [nsu,l5];omega
  have e4:¬ nb u=0:=by rw [nbu];omega
  rw [decide_eq_false e1,decide_eq_false e2,decide_eq_false e3,decide_eq_false e4];rfl
 ·rw [nvu] at hv';rw [nbu]
  have:=R.bb v hv';omega
 ·rw [nbu] at hi
  exact evl i hi
 ·rw [nvu] at hw;rw [ev] at hh ⊢
  exact R.hd v w hvw hw hB hh
 ·rw [nvu] at hv';rw [ev] at h1;exact R.h1 v hv' h1
 ·rw [nvu] at hv';rw [ev] at h2;exact R.h2 v hv' h2
 ·rw [nbu] at hb';rw [eah b hb',epr b hb']
 ·rw [epr 0 (by omega)];exact h.g.p0
 ·rw [nbu] at hb' ⊢
  rw [epr b hb'] at hp
  obtain⟨q,e,hq,ha⟩:=h.g.pr b (by omega) hb0 p hp
  refine⟨q,e,by omega,fun a hA=>?_⟩
  rw [eD] at hA ⊢
  exact ha a hA
 ·rw [eD] at ha
  have ha:a∈Gd G 0:=ha
  rw [h.g.z,List.mem_singleton] at ha
  exact ha
 ·rw [nbu] at hb';rw [epr b hb']
  exact h.g.rc b (by omega) hb0
 ·rw [nbu] at hi ⊢
  have:=enx (Zcl u i) (Zfk (by rw [nbu];exact hi)) t' ht
  omega
 ·rw [nbu] at hi
  by_cases e:i < c
  ·have hE:=R.en i (by omega)
   have e2:=eo i e
   rcases hE with⟨h1,h2⟩ | ⟨h1,h2,h3⟩ | ⟨h1,h2,k,h3,h4,h5⟩
   ·exact Or.inl ⟨by rw [e2];exact h1,by show List.length (Zcl u i).2.2.2.1=1;rw [e2];exact h2⟩
   ·refine Or.inr (Or.inl ⟨by rw [e2];exact h1,by show List.length (Zcl u i).2.2.2.1=2;rw [e2];exact h2,fun t' ht=>?_,?_⟩)
    ·have ht:t'∈nxB (Zcl u i):=ht
     have hm:bAt t.blks i∈s.blks:=by
      rw [← xb]
      unfold bAt
      rw [List.getD_eq_getElem?_getD,List.getElem?_eq_getElem (show i < t.blks.length by omega)]
      exact List.getElem_mem _
     rw [e2] at ht
     have h6:=h.nx _ hm t' ht
     rw [epr _ (by omega)]
     exact h.one _ hm h1 t' ht
    ·rw [e2,nvu];exact ok h3
   ·refine Or.inr (Or.inr ⟨by rw [e2];exact h1,by show List.length (Zcl u i).2.2.2.1=0;rw [e2];exact h2,k,by rw [nsu];exact h3,by rw [e2];exact h4,fun z hz=>?_⟩)
    rw [es] at hz
    rw [nvu];exact ok (h5 z hz)
  ·have:i=c:=by omega
   subst this
   refine Or.inr (Or.inr ⟨by rw [en],by show List.length (Zcl u i).2.2.2.1=0;rw [en];rfl,s.sts.length,by rw [nsu];omega,by rw [en];exact i5,fun z hz=>?_⟩)
   rw [es] at hz
   have:=z5 z hz
   rw [hc] at this
   rw [nvu,v5]
   rw [← v5] at this ⊢
   exact ok this
 ·rw [nvu] at hv'
  have hV:=R.va v hv'
  have hbv:=R.bb v hv'
  refine⟨by rw [ev];exact hV.op,fun h0=>?_,fun h0 z hz=>?_,fun h0=>?_,fun h0=>?_,fun h0=>?_⟩
  ·rw [ev] at h0
   obtain⟨g1,g2⟩:=hV.ph h0
   have ea:agV u v=Zd3 (vAt t.vals v):=by show (Za0 u (v:Nat)).2.2.2.2.1=_;rw [ev]
   rw [ea,epr _ (by omega)]
   refine⟨g1,fun j hj=>?_⟩
   obtain⟨q,g3,g4,g5⟩:=g2 j hj
   exact⟨q,g3,by rw [nbu];omega,by rw [nvu];exact ok g5⟩
  ·rw [ev] at h0 hz;exact ok (hV.us h0 z hz)
  ·rw [ev] at h0
   have ea:agV u v=Zd3 (vAt t.vals v):=by show (Za0 u (v:Nat)).2.2.2.2.1=_;rw [ev]
   rw [ea];exact hV.pa h0
  ·rw [ev] at h0 ⊢
   obtain⟨k,h1,h2,h3⟩:=hV.lv h0
   refine⟨k,by rw [nsu];exact h1,h2,fun z hz=>?_⟩
   rw [es] at hz
   exact ok (h3 z hz)
  ·rw [ev] at h0 ⊢
   obtain⟨h1,h2,h3⟩:=hV.pm h0
   refine⟨h1,h2,fun w hw=>?_⟩
   rw [ev];exact h3 w hw
 ·rw [nsu] at hi
  rw [es]
  obtain⟨pc,loc,stk,h1,h2,h3,h4⟩:=R.sf i hi
  rw [h1]
  have th:∀ l:List Int,(∀ z∈l,z∈loc++stk)→Zc u l=true:=fun l hl=>by
   unfold Zc
   rw [List.all_eq_true]
   intro z hz
   obtain⟨n,g1,rfl,g2⟩:=h4 z (hl z hz)
   rw [Zbd.2 ⟨by omega,by rw [nvu];omega⟩,ev,g2];rfl
  unfold Zd9
  rw [List.all_cons,List.all_nil,Bool.and_true]
  unfold Zhk
  dsimp only
  rw [decide_eq_false (show ¬ 40 < loc.length by omega),decide_eq_false (show ¬ 60 < stk.length by omega),th loc (fun z hz=>List.mem_append_left _ hz),th stk (fun z hz=>List.mem_append_right _ hz)]
  rfl
 ·rw [nbu] at hi
  rw [evl i hi]
  have:=R.hn i
  unfold hdN at this
  unfold Zf1
  rw [List.countP_map,List.countP_eq_length_filter,List.filter_filter]
  refine Nat.le_trans (Nat.le_of_eq (congrArg List.length (List.filter_congr fun v _=>?_))) this
  show (Zaw (Za0 u (v:Nat)).1 && decide (B.getD v 0=i))=_
  rw [ev,Bool.and_comm]
theorem Zvh (ops sh:List Int)(n:Int)(hv:(Zen ops sh n).vals.length≤300)(hb:(Zen ops sh n).blks.length≤20)(hs:(Zen ops sh n).sts.length≤330):∃ B D,UR (Zen ops sh n).un B D∧∀ i < nb (Zen ops sh n).un,(vlD (Zen ops sh n).un i).countP (fun v=>Zaw (Za0 (Zen ops sh n).un v).1)≤4:=by
 have hn:(n % 5).toNat≤4:=by omega
 obtain⟨B1,h1⟩:=(Z1i _ hn).row (ops:=ops)
 obtain⟨B2,G2,h2⟩:=Zqx (ops:=ops) sh 6 h1
 unfold Zen at hv hb hs ⊢
 dsimp only at hv hb hs ⊢
 generalize Zc6 ops sh 6 _=s at h2 hv hb hs ⊢
 obtain⟨a,loc,e,e2,_⟩:=Zrw ops s
 have hv2:s.vals.length≤300:=by rw [e] at hv;exact hv
 have hb2:s.blks.length≤30:=by
  rw [e] at hb
  have:(s.blks++[_]).length≤20:=hb
  rw [List.length_append] at this;omega
 have hs2:s.sts.length≤900:=by
  rw [e] at hs
  have:(s.sts++[_]).length≤330:=hs
  rw [List.length_append] at this;omega
 obtain⟨D,hU⟩:=Z97 (ops:=ops) h2 hv2 hb2 hs2
 exact⟨B2,D,hU⟩
end Go.Proofs.YtcgmchechmbmeaaDoor.base
end
