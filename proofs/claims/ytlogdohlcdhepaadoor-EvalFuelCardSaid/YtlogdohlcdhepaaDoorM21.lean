/- This text proves that whole rows of turnstonehand.Unit keep what is told in EdD, in Ztm Lean. No condition but what the theorems themselves say. -/
import Derived.Test.YtlogdohlcdhepaaDoorM20
set_option linter.unusedVariables false
set_option linter.unusedSimpArgs false
section
set_option maxRecDepth 100000
namespace Go.Proofs.YtlogdohlcdhepaaDoor.base
open Go.Sh gen
variable {s:Us}{B:List Nat}{G:Gt}{ops:List Int}
theorem Zym {op a b z:Int}{l:List Int}(h:z∈Zg op a b l):(Zd4 op=true∧(z=a∨z=b))∨(Zh3 op=true∧z=a)∨(op=20∧z∈l.take 1)∨(op=21∧z∈l):=by
 unfold Zg at h
 rw [List.mem_append] at h
 rcases h with h | h
 ·split at h
  ·rename_i e
   simp only [List.mem_cons,List.not_mem_nil,or_false] at h
   exact Or.inl ⟨e,h⟩
  ·split at h
   ·rename_i e
    simp only [List.mem_cons,List.not_mem_nil,or_false] at h
    exact Or.inr (Or.inl ⟨e,h⟩)
   ·cases h
 ·split at h
  ·rename_i e;exact Or.inr (Or.inr (Or.inl ⟨e,h⟩))
  ·split at h
   ·rename_i e;exact Or.inr (Or.inr (Or.inr ⟨e,h⟩))
   ·cases h
abbrev okC (s:Us)(B:List Nat)(G:Gt)(z:Int):Prop:=OkS s.vals B G s.blks.length s.vals.length z
theorem Zfr {op a b n st:Int}{l:List Int}(h1:Zv5 op=true)(h2:op≠1∧op≠21∧op≠22∧op≠23)(h20:op=20→l.length=1∧∀ z∈l,okC s B G z)(ha:Zd4 op=true∨Zh3 op=true→okC s B G a)(hb:Zd4 op=true→okC s B G b):Zod s B G (op,a,b,n,l,st,()):=by
 obtain⟨g1,g2,g3,g4⟩:=h2
 refine⟨h1,fun _ z hz=>?_,fun h=>(h20 h).1,fun h=>?_,fun h=>absurd h g2,fun h=>absurd h g1,fun h=>?_,fun h=>?_⟩
 ·rcases Zym hz with⟨e,rfl | rfl⟩ | ⟨e,rfl⟩ | ⟨e,hz⟩ | ⟨e,_⟩
  ·exact ha (Or.inl e)
  ·exact hb e
  ·exact ha (Or.inr e)
  ·exact (h20 e).2 z (List.mem_of_mem_take hz)
  ·exact absurd e g2
 ·unfold lvs at h
  rw [Bool.or_eq_true,decide_eq_true_eq,decide_eq_true_eq] at h
  rcases h with h | h
  ·exact absurd h g3
  ·exact absurd h g4
 all_goals
  unfold Za9 at h
  rw [Bool.or_eq_true,decide_eq_true_eq,decide_eq_true_eq] at h
  rcases h with h | h
  ·exact absurd h g2
  ·exact absurd h g1
theorem Zp2 {op a st:Int}{k:Nat}(h22:op=22∨op=23)(ha:op=22→okC s B G a)(hk:k < s.sts.length)(hst:st=(k:Nat))(hz:∀ z∈stL (sAt s.sts k),okC s B G z):Zod s B G (op,a,0,0,[],st,()):=by
 refine⟨by rcases h22 with rfl | rfl <;> rfl,fun _ z hz=>?_,fun h=>?_,fun _=>⟨k,hk,hst,hz⟩,fun h=>?_,fun h=>?_,fun h=>?_,fun h=>?_⟩
 ·rcases Zym hz with⟨e,_⟩ | ⟨e,rfl⟩ | ⟨e,_⟩ | ⟨e,_⟩
  ·rcases h22 with rfl | rfl <;> cases e
  ·rcases h22 with rfl | rfl
   ·exact ha rfl
   ·cases e
  ·rcases h22 with rfl | rfl <;> cases e
  ·rcases h22 with rfl | rfl <;> cases e
 ·rcases h22 with rfl | rfl <;> cases h
 ·rcases h22 with rfl | rfl <;> cases h
 ·rcases h22 with rfl | rfl <;> cases h
 ·rcases h22 with rfl | rfl <;> cases h
 ·rcases h22 with rfl | rfl <;> cases h
theorem Zfl {s1:Us}{z:Int}(h:okC s B G z)(hl:B.length=s.vals.length)(hg:s.blks.length < G.length){B1:List Nat}(k:Ex s B s1 B1):okC s1 B1 G z:=by
 have:=k.mo hl G []
 rw [List.append_nil] at this
 have h2:=h.mono this (Nat.le_refl _) hg this.vl
 unfold okC
 rw [k.bs]
 exact h2
theorem Z6w (h:Rg s B G)(hs:s.blks.length∈Gd G s.blks.length){a b k:Int}(ha:okC s B G a)(hb:okC s B G b)(hk0:0≤k):∃ B',Rg (Zeb ops a b k s) B' G∧Ex s B (Zeb ops a b k s) B':=by
 unfold Zeb
 split
 ·rename_i hk
  obtain⟨g1,g2⟩:=h.knp (Zfr (op:=3+k) (a:=a) (b:=b) (n:=0) (l:=[]) (st:=0) (by unfold Zv5;rw [Bool.and_eq_true,decide_eq_true_eq,decide_eq_true_eq];omega) ⟨by omega,by omega,by omega,by omega⟩ (fun e=>by omega) (fun _=>ha) (fun _=>hb)) hs (by unfold noW;simp;omega)
  exact⟨_,g1,g2⟩
 split
 ·obtain⟨g1,g2⟩:=(h.next (ops:=ops) 1048576).knp (Zfr (op:=2) (a:=0) (b:=0) (n:=(Zat ops 1048576 s).2 - 9) (l:=[]) (st:=0) rfl ⟨by omega,by omega,by omega,by omega⟩ (fun e=>by omega) (fun e=>by rcases e with e | e <;> cases e) (fun e=>by cases e)) (by rw [(Zd8 (B:=B) (ops:=ops) (s:=s) 1048576).bs];exact hs) rfl
  exact⟨_,g1,(Zd8 1048576).trans g2⟩
 split
 ·obtain⟨g1,g2⟩:=(h.next (ops:=ops) 5).knp (Zfr (op:=17) (a:=a) (b:=0) (n:=(Zat ops 5 s).2) (l:=[]) (st:=0) rfl ⟨by omega,by omega,by omega,by omega⟩ (fun e=>by omega) (fun _=>Zfl ha h.lb h.gl (Zd8 5)) (fun e=>by cases e)) (by rw [(Zd8 (B:=B) (ops:=ops) (s:=s) 5).bs];exact hs) rfl
  exact⟨_,g1,(Zd8 5).trans g2⟩
 split
 ·obtain⟨g1,g2⟩:=h.knp (Zfr (op:=18) (a:=a) (b:=b) (n:=0) (l:=[]) (st:=0) rfl ⟨by omega,by omega,by omega,by omega⟩ (fun e=>by omega) (fun _=>ha) (fun _=>hb)) hs rfl
  exact⟨_,g1,g2⟩
 split
 ·obtain⟨g1,g2⟩:=(h.next (ops:=ops) 5).put (Zfr (op:=19) (a:=a) (b:=b) (n:=(Zat ops 5 s).2) (l:=[]) (st:=0) rfl ⟨by omega,by omega,by omega,by omega⟩ (fun e=>by omega) (fun _=>Zfl ha h.lb h.gl (Zd8 5)) (fun _=>Zfl hb h.lb h.gl (Zd8 5)))
  exact⟨_,g1,(Zd8 5).trans g2⟩
 split
 ·obtain⟨g1,g2⟩:=(h.any (ops:=ops)).put (Zfr (op:=20) (a:=a) (b:=b) (n:=0) (l:=[(Zbk ops s).2]) (st:=0) rfl ⟨by omega,by omega,by omega,by omega⟩ (fun _=>⟨rfl,fun z hz=>by rw [List.mem_singleton] at hz;subst hz;exact Zfl h.ok h.lb h.gl Zop⟩) (fun _=>Zfl ha h.lb h.gl Zop) (fun _=>Zfl hb h.lb h.gl Zop))
  exact⟨_,g1,Zop.trans g2⟩
 split
 ·obtain⟨k1,k2,k3,k4,k5,k6,_⟩:=h.state (ops:=ops)
  obtain⟨g1,g2⟩:=k1.put (Zp2 (op:=22) (a:=a) (st:=(Zah ops s).2) (k:=s.sts.length) (Or.inl rfl) (fun _=>Zfl ha h.lb h.gl k2) (by rw [k4];omega) k3 (fun z hz=>Zfl (k5 z hz) h.lb h.gl k2))
  exact⟨_,g1,k2.trans g2⟩
 split
 ·obtain⟨k1,k2,k3,k4,k5,k6,_⟩:=h.state (ops:=ops)
  obtain⟨g1,g2⟩:=k1.put (Zp2 (op:=23) (a:=0) (st:=(Zah ops s).2) (k:=s.sts.length) (Or.inr rfl) (fun e=>by omega) (by rw [k4];omega) k3 (fun z hz=>Zfl (k5 z hz) h.lb h.gl k2))
  exact⟨_,g1,k2.trans g2⟩
 ·have hq:=Zcn (ops:=ops) (s:=s) (k:=2) (by omega)
  obtain⟨g1,g2⟩:=(h.next (ops:=ops) 2).knp (Zfr (op:=15+(Zat ops 2 s).2) (a:=a) (b:=0) (n:=0) (l:=[]) (st:=0) (by unfold Zv5;rw [Bool.and_eq_true,decide_eq_true_eq,decide_eq_true_eq];omega) ⟨by omega,by omega,by omega,by omega⟩ (fun e=>by omega) (fun _=>Zfl ha h.lb h.gl (Zd8 2)) (fun e=>by
   have:(Zat ops 2 s).2=0∨(Zat ops 2 s).2=1:=by omega
   rcases this with e2 | e2 <;> rw [e2] at e <;> cases e)) (by rw [(Zd8 (B:=B) (ops:=ops) (s:=s) 2).bs];exact hs) (by unfold noW;simp;omega)
  exact⟨_,g1,(Zd8 2).trans g2⟩
theorem Z9v (h:Rg s B G)(hs:s.blks.length∈Gd G s.blks.length):∃ B',Rg (Yay ops s) B' G∧Ex s B (Yay ops s) B':=by
 have h1:=h.any (ops:=ops)
 have h2:=h1.any (ops:=ops)
 have x1:Ex s B (Zbk ops s).1 B:=Zop
 have x2:Ex (Zbk ops s).1 B (Zbk ops (Zbk ops s).1).1 B:=Zop
 have x3:Ex (Zbk ops (Zbk ops s).1).1 B (Zat ops 20 (Zbk ops (Zbk ops s).1).1).1 B:=Zd8 20
 have hq:=Zcn (ops:=ops) (s:=(Zbk ops (Zbk ops s).1).1) (k:=20) (by omega)
 obtain⟨B',g1,g2⟩:=Z6w (ops:=ops) (h2.next (ops:=ops) 20) (by rw [x3.bs,x2.bs,x1.bs];exact hs) (a:=(Zbk ops s).2) (b:=(Zbk ops (Zbk ops s).1).2) (Zfl (Zfl (Zfl h.ok h.lb h.gl x1) h1.lb h1.gl x2) h2.lb h2.gl x3) (Zfl (Zfl h1.ok h1.lb h1.gl x2) h2.lb h2.gl x3) hq.1
 exact⟨B',g1,((x1.trans x2).trans x3).trans g2⟩
theorem Z7c (k:Nat):∀ {s:Us} {B:List Nat},Rg s B G→s.blks.length∈Gd G s.blks.length→∃ B',Rg (Zg0 ops k s) B' G∧Ex s B (Zg0 ops k s) B':=by
 induction k with
 | zero=>intro s B h _;exact⟨B,h,Ex.refl _ _⟩
 | succ k ih =>
  intro s B h hs
  rw [Zg0]
  split
  ·obtain⟨B1,g1,g2⟩:=Z9v (ops:=ops) h hs
   obtain⟨B2,g3,g4⟩:=ih g1 (by rw [g2.bs];exact hs)
   exact⟨B2,g3,g2.trans g4⟩
  ·exact⟨B,h,Ex.refl _ _⟩
theorem Zls (h:Rg s B G)(hs:s.blks.length∈Gd G s.blks.length):∃ B',Rg (Zf8 ops s) B' G∧Ex s B (Zf8 ops s) B':=by
 have x1:Ex s B (Zat ops 6 s).1 B:=Zd8 6
 obtain⟨B',g1,g2⟩:=Z7c (ops:=ops) (1+(Zat ops 6 s).2.toNat) (h.next (ops:=ops) 6) (by rw [x1.bs];exact hs)
 exact⟨B',g1,x1.trans g2⟩
end Go.Proofs.YtlogdohlcdhepaaDoor.base
end
section
set_option maxRecDepth 100000
namespace Go.Proofs.YtlogdohlcdhepaaDoor.base
open Go.Sh gen
variable {s s':Us}{B B':List Nat}{G:Gt}{ops:List Int}
structure Ek (s:Us)(B:List Nat)(G:Gt)(s':Us)(B':List Nat):Prop where
 bs:s'.blks=s.blks
 kn:∃ l,s'.known=s.known++l
 mo:Mo s.vals s.sts B G s'.vals s'.sts B' G
theorem Mo.trans {vals vals' vals2:List Zbu.D}{sts sts' sts2:List StT.D}{B B' B2:List Nat}{G G' G2:Gt}(h:Mo vals sts B G vals' sts' B' G')(k:Mo vals' sts' B' G' vals2 sts2 B2 G2):Mo vals sts B G vals2 sts2 B2 G2:=
 ⟨Nat.le_trans h.vl k.vl,fun n hn=>⟨(k.vo n (Nat.lt_of_lt_of_le hn h.vl)).1.trans (h.vo n hn).1,(k.vo n (Nat.lt_of_lt_of_le hn h.vl)).2.trans (h.vo n hn).2⟩,fun n hn=>(k.bo n (Nat.lt_of_lt_of_le hn h.vl)).trans (h.bo n hn),Nat.le_trans h.sl k.sl,fun n hn=>(k.so n (Nat.lt_of_lt_of_le hn h.sl)).trans (h.so n hn),Nat.le_trans h.gl k.gl,fun i hi=>(k.go i (Nat.lt_of_lt_of_le hi h.gl)).trans (h.go i hi)⟩
theorem Ex.ek (h:Ex s B s' B')(hl:B.length=s.vals.length)(G:Gt):Ek s B G s' B':=by
 have:=h.mo hl G []
 rw [List.append_nil] at this
 exact⟨h.bs,h.kn,this⟩
theorem Ek.trans {s2:Us}{B2:List Nat}(h:Ek s B G s' B')(k:Ek s' B' G s2 B2):Ek s B G s2 B2:=by
 obtain⟨l1,e1⟩:=h.kn;obtain⟨l2,e2⟩:=k.kn
 exact⟨k.bs.trans h.bs,⟨l1++l2,by rw [e2,e1,List.append_assoc]⟩,h.mo.trans k.mo⟩
theorem Z70 (vals:List Zbu.D)(sts:List StT.D)(B:List Nat)(G g:Gt):Mo vals sts B G vals sts B (G++g):=
 ⟨Nat.le_refl _,fun n _=>⟨rfl,rfl⟩,fun n _=>rfl,Nat.le_refl _,fun n _=>rfl,by simp,fun i hi=>Zcy _ _ _ hi⟩
theorem Rg.ext (h:Rg s B G)(g:Gt):Rg s B (G++g):=by
 have k:=Z70 s.vals s.sts B G g
 have hg:=h.gl
 have e:∀ i≤s.blks.length,(G++g).getD i ([],[])=G.getD i ([],[]):=fun i hi=>Zcy _ _ _ (by omega)
 refine⟨h.lb,by rw [List.length_append];omega,h.bb,h.bv,h.bl,fun i hi=>?_,?_,fun v hv=>(h.va v hv).mono k hv (by have:=h.bb v hv;omega) rfl,fun z hz=>(h.kn z hz).mono k (Nat.le_refl _) hg (Nat.le_refl _),h.kne,h.hd,h.h1,h.h2,h.sf,fun i hi=>(h.en i hi).mono k (by omega),h.hn⟩
 ·unfold Gp;rw [e i (by omega)];exact h.pb i hi
 ·unfold Gp;rw [e _ (Nat.le_refl _)];exact h.bp
theorem Zqj (bs:List Zf9.D)(x:Zf9.D):bAt (bs++[x]) bs.length=x:=by unfold bAt;rw [Ze7]
theorem Zp5 (bs l:List Zf9.D){i:Nat}(h:i < bs.length):bAt (bs++l) i=bAt bs i:=by unfold bAt;rw [Zcy _ _ _ h]
theorem Rg.end (h:Rg s B G){e c st:Int}{nx l:List Int}(hg:s.blks.length+1 < G.length)(hk:∀ z∈s.known,OkS s.vals B G (s.blks.length+1) s.vals.length z)(he:EnS s.vals s.sts B G s.blks.length (s.bv,e,c,nx,s.bp,st,()))(hl:l=Gp G (s.blks.length+1)):Rg (bpP l (Zb1 e c nx st s)) B G:=by
 have eb:(bpP l (Zb1 e c nx st s)).blks=s.blks++[(s.bv,e,c,nx,s.bp,st,())]:=rfl
 have el:(s.blks++[(s.bv,e,c,nx,s.bp,st,())]).length=s.blks.length+1:=by simp
 have hno:Zga B (s.blks.length+1)=[]:=by
  rw [List.eq_nil_iff_forall_not_mem]
  intro z hz
  obtain⟨n,rfl,h1,h2⟩:=Zff.1 hz
  have:=h.bb n (by rw [← h.lb];exact h1)
  omega
 refine⟨h.lb,by rw [eb,el];exact hg,fun v hv=>by have:=h.bb v hv;rw [eb,el];omega,by rw [eb,el,hno];rfl,fun i hi=>?_,fun i hi=>?_,by rw [eb,el];exact hl,h.va,fun z hz=>by rw [eb,el];exact hk z hz,h.kne,h.hd,h.h1,h.h2,h.sf,fun i hi=>?_,h.hn⟩
 all_goals
  rw [eb,el] at hi
  rw [eb]
  by_cases e1:i=s.blks.length
 ·subst e1;rw [Zqj];exact h.bv
 ·rw [Zp5 _ _ (by omega)];exact h.bl i (by omega)
 ·subst e1;rw [Zqj];exact h.bp
 ·rw [Zp5 _ _ (by omega)];exact h.pb i (by omega)
 ·subst e1;rw [Zqj];exact he
 ·rw [Zp5 _ _ (by omega)];exact h.en i (by omega)
theorem Rg.cut (h:Rg s B G){l0 l1:List Int}(he:s.known=l0++l1)(hn:l0≠[]):Rg (Zgy l0.length s) B G∧(Zgy l0.length s).known=l0:=by
 have e:(Zgy l0.length s).known=l0:=by show s.known.take l0.length=l0;rw [he];simp
 exact⟨⟨h.lb,h.gl,h.bb,h.bv,h.bl,h.pb,h.bp,h.va,fun z hz=>h.kn z (by rw [e] at hz;rw [he];exact List.mem_append_left _ hz),by rw [e];exact hn,h.hd,h.h1,h.h2,h.sf,h.en,h.hn⟩,e⟩
structure GOk (G:Gt):Prop where
 n:0 < G.length
 z:Gd G 0=[0]
 p0:Gp G 0=[]
 pr:∀ b < G.length,b≠0→∀ p∈Gp G b,∃ q:Nat,p=q∧q < G.length∧∀ a∈Gd G b,a=b∨a∈Gd G q
 rc:∀ b < G.length,b≠0→∃ p:Nat,p < b∧(p:Int)∈Gp G b
 s:∀ b < G.length,b∈Gd G b
theorem Zhy {G g:Gt}{i:Nat}(h:i < G.length):Gd (G++g) i=Gd G i:=by unfold Gd;rw [Zcy _ _ _ h]
theorem Zsp {G g:Gt}{i:Nat}(h:i < G.length):Gp (G++g) i=Gp G i:=by unfold Gp;rw [Zcy _ _ _ h]
theorem Zla {G g:Gt}{j:Nat}(h:j < g.length):(G++g).getD (G.length+j) ([],[])=g.getD j ([],[]):=by
 rw [List.getD_eq_getElem?_getD,List.getElem?_append_right (by omega),List.getD_eq_getElem?_getD]
 congr 2;omega
theorem GOk.ext (h:GOk G){g:Gt}(hp:∀ j < g.length,(∀ p∈(g.getD j ([],[])).2,∃ q:Nat,p=q∧q < G.length+g.length∧∀ a∈(g.getD j ([],[])).1,a=G.length+j∨a∈Gd (G++g) q)∧
  (∃ p:Nat,p < G.length+j∧(p:Int)∈(g.getD j ([],[])).2)∧G.length+j∈(g.getD j ([],[])).1):GOk (G++g):=by
 have hn:=h.n
 have split:∀ b < (G++g).length,b < G.length∨∃ j < g.length,b=G.length+j:=by
  intro b hb
  rw [List.length_append] at hb
  by_cases e:b < G.length
  ·exact Or.inl e
  ·exact Or.inr ⟨b - G.length,by omega,by omega⟩
 refine⟨by rw [List.length_append];omega,by rw [Zhy hn];exact h.z,by rw [Zsp hn];exact h.p0,fun b hb hb0 p hpm=>?_,fun b hb hb0=>?_,fun b hb=>?_⟩
 ·rcases split b hb with hb | ⟨j,hj,rfl⟩
  ·rw [Zsp hb] at hpm
   obtain⟨q,e,hq,ha⟩:=h.pr b hb hb0 p hpm
   refine⟨q,e,by rw [List.length_append];omega,fun a hA=>?_⟩
   rw [Zhy hb] at hA
   rw [Zhy hq]
   exact ha a hA
  ·unfold Gp at hpm
   rw [Zla hj] at hpm
   obtain⟨q,e,hq,ha⟩:=(hp j hj).1 p hpm
   refine⟨q,e,by rw [List.length_append];exact hq,fun a hA=>?_⟩
   have hA:a∈((G++g).getD (G.length+j) ([],[])).1:=hA
   rw [Zla hj] at hA
   exact ha a hA
 ·rcases split b hb with hb | ⟨j,hj,rfl⟩
  ·rw [Zsp hb];exact h.rc b hb hb0
  ·obtain⟨p,h1,h2⟩:=(hp j hj).2.1
   exact⟨p,h1,by unfold Gp;rw [Zla hj];exact h2⟩
 ·rcases split b hb with hb | ⟨j,hj,rfl⟩
  ·rw [Zhy hb];exact h.s b hb
  ·unfold Gd;rw [Zla hj];exact (hp j hj).2.2
abbrev nxB (x:Zf9.D):List Int:=x.2.2.2.1
def Zny:Nat→List Zf9.D→Int→List Int
 | _,[],_=>[]
 | i,b::r,k=>((nxB b).filter fun t=>decide (t=k)).map (fun _=>(i:Int))++Zny (i+1) r k
theorem Zz7 (l:List Zf9.D)(b:Zf9.D)(k:Int):∀ i,Zny i (l++[b]) k=Zny i l k++((nxB b).filter fun t=>decide (t=k)).map (fun _=>((i+l.length:Nat):Int)):=by
 induction l with
 | nil=>intro i;simp [Zny]
 | cons x r ih =>
  intro i
  rw [List.cons_append,Zny,ih,Zny,List.append_assoc,List.length_cons,show i+1+r.length=i+(r.length+1) by omega]
theorem Zr8 {l:List Zf9.D}{k:Int}(h:∀ x∈l,∀ t∈nxB x,t≠k):∀ i,Zny i l k=[]:=by
 induction l with
 | nil=>intro i;rfl
 | cons x r ih =>
  intro i
  rw [Zny,ih (fun y hy=>h y (by simp [hy])) (i+1),List.append_nil,List.map_eq_nil_iff,List.filter_eq_nil_iff]
  intro t ht
  rw [decide_eq_true_eq]
  exact h x (by simp) t ht
structure Ld (s:Us)(B:List Nat)(G:Gt):Prop where
 r:Rg s B G
 gl:G.length=s.blks.length+1
 g:GOk G
 led:∀ k≤s.blks.length,Zny 0 s.blks (k:Nat)=Gp G k
 nx:∀ x∈s.blks,∀ t∈nxB x,(0:Int)≤t∧t≤s.blks.length
 one:∀ x∈s.blks,x.2.1=2→∀ t∈nxB x,(Gp G t.toNat).length=1
 v0:∀ b < G.length,OkS s.vals B G b s.vals.length 0
theorem Ld.old (h:Ld s B G){k:Nat}(hk:s.blks.length < k):Zny 0 s.blks (k:Int)=[]:=
 Zr8 (fun x hx t ht=>by have:=h.nx x hx t ht;omega) 0
theorem Zip {g:Gt}{i w:Nat}{z:Int}(h:OkS s.vals B G i w z)(hi:i < G.length){j:Nat}(hs:∀ a∈Gd G i,a∈Gd (G++g) j):OkS s.vals B (G++g) j w z:=by
 obtain⟨n,rfl,h1,h2,h3⟩:=h
 exact⟨n,rfl,h1,h2,hs _ h3⟩
theorem Ztq (a b k:Int)(hab:a≠b):[a,b].filter (fun t=>decide (t=k))=if k=a then [a] else if k=b then [b] else []:=by
 by_cases h1:k=a
 ·subst h1;simp [Ne.symm hab]
 ·by_cases h2:k=b
  ·subst h2;simp [hab]
  ·simp [h1,h2,Ne.symm h1,Ne.symm h2]
theorem Zzy (a k:Int):[a].filter (fun t=>decide (t=k))=if k=a then [a] else []:=by
 by_cases h1:k=a
 ·subst h1;simp
 ·simp [h1,Ne.symm h1]
end Go.Proofs.YtlogdohlcdhepaaDoor.base
end
section
set_option maxRecDepth 100000
namespace Go.Proofs.YtlogdohlcdhepaaDoor.base
open Go.Sh gen
variable {s s':Us}{B B':List Nat}{G:Gt}{ops:List Int}
theorem Z25 (l r:List Zf9.D)(k:Int):∀ i,Zny i (l++r) k=Zny i l k++Zny (i+l.length) r k:=by
 induction l with
 | nil=>intro i;simp [Zny]
 | cons x l ih =>
  intro i
  rw [List.cons_append,Zny,ih,Zny,List.append_assoc,List.length_cons,show i+1+l.length=i+(l.length+1) by omega]
theorem Ld.close (h:Ld s B G){g:Gt}{xs:List Zf9.D}(R:Rg s' B' (G++g))(hbs:s'.blks=s.blks++xs)(hl:g.length=xs.length)(hg:GOk (G++g))(mo:Mo s.vals s.sts B (G++g) s'.vals s'.sts B' (G++g))
  (hlo:∀ x∈xs,∀ t∈nxB x,(s.blks.length:Int) < t∧t≤s.blks.length+xs.length) (hled:∀ j < g.length,Zny s.blks.length xs ((s.blks.length+1+j:Nat):Int)=(g.getD j ([],[])).2)
  (hone:∀ x∈xs,x.2.1=2→∀ t∈nxB x,∃ j < g.length,t=((s.blks.length+1+j:Nat):Int)∧((g.getD j ([],[])).2).length=1) (hsub:∀ j < g.length,∀ a∈Gd G s.blks.length,a∈(g.getD j ([],[])).1):Ld s' B' (G++g):=by
 have e1:s'.blks.length=s.blks.length+xs.length:=by rw [hbs,List.length_append]
 have hgl:=h.gl
 have hnew:∀ j < g.length,(G++g).getD (s.blks.length+1+j) ([],[])=g.getD j ([],[]):=fun j hj=>by rw [← hgl];exact Zla hj
 refine⟨R,by rw [List.length_append,e1];omega,hg,fun k hk=>?_,fun x hx t ht=>?_,fun x hx h2 t ht=>?_,fun b hb=>?_⟩
 ·rw [hbs,Z25,Nat.zero_add]
  by_cases e:k≤s.blks.length
  ·rw [h.led k e,Zr8 (fun x hx t ht=>by have:=hlo x hx t ht;omega),List.append_nil,Zsp (by omega)]
  ·obtain⟨j,rfl⟩:∃ j,k=s.blks.length+1+j:=⟨k - (s.blks.length+1),by omega⟩
   rw [h.old (by omega),List.nil_append,hled j (by omega)]
   unfold Gp
   rw [hnew j (by omega)]
 ·rw [hbs,List.mem_append] at hx
  rw [e1]
  rcases hx with hx | hx
  ·have:=h.nx x hx t ht;omega
  ·have:=hlo x hx t ht;omega
 ·rw [hbs,List.mem_append] at hx
  rcases hx with hx | hx
  ·have h3:=h.nx x hx t ht
   rw [Zsp (by omega)]
   exact h.one x hx h2 t ht
  ·obtain⟨j,hj,rfl,hj1⟩:=hone x hx h2 t ht
   rw [Int.toNat_natCast]
   unfold Gp
   rw [hnew j hj];exact hj1
 ·have key:OkS s.vals B (G++g) b s.vals.length 0:=by
   by_cases e:b < G.length
   ·exact Zip (h.v0 b e) e (fun a ha=>by rw [Zhy e];exact ha)
   ·rw [List.length_append] at hb
    obtain⟨j,rfl⟩:∃ j,b=s.blks.length+1+j:=⟨b - (s.blks.length+1),by omega⟩
    refine Zip (h.v0 s.blks.length (by omega)) (by omega) (fun a ha=>?_)
    unfold Gd
    rw [hnew j (by omega)]
    exact hsub j (by omega) a ha
  exact key.mono mo (Nat.le_refl _) hb mo.vl
theorem Z62 (h:Ld s B G):∃ B' G',Ld (Znp ops s) B' G':=by
 obtain⟨c,hc⟩:∃ c,s.blks.length=c:=⟨_,rfl⟩
 have hgl:=h.gl
 obtain⟨g,hg⟩:∃ g:Gt,g=[((c+1)::Gd G c,[(c:Int)]),((c+2)::Gd G c,[(c:Int)])]:=⟨_,rfl⟩
 have gl2:g.length=2:=by rw [hg];rfl
 have n1:(G++g).getD (c+1) ([],[])=((c+1)::Gd G c,[(c:Int)]):=by
  rw [show c+1=G.length+0 by omega,Zla (by omega),hg];rw [show G.length+0=c+1 by omega];rfl
 have n2:(G++g).getD (c+2) ([],[])=((c+2)::Gd G c,[(c:Int)]):=by
  rw [show c+2=G.length+1 by omega,Zla (by omega),hg];rw [show G.length+1=c+2 by omega];rfl
 have d1:Gd (G++g) (c+1)=(c+1)::Gd G c:=by unfold Gd;rw [n1]
 have d2:Gd (G++g) (c+2)=(c+2)::Gd G c:=by unfold Gd;rw [n2]
 have d0:Gd (G++g) c=Gd G c:=Zhy (by omega)
 have p1:[(c:Int)]=Gp (G++g) (c+1):=by unfold Gp;rw [n1]
 have p2:[(c:Int)]=Gp (G++g) (c+2):=by unfold Gp;rw [n2]
 have hgk:GOk (G++g):=by
  refine h.g.ext fun j hj=>?_
  rw [gl2] at hj ⊢
  have:j=0∨j=1:=by omega
  rcases this with rfl | rfl
  ·rw [hg]
   refine⟨fun p hp=>?_,⟨c,by omega,by simp⟩,by simp;omega⟩
   have hp:p∈[(c:Int)]:=hp
   rw [List.mem_singleton] at hp
   refine⟨c,hp,by omega,fun a ha=>?_⟩
   rw [Zhy (by omega)]
   rcases List.mem_cons.1 ha with rfl | ha
   ·exact Or.inl (by omega)
   ·exact Or.inr ha
  ·rw [hg]
   refine⟨fun p hp=>?_,⟨c,by omega,by simp⟩,by simp;omega⟩
   have hp:p∈[(c:Int)]:=hp
   rw [List.mem_singleton] at hp
   refine⟨c,hp,by omega,fun a ha=>?_⟩
   rw [Zhy (by omega)]
   rcases List.mem_cons.1 ha with rfl | ha
   ·exact Or.inl (by omega)
   ·exact Or.inr ha
 have hGl:(G++g).length=c+3:=by rw [List.length_append,gl2];omega
 have R0:=h.r.ext g
 have okc:=R0.ok (ops:=ops)
 have Ra:=R0.any (ops:=ops)
 obtain⟨a,ea⟩:=Zml ops s
 unfold Znp
 dsimp only
 rw [hc] at okc ⊢
 generalize hcond:(Zbk ops s).2=cond at okc ⊢
 rw [ea] at Ra ⊢
 have dn:∀ z∈s.known,∀ j,(∀ x∈Gd G c,x∈Gd (G++g) j)→OkS s.vals B (G++g) j s.vals.length z:=fun z hz j hj=>Zip (h.r.kn z hz) (by omega) (by rw [hc];exact hj)
 have R2:Rg (bpP [(c:Int)] (Zb1 2 cond [(c:Int)+1,(c:Int)+2] 0 { s with at_:=a })) B (G++g):=by
  refine Ra.end (by show s.blks.length+1 < _;omega) (fun z hz=>?_) (Or.inr (Or.inl ⟨rfl,rfl,by show OkS s.vals B (G++g) s.blks.length s.vals.length cond;rw [hc];exact okc⟩)) (by show _=Gp (G++g) (s.blks.length+1);rw [hc];exact p1)
  show OkS s.vals B (G++g) (s.blks.length+1) s.vals.length z
  rw [hc]
  exact dn z hz _ (fun x hx=>by rw [d1];exact List.mem_cons_of_mem _ hx)
 obtain⟨s2,hs2⟩:∃ s2,bpP [(c:Int)] (Zb1 2 cond [(c:Int)+1,(c:Int)+2] 0 { s with at_:=a })=s2:=⟨_,rfl⟩
 have b2:s2.blks=s.blks++[(s.bv,2,cond,[(c:Int)+1,(c:Int)+2],s.bp,0,())]:=by rw [← hs2];rfl
 have b2l:s2.blks.length=c+1:=by rw [b2,List.length_append,hc];rfl
 have v2:s2.vals=s.vals:=by rw [← hs2];rfl
 have t2:s2.sts=s.sts:=by rw [← hs2];rfl
 have k2:s2.known=s.known:=by rw [← hs2];rfl
 rw [hs2] at R2 ⊢
 obtain⟨B4,R4,X4⟩:=Zls (ops:=ops) R2 (by rw [b2l,d1];simp)
 generalize Zf8 ops s2=s4 at R4 X4 ⊢
 obtain⟨R5,X5,i5,l5,z5,v5,kn5,_⟩:=R4.state (ops:=ops)
 have K5:Ek s2 B (G++g) (Zah ops s4).1 B4:=(X4.ek R2.lb _).trans (X5.ek R4.lb _)
 generalize (Zah ops s4).2=st at i5 ⊢
 generalize (Zah ops s4).1=s5 at R5 X5 l5 z5 v5 kn5 K5 ⊢
 obtain⟨L,hL⟩:=K5.kn
 rw [k2] at hL
 obtain⟨R6,k6⟩:=R5.cut hL h.r.kne
 have M5:=K5.mo
 rw [v2,t2] at M5
 have b5:s5.blks=s2.blks:=K5.bs
 have R7:Rg (bpP [(c:Int)] (Zb1 3 0 [] st (Zgy s.known.length s5))) B4 (G++g):=by
  refine R6.end (by show s5.blks.length+1 < _;rw [b5,b2l];omega) (fun z hz=>?_) (Or.inr (Or.inr ⟨rfl,rfl,s4.sts.length,by show s4.sts.length < s5.sts.length;omega,i5,fun z hz=>?_⟩)) (by show _=Gp (G++g) (s5.blks.length+1);rw [b5,b2l];exact p2)
  ·rw [k6] at hz
   show OkS s5.vals B4 (G++g) (s5.blks.length+1) s5.vals.length z
   rw [b5,b2l]
   exact (dn z hz (c+2) (fun x hx=>by rw [d2];exact List.mem_cons_of_mem _ hx)).mono M5 (Nat.le_refl _) (by omega) M5.vl
  ·show OkS s5.vals B4 (G++g) s5.blks.length s5.vals.length z
   have:=z5 z hz
   rw [v5,b5,← X4.bs]
   exact this
 have e7:bpP [(c:Int)] (Zgy s.known.length (Zb1 3 0 [] st s5))=bpP [(c:Int)] (Zb1 3 0 [] st (Zgy s.known.length s5)):=rfl
 rw [e7]
 obtain⟨s7,hs7⟩:∃ s7,bpP [(c:Int)] (Zb1 3 0 [] st (Zgy s.known.length s5))=s7:=⟨_,rfl⟩
 have b7:s7.blks=s5.blks++[(s5.bv,3,0,[],s5.bp,st,())]:=by rw [← hs7];rfl
 have b7l:s7.blks.length=c+2:=by rw [b7,List.length_append,b5,b2l];rfl
 have v7:s7.vals=s5.vals:=by rw [← hs7];rfl
 have t7:s7.sts=s5.sts:=by rw [← hs7];rfl
 rw [hs7] at R7 ⊢
 obtain⟨B8,R8,X8⟩:=Zls (ops:=ops) R7 (by rw [b7l,d2];simp)
 have M8:=(X8.ek R7.lb (G++g)).mo
 rw [v7,t7] at M8
 refine⟨B8,G++g,h.close (xs:=[(s.bv,2,cond,[(c:Int)+1,(c:Int)+2],s.bp,0,()),(s5.bv,3,0,[],s5.bp,st,())]) R8 (by rw [X8.bs,b7,b5,b2,List.append_assoc];rfl) gl2 hgk (M5.trans M8) ?_ ?_ ?_ ?_⟩
 ·intro x hx t ht
  rw [hc]
  simp only [List.mem_cons,List.not_mem_nil,or_false] at hx
  rcases hx with rfl | rfl
  ·simp only [nxB,List.mem_cons,List.not_mem_nil,or_false] at ht
   simp only [List.length_cons,List.length_nil]
   omega
  ·cases ht
 ·intro j hj
  rw [gl2] at hj
  rw [hc,hg]
  simp only [Zny,nxB,Ztq _ _ _ (show (c:Int)+1≠(c:Int)+2 by omega),List.filter_nil,List.map_nil,List.append_nil]
  have:j=0∨j=1:=by omega
  rcases this with rfl | rfl
  ·rw [if_pos (by omega)];rfl
  ·rw [if_neg (by omega),if_pos (by omega)];rfl
 ·intro x hx h2 t ht
  rw [hc,gl2,hg]
  simp only [List.mem_cons,List.not_mem_nil,or_false] at hx
  rcases hx with rfl | rfl
  ·simp only [nxB,List.mem_cons,List.not_mem_nil,or_false] at ht
   rcases ht with rfl | rfl
   ·exact⟨0,by omega,by omega,rfl⟩
   ·exact⟨1,by omega,by omega,rfl⟩
  ·cases ht
 ·intro j hj a ha
  rw [gl2] at hj
  rw [hc] at ha
  rw [hg]
  have:j=0∨j=1:=by omega
  rcases this with rfl | rfl
  ·exact List.mem_cons_of_mem _ ha
  ·exact List.mem_cons_of_mem _ ha
end Go.Proofs.YtlogdohlcdhepaaDoor.base
end
