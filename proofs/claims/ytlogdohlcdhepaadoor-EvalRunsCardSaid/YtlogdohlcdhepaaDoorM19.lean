/- This text proves that whole rows of turnstonehand.Unit keep what is told in EdD, in plain Lean. No condition but what the theorems themselves say. -/
import Derived.Test.YtlogdohlcdhepaaDoorM18
set_option linter.unusedVariables false
set_option linter.unusedSimpArgs false
section
set_option maxRecDepth 100000
namespace Go.Proofs.YtlogdohlcdhepaaDoor.base
open Go.Sh gen
variable {s:Us}{B:List Nat}{G:Gt}{ops:List Int}
theorem Zz3 {op a b z:Int}{l:List Int}(h:z∈Ze7 op a b l):(Zc5 op=true∧(z=a∨z=b))∨(Zgb op=true∧z=a)∨(op=20∧z∈l.take 1)∨(op=21∧z∈l):=by
 unfold Ze7 at h
 rw [List.mem_append] at h
 rcases h with h | h
 ·split at h
  ·rename_i e
   simp only [List.mem_cons,List.not_mem_nil,or_false] at h
   exact Or.inl ⟨e,h⟩
  ·split at h
   ·rename_i e
    simp only [List.mem_cons,List.not_mem_nil,or_false] at h
    exact Or.inr (Or.inl ⟨e,h⟩)
   ·cases h
 ·split at h
  ·rename_i e;exact Or.inr (Or.inr (Or.inl ⟨e,h⟩))
  ·split at h
   ·rename_i e;exact Or.inr (Or.inr (Or.inr ⟨e,h⟩))
   ·cases h
abbrev okC (s:Us)(B:List Nat)(G:Gt)(z:Int):Prop:=OkS s.vals B G s.blks.length s.vals.length z
theorem Zfh {op a b n st:Int}{l:List Int}(h1:Zvj op=true)(h2:op≠1∧op≠21∧op≠22∧op≠23)(h20:op=20→l.length=1∧∀ z∈l,okC s B G z)(ha:Zc5 op=true∨Zgb op=true→okC s B G a)(hb:Zc5 op=true→okC s B G b):Znk s B G (op,a,b,n,l,st,()):=by
 obtain⟨g1,g2,g3,g4⟩:=h2
 refine⟨h1,fun _ z hz=>?_,fun h=>(h20 h).1,fun h=>?_,fun h=>absurd h g2,fun h=>absurd h g1,fun h=>?_,fun h=>?_⟩
 ·rcases Zz3 hz with⟨e,rfl | rfl⟩ | ⟨e,rfl⟩ | ⟨e,hz⟩ | ⟨e,_⟩
  ·exact ha (Or.inl e)
  ·exact hb e
  ·exact ha (Or.inr e)
  ·exact (h20 e).2 z (List.mem_of_mem_take hz)
  ·exact absurd e g2
 ·unfold lvs at h
  rw [Bool.or_eq_true,decide_eq_true_eq,decide_eq_true_eq] at h
  rcases h with h | h
  ·exact absurd h g3
  ·exact absurd h g4
 all_goals
  unfold Zaq at h
  rw [Bool.or_eq_true,decide_eq_true_eq,decide_eq_true_eq] at h
  rcases h with h | h
  ·exact absurd h g2
  ·exact absurd h g1
theorem Zox {op a st:Int}{k:Nat}(h22:op=22∨op=23)(ha:op=22→okC s B G a)(hk:k < s.sts.length)(hst:st=(k:Nat))(hz:∀ z∈stL (sAt s.sts k),okC s B G z):Znk s B G (op,a,0,0,[],st,()):=by
 refine⟨by rcases h22 with rfl | rfl <;> rfl,fun _ z hz=>?_,fun h=>?_,fun _=>⟨k,hk,hst,hz⟩,fun h=>?_,fun h=>?_,fun h=>?_,fun h=>?_⟩
 ·rcases Zz3 hz with⟨e,_⟩ | ⟨e,rfl⟩ | ⟨e,_⟩ | ⟨e,_⟩
  ·rcases h22 with rfl | rfl <;> cases e
  ·rcases h22 with rfl | rfl
   ·exact ha rfl
   ·cases e
  ·rcases h22 with rfl | rfl <;> cases e
  ·rcases h22 with rfl | rfl <;> cases e
 ·rcases h22 with rfl | rfl <;> cases h
 ·rcases h22 with rfl | rfl <;> cases h
 ·rcases h22 with rfl | rfl <;> cases h
 ·rcases h22 with rfl | rfl <;> cases h
 ·rcases h22 with rfl | rfl <;> cases h
theorem Zfc {s1:Us}{z:Int}(h:okC s B G z)(hl:B.length=s.vals.length)(hg:s.blks.length < G.length){B1:List Nat}(k:Ex s B s1 B1):okC s1 B1 G z:=by
 have:=k.mo hl G []
 rw [List.append_nil] at this
 have h2:=h.mono this (Nat.le_refl _) hg this.vl
 unfold okC
 rw [k.bs]
 exact h2
theorem Z5y (h:Rg s B G)(hs:s.blks.length∈Gd G s.blks.length){a b k:Int}(ha:okC s B G a)(hb:okC s B G b)(hk0:0≤k):∃ B',Rg (Zd7 ops a b k s) B' G∧Ex s B (Zd7 ops a b k s) B':=by
 unfold Zd7
 split
 ·rename_i hk
  obtain⟨g1,g2⟩:=h.knp (Zfh (op:=3+k) (a:=a) (b:=b) (n:=0) (l:=[]) (st:=0) (by unfold Zvj;rw [Bool.and_eq_true,decide_eq_true_eq,decide_eq_true_eq];omega) ⟨by omega,by omega,by omega,by omega⟩ (fun e=>by omega) (fun _=>ha) (fun _=>hb)) hs (by unfold noW;simp;omega)
  exact⟨_,g1,g2⟩
 split
 ·obtain⟨g1,g2⟩:=(h.next (ops:=ops) 1048576).knp (Zfh (op:=2) (a:=0) (b:=0) (n:=(Zar ops 1048576 s).2 - 9) (l:=[]) (st:=0) rfl ⟨by omega,by omega,by omega,by omega⟩ (fun e=>by omega) (fun e=>by rcases e with e | e <;> cases e) (fun e=>by cases e)) (by rw [(Zd2 (B:=B) (ops:=ops) (s:=s) 1048576).bs];exact hs) rfl
  exact⟨_,g1,(Zd2 1048576).trans g2⟩
 split
 ·obtain⟨g1,g2⟩:=(h.next (ops:=ops) 5).knp (Zfh (op:=17) (a:=a) (b:=0) (n:=(Zar ops 5 s).2) (l:=[]) (st:=0) rfl ⟨by omega,by omega,by omega,by omega⟩ (fun e=>by omega) (fun _=>Zfc ha h.lb h.gl (Zd2 5)) (fun e=>by cases e)) (by rw [(Zd2 (B:=B) (ops:=ops) (s:=s) 5).bs];exact hs) rfl
  exact⟨_,g1,(Zd2 5).trans g2⟩
 split
 ·obtain⟨g1,g2⟩:=h.knp (Zfh (op:=18) (a:=a) (b:=b) (n:=0) (l:=[]) (st:=0) rfl ⟨by omega,by omega,by omega,by omega⟩ (fun e=>by omega) (fun _=>ha) (fun _=>hb)) hs rfl
  exact⟨_,g1,g2⟩
 split
 ·obtain⟨g1,g2⟩:=(h.next (ops:=ops) 5).put (Zfh (op:=19) (a:=a) (b:=b) (n:=(Zar ops 5 s).2) (l:=[]) (st:=0) rfl ⟨by omega,by omega,by omega,by omega⟩ (fun e=>by omega) (fun _=>Zfc ha h.lb h.gl (Zd2 5)) (fun _=>Zfc hb h.lb h.gl (Zd2 5)))
  exact⟨_,g1,(Zd2 5).trans g2⟩
 split
 ·obtain⟨g1,g2⟩:=(h.any (ops:=ops)).put (Zfh (op:=20) (a:=a) (b:=b) (n:=0) (l:=[(Zbb ops s).2]) (st:=0) rfl ⟨by omega,by omega,by omega,by omega⟩ (fun _=>⟨rfl,fun z hz=>by rw [List.mem_singleton] at hz;subst hz;exact Zfc h.ok h.lb h.gl Zno⟩) (fun _=>Zfc ha h.lb h.gl Zno) (fun _=>Zfc hb h.lb h.gl Zno))
  exact⟨_,g1,Zno.trans g2⟩
 split
 ·obtain⟨k1,k2,k3,k4,k5,k6,_⟩:=h.state (ops:=ops)
  obtain⟨g1,g2⟩:=k1.put (Zox (op:=22) (a:=a) (st:=(Zae ops s).2) (k:=s.sts.length) (Or.inl rfl) (fun _=>Zfc ha h.lb h.gl k2) (by rw [k4];omega) k3 (fun z hz=>Zfc (k5 z hz) h.lb h.gl k2))
  exact⟨_,g1,k2.trans g2⟩
 split
 ·obtain⟨k1,k2,k3,k4,k5,k6,_⟩:=h.state (ops:=ops)
  obtain⟨g1,g2⟩:=k1.put (Zox (op:=23) (a:=0) (st:=(Zae ops s).2) (k:=s.sts.length) (Or.inr rfl) (fun e=>by omega) (by rw [k4];omega) k3 (fun z hz=>Zfc (k5 z hz) h.lb h.gl k2))
  exact⟨_,g1,k2.trans g2⟩
 ·have hq:=Zcg (ops:=ops) (s:=s) (k:=2) (by omega)
  obtain⟨g1,g2⟩:=(h.next (ops:=ops) 2).knp (Zfh (op:=15+(Zar ops 2 s).2) (a:=a) (b:=0) (n:=0) (l:=[]) (st:=0) (by unfold Zvj;rw [Bool.and_eq_true,decide_eq_true_eq,decide_eq_true_eq];omega) ⟨by omega,by omega,by omega,by omega⟩ (fun e=>by omega) (fun _=>Zfc ha h.lb h.gl (Zd2 2)) (fun e=>by
   have:(Zar ops 2 s).2=0∨(Zar ops 2 s).2=1:=by omega
   rcases this with e2 | e2 <;> rw [e2] at e <;> cases e)) (by rw [(Zd2 (B:=B) (ops:=ops) (s:=s) 2).bs];exact hs) (by unfold noW;simp;omega)
  exact⟨_,g1,(Zd2 2).trans g2⟩
theorem Z9f (h:Rg s B G)(hs:s.blks.length∈Gd G s.blks.length):∃ B',Rg (Z9v ops s) B' G∧Ex s B (Z9v ops s) B':=by
 have h1:=h.any (ops:=ops)
 have h2:=h1.any (ops:=ops)
 have x1:Ex s B (Zbb ops s).1 B:=Zno
 have x2:Ex (Zbb ops s).1 B (Zbb ops (Zbb ops s).1).1 B:=Zno
 have x3:Ex (Zbb ops (Zbb ops s).1).1 B (Zar ops 20 (Zbb ops (Zbb ops s).1).1).1 B:=Zd2 20
 have hq:=Zcg (ops:=ops) (s:=(Zbb ops (Zbb ops s).1).1) (k:=20) (by omega)
 obtain⟨B',g1,g2⟩:=Z5y (ops:=ops) (h2.next (ops:=ops) 20) (by rw [x3.bs,x2.bs,x1.bs];exact hs) (a:=(Zbb ops s).2) (b:=(Zbb ops (Zbb ops s).1).2) (Zfc (Zfc (Zfc h.ok h.lb h.gl x1) h1.lb h1.gl x2) h2.lb h2.gl x3) (Zfc (Zfc h1.ok h1.lb h1.gl x2) h2.lb h2.gl x3) hq.1
 exact⟨B',g1,((x1.trans x2).trans x3).trans g2⟩
theorem Z3x (k:Nat):∀ {s:Us} {B:List Nat},Rg s B G→s.blks.length∈Gd G s.blks.length→∃ B',Rg (Zgo ops k s) B' G∧Ex s B (Zgo ops k s) B':=by
 induction k with
 | zero=>intro s B h _;exact⟨B,h,Ex.refl _ _⟩
 | succ k ih =>
  intro s B h hs
  rw [Zgo]
  split
  ·obtain⟨B1,g1,g2⟩:=Z9f (ops:=ops) h hs
   obtain⟨B2,g3,g4⟩:=ih g1 (by rw [g2.bs];exact hs)
   exact⟨B2,g3,g2.trans g4⟩
  ·exact⟨B,h,Ex.refl _ _⟩
theorem Zk8 (h:Rg s B G)(hs:s.blks.length∈Gd G s.blks.length):∃ B',Rg (Zfx ops s) B' G∧Ex s B (Zfx ops s) B':=by
 have x1:Ex s B (Zar ops 6 s).1 B:=Zd2 6
 obtain⟨B',g1,g2⟩:=Z3x (ops:=ops) (1+(Zar ops 6 s).2.toNat) (h.next (ops:=ops) 6) (by rw [x1.bs];exact hs)
 exact⟨B',g1,x1.trans g2⟩
end Go.Proofs.YtlogdohlcdhepaaDoor.base
end
section
set_option maxRecDepth 100000
namespace Go.Proofs.YtlogdohlcdhepaaDoor.base
open Go.Sh gen
variable {s s':Us}{B B':List Nat}{G:Gt}{ops:List Int}
structure Ek (s:Us)(B:List Nat)(G:Gt)(s':Us)(B':List Nat):Prop where
 bs:s'.blks=s.blks
 kn:∃ l,s'.known=s.known++l
 mo:Mo s.vals s.sts B G s'.vals s'.sts B' G
theorem Mo.trans {vals vals' vals2:List Zbj.D}{sts sts' sts2:List StT.D}{B B' B2:List Nat}{G G' G2:Gt}(h:Mo vals sts B G vals' sts' B' G')(k:Mo vals' sts' B' G' vals2 sts2 B2 G2):Mo vals sts B G vals2 sts2 B2 G2:=
 ⟨Nat.le_trans h.vl k.vl,fun n hn=>⟨(k.vo n (Nat.lt_of_lt_of_le hn h.vl)).1.trans (h.vo n hn).1,(k.vo n (Nat.lt_of_lt_of_le hn h.vl)).2.trans (h.vo n hn).2⟩,fun n hn=>(k.bo n (Nat.lt_of_lt_of_le hn h.vl)).trans (h.bo n hn),Nat.le_trans h.sl k.sl,fun n hn=>(k.so n (Nat.lt_of_lt_of_le hn h.sl)).trans (h.so n hn),Nat.le_trans h.gl k.gl,fun i hi=>(k.go i (Nat.lt_of_lt_of_le hi h.gl)).trans (h.go i hi)⟩
theorem Ex.ek (h:Ex s B s' B')(hl:B.length=s.vals.length)(G:Gt):Ek s B G s' B':=by
 have:=h.mo hl G []
 rw [List.append_nil] at this
 exact⟨h.bs,h.kn,this⟩
theorem Ek.trans {s2:Us}{B2:List Nat}(h:Ek s B G s' B')(k:Ek s' B' G s2 B2):Ek s B G s2 B2:=by
 obtain⟨l1,e1⟩:=h.kn;obtain⟨l2,e2⟩:=k.kn
 exact⟨k.bs.trans h.bs,⟨l1++l2,by rw [e2,e1,List.append_assoc]⟩,h.mo.trans k.mo⟩
theorem Z6h (vals:List Zbj.D)(sts:List StT.D)(B:List Nat)(G g:Gt):Mo vals sts B G vals sts B (G++g):=
 ⟨Nat.le_refl _,fun n _=>⟨rfl,rfl⟩,fun n _=>rfl,Nat.le_refl _,fun n _=>rfl,by simp,fun i hi=>Zcp _ _ _ hi⟩
theorem Rg.ext (h:Rg s B G)(g:Gt):Rg s B (G++g):=by
 have k:=Z6h s.vals s.sts B G g
 have hg:=h.gl
 have e:∀ i≤s.blks.length,(G++g).getD i ([],[])=G.getD i ([],[]):=fun i hi=>Zcp _ _ _ (by omega)
 refine⟨h.lb,by rw [List.length_append];omega,h.bb,h.bv,h.bl,fun i hi=>?_,?_,fun v hv=>(h.va v hv).mono k hv (by have:=h.bb v hv;omega) rfl,fun z hz=>(h.kn z hz).mono k (Nat.le_refl _) hg (Nat.le_refl _),h.kne,h.hd,h.h1,h.h2,h.sf,fun i hi=>(h.en i hi).mono k (by omega),h.hn⟩
 ·unfold Gp;rw [e i (by omega)];exact h.pb i hi
 ·unfold Gp;rw [e _ (Nat.le_refl _)];exact h.bp
theorem Zok (bs:List Zfk.D)(x:Zfk.D):bAt (bs++[x]) bs.length=x:=by unfold bAt;rw [Zeu]
theorem Zou (bs l:List Zfk.D){i:Nat}(h:i < bs.length):bAt (bs++l) i=bAt bs i:=by unfold bAt;rw [Zcp _ _ _ h]
theorem Rg.end (h:Rg s B G){e c st:Int}{nx l:List Int}(hg:s.blks.length+1 < G.length)(hk:∀ z∈s.known,OkS s.vals B G (s.blks.length+1) s.vals.length z)(he:EnS s.vals s.sts B G s.blks.length (s.bv,e,c,nx,s.bp,st,()))(hl:l=Gp G (s.blks.length+1)):Rg (bpP l (Zbn e c nx st s)) B G:=by
 have eb:(bpP l (Zbn e c nx st s)).blks=s.blks++[(s.bv,e,c,nx,s.bp,st,())]:=rfl
 have el:(s.blks++[(s.bv,e,c,nx,s.bp,st,())]).length=s.blks.length+1:=by simp
 have hno:Zfy B (s.blks.length+1)=[]:=by
  rw [List.eq_nil_iff_forall_not_mem]
  intro z hz
  obtain⟨n,rfl,h1,h2⟩:=Zee.1 hz
  have:=h.bb n (by rw [← h.lb];exact h1)
  omega
 refine⟨h.lb,by rw [eb,el];exact hg,fun v hv=>by have:=h.bb v hv;rw [eb,el];omega,by rw [eb,el,hno];rfl,fun i hi=>?_,fun i hi=>?_,by rw [eb,el];exact hl,h.va,fun z hz=>by rw [eb,el];exact hk z hz,h.kne,h.hd,h.h1,h.h2,h.sf,fun i hi=>?_,h.hn⟩
 all_goals
  rw [eb,el] at hi
  rw [eb]
  by_cases e1:i=s.blks.length
 ·subst e1;rw [Zok];exact h.bv
 ·rw [Zou _ _ (by omega)];exact h.bl i (by omega)
 ·subst e1;rw [Zok];exact h.bp
 ·rw [Zou _ _ (by omega)];exact h.pb i (by omega)
 ·subst e1;rw [Zok];exact he
 ·rw [Zou _ _ (by omega)];exact h.en i (by omega)
theorem Rg.cut (h:Rg s B G){l0 l1:List Int}(he:s.known=l0++l1)(hn:l0≠[]):Rg (Zgg l0.length s) B G∧(Zgg l0.length s).known=l0:=by
 have e:(Zgg l0.length s).known=l0:=by show s.known.take l0.length=l0;rw [he];simp
 exact⟨⟨h.lb,h.gl,h.bb,h.bv,h.bl,h.pb,h.bp,h.va,fun z hz=>h.kn z (by rw [e] at hz;rw [he];exact List.mem_append_left _ hz),by rw [e];exact hn,h.hd,h.h1,h.h2,h.sf,h.en,h.hn⟩,e⟩
structure GOk (G:Gt):Prop where
 n:0 < G.length
 z:Gd G 0=[0]
 p0:Gp G 0=[]
 pr:∀ b < G.length,b≠0→∀ p∈Gp G b,∃ q:Nat,p=q∧q < G.length∧∀ a∈Gd G b,a=b∨a∈Gd G q
 rc:∀ b < G.length,b≠0→∃ p:Nat,p < b∧(p:Int)∈Gp G b
 s:∀ b < G.length,b∈Gd G b
theorem Zha {G g:Gt}{i:Nat}(h:i < G.length):Gd (G++g) i=Gd G i:=by unfold Gd;rw [Zcp _ _ _ h]
theorem Zqg {G g:Gt}{i:Nat}(h:i < G.length):Gp (G++g) i=Gp G i:=by unfold Gp;rw [Zcp _ _ _ h]
theorem Zj7 {G g:Gt}{j:Nat}(h:j < g.length):(G++g).getD (G.length+j) ([],[])=g.getD j ([],[]):=by
 rw [List.getD_eq_getElem?_getD,List.getElem?_append_right (by omega),List.getD_eq_getElem?_getD]
 congr 2;omega
theorem GOk.ext (h:GOk G){g:Gt}(hp:∀ j < g.length,(∀ p∈(g.getD j ([],[])).2,∃ q:Nat,p=q∧q < G.length+g.length∧∀ a∈(g.getD j ([],[])).1,a=G.length+j∨a∈Gd (G++g) q)∧
  (∃ p:Nat,p < G.length+j∧(p:Int)∈(g.getD j ([],[])).2)∧G.length+j∈(g.getD j ([],[])).1):GOk (G++g):=by
 have hn:=h.n
 have split:∀ b < (G++g).length,b < G.length∨∃ j < g.length,b=G.length+j:=by
  intro b hb
  rw [List.length_append] at hb
  by_cases e:b < G.length
  ·exact Or.inl e
  ·exact Or.inr ⟨b - G.length,by omega,by omega⟩
 refine⟨by rw [List.length_append];omega,by rw [Zha hn];exact h.z,by rw [Zqg hn];exact h.p0,fun b hb hb0 p hpm=>?_,fun b hb hb0=>?_,fun b hb=>?_⟩
 ·rcases split b hb with hb | ⟨j,hj,rfl⟩
  ·rw [Zqg hb] at hpm
   obtain⟨q,e,hq,ha⟩:=h.pr b hb hb0 p hpm
   refine⟨q,e,by rw [List.length_append];omega,fun a hA=>?_⟩
   rw [Zha hb] at hA
   rw [Zha hq]
   exact ha a hA
  ·unfold Gp at hpm
   rw [Zj7 hj] at hpm
   obtain⟨q,e,hq,ha⟩:=(hp j hj).1 p hpm
   refine⟨q,e,by rw [List.length_append];exact hq,fun a hA=>?_⟩
   have hA:a∈((G++g).getD (G.length+j) ([],[])).1:=hA
   rw [Zj7 hj] at hA
   exact ha a hA
 ·rcases split b hb with hb | ⟨j,hj,rfl⟩
  ·rw [Zqg hb];exact h.rc b hb hb0
  ·obtain⟨p,h1,h2⟩:=(hp j hj).2.1
   exact⟨p,h1,by unfold Gp;rw [Zj7 hj];exact h2⟩
 ·rcases split b hb with hb | ⟨j,hj,rfl⟩
  ·rw [Zha hb];exact h.s b hb
  ·unfold Gd;rw [Zj7 hj];exact (hp j hj).2.2
abbrev nxB (x:Zfk.D):List Int:=x.2.2.2.1
def Zm1:Nat→List Zfk.D→Int→List Int
 | _,[],_=>[]
 | i,b::r,k=>((nxB b).filter fun t=>decide (t=k)).map (fun _=>(i:Int))++Zm1 (i+1) r k
theorem Zxx (l:List Zfk.D)(b:Zfk.D)(k:Int):∀ i,Zm1 i (l++[b]) k=Zm1 i l k++((nxB b).filter fun t=>decide (t=k)).map (fun _=>((i+l.length:Nat):Int)):=by
 induction l with
 | nil=>intro i;simp [Zm1]
 | cons x r ih =>
  intro i
  rw [List.cons_append,Zm1,ih,Zm1,List.append_assoc,List.length_cons,show i+1+r.length=i+(r.length+1) by omega]
theorem Zq8 {l:List Zfk.D}{k:Int}(h:∀ x∈l,∀ t∈nxB x,t≠k):∀ i,Zm1 i l k=[]:=by
 induction l with
 | nil=>intro i;rfl
 | cons x r ih =>
  intro i
  rw [Zm1,ih (fun y hy=>h y (by simp [hy])) (i+1),List.append_nil,List.map_eq_nil_iff,List.filter_eq_nil_iff]
  intro t ht
  rw [decide_eq_true_eq]
  exact h x (by simp) t ht
structure Ld (s:Us)(B:List Nat)(G:Gt):Prop where
 r:Rg s B G
 gl:G.length=s.blks.length+1
 g:GOk G
 led:∀ k≤s.blks.length,Zm1 0 s.blks (k:Nat)=Gp G k
 nx:∀ x∈s.blks,∀ t∈nxB x,(0:Int)≤t∧t≤s.blks.length
 one:∀ x∈s.blks,x.2.1=2→∀ t∈nxB x,(Gp G t.toNat).length=1
 v0:∀ b < G.length,OkS s.vals B G b s.vals.length 0
theorem Ld.old (h:Ld s B G){k:Nat}(hk:s.blks.length < k):Zm1 0 s.blks (k:Int)=[]:=
 Zq8 (fun x hx t ht=>by have:=h.nx x hx t ht;omega) 0
theorem Zh8 {g:Gt}{i w:Nat}{z:Int}(h:OkS s.vals B G i w z)(hi:i < G.length){j:Nat}(hs:∀ a∈Gd G i,a∈Gd (G++g) j):OkS s.vals B (G++g) j w z:=by
 obtain⟨n,rfl,h1,h2,h3⟩:=h
 exact⟨n,rfl,h1,h2,hs _ h3⟩
theorem Zsx (a b k:Int)(hab:a≠b):[a,b].filter (fun t=>decide (t=k))=if k=a then [a] else if k=b then [b] else []:=by
 by_cases h1:k=a
 ·subst h1;simp [Ne.symm hab]
 ·by_cases h2:k=b
  ·subst h2;simp [hab]
  ·simp [h1,h2,Ne.symm h1,Ne.symm h2]
theorem Zyd (a k:Int):[a].filter (fun t=>decide (t=k))=if k=a then [a] else []:=by
 by_cases h1:k=a
 ·subst h1;simp
 ·simp [h1,Ne.symm h1]
end Go.Proofs.YtlogdohlcdhepaaDoor.base
end
section
set_option maxRecDepth 100000
namespace Go.Proofs.YtlogdohlcdhepaaDoor.base
open Go.Sh gen
variable {s s':Us}{B B':List Nat}{G:Gt}{ops:List Int}
theorem Z1h (l r:List Zfk.D)(k:Int):∀ i,Zm1 i (l++r) k=Zm1 i l k++Zm1 (i+l.length) r k:=by
 induction l with
 | nil=>intro i;simp [Zm1]
 | cons x l ih =>
  intro i
  rw [List.cons_append,Zm1,ih,Zm1,List.append_assoc,List.length_cons,show i+1+l.length=i+(l.length+1) by omega]
theorem Ld.close (h:Ld s B G){g:Gt}{xs:List Zfk.D}(R:Rg s' B' (G++g))(hbs:s'.blks=s.blks++xs)(hl:g.length=xs.length)(hg:GOk (G++g))(mo:Mo s.vals s.sts B (G++g) s'.vals s'.sts B' (G++g))
  (hlo:∀ x∈xs,∀ t∈nxB x,(s.blks.length:Int) < t∧t≤s.blks.length+xs.length) (hled:∀ j < g.length,Zm1 s.blks.length xs ((s.blks.length+1+j:Nat):Int)=(g.getD j ([],[])).2)
  (hone:∀ x∈xs,x.2.1=2→∀ t∈nxB x,∃ j < g.length,t=((s.blks.length+1+j:Nat):Int)∧((g.getD j ([],[])).2).length=1) (hsub:∀ j < g.length,∀ a∈Gd G s.blks.length,a∈(g.getD j ([],[])).1):Ld s' B' (G++g):=by
 have e1:s'.blks.length=s.blks.length+xs.length:=by rw [hbs,List.length_append]
 have hgl:=h.gl
 have hnew:∀ j < g.length,(G++g).getD (s.blks.length+1+j) ([],[])=g.getD j ([],[]):=fun j hj=>by rw [← hgl];exact Zj7 hj
 refine⟨R,by rw [List.length_append,e1];omega,hg,fun k hk=>?_,fun x hx t ht=>?_,fun x hx h2 t ht=>?_,fun b hb=>?_⟩
 ·rw [hbs,Z1h,Nat.zero_add]
  by_cases e:k≤s.blks.length
  ·rw [h.led k e,Zq8 (fun x hx t ht=>by have:=hlo x hx t ht;omega),List.append_nil,Zqg (by omega)]
  ·obtain⟨j,rfl⟩:∃ j,k=s.blks.length+1+j:=⟨k - (s.blks.length+1),by omega⟩
   rw [h.old (by omega),List.nil_append,hled j (by omega)]
   unfold Gp
   rw [hnew j (by omega)]
 ·rw [hbs,List.mem_append] at hx
  rw [e1]
  rcases hx with hx | hx
  ·have:=h.nx x hx t ht;omega
  ·have:=hlo x hx t ht;omega
 ·rw [hbs,List.mem_append] at hx
  rcases hx with hx | hx
  ·have h3:=h.nx x hx t ht
   rw [Zqg (by omega)]
   exact h.one x hx h2 t ht
  ·obtain⟨j,hj,rfl,hj1⟩:=hone x hx h2 t ht
   rw [Int.toNat_natCast]
   unfold Gp
   rw [hnew j hj];exact hj1
 ·have key:OkS s.vals B (G++g) b s.vals.length 0:=by
   by_cases e:b < G.length
   ·exact Zh8 (h.v0 b e) e (fun a ha=>by rw [Zha e];exact ha)
   ·rw [List.length_append] at hb
    obtain⟨j,rfl⟩:∃ j,b=s.blks.length+1+j:=⟨b - (s.blks.length+1),by omega⟩
    refine Zh8 (h.v0 s.blks.length (by omega)) (by omega) (fun a ha=>?_)
    unfold Gd
    rw [hnew j (by omega)]
    exact hsub j (by omega) a ha
  exact key.mono mo (Nat.le_refl _) hb mo.vl
theorem Z37 (h:Ld s B G):∃ B' G',Ld (Zl7 ops s) B' G':=by
 obtain⟨c,hc⟩:∃ c,s.blks.length=c:=⟨_,rfl⟩
 have hgl:=h.gl
 obtain⟨g,hg⟩:∃ g:Gt,g=[((c+1)::Gd G c,[(c:Int)]),((c+2)::Gd G c,[(c:Int)])]:=⟨_,rfl⟩
 have gl2:g.length=2:=by rw [hg];rfl
 have n1:(G++g).getD (c+1) ([],[])=((c+1)::Gd G c,[(c:Int)]):=by
  rw [show c+1=G.length+0 by omega,Zj7 (by omega),hg];rw [show G.length+0=c+1 by omega];rfl
 have n2:(G++g).getD (c+2) ([],[])=((c+2)::Gd G c,[(c:Int)]):=by
  rw [show c+2=G.length+1 by omega,Zj7 (by omega),hg];rw [show G.length+1=c+2 by omega];rfl
 have d1:Gd (G++g) (c+1)=(c+1)::Gd G c:=by unfold Gd;rw [n1]
 have d2:Gd (G++g) (c+2)=(c+2)::Gd G c:=by unfold Gd;rw [n2]
 have d0:Gd (G++g) c=Gd G c:=Zha (by omega)
 have p1:[(c:Int)]=Gp (G++g) (c+1):=by unfold Gp;rw [n1]
 have p2:[(c:Int)]=Gp (G++g) (c+2):=by unfold Gp;rw [n2]
 have hgk:GOk (G++g):=by
  refine h.g.ext fun j hj=>?_
  rw [gl2] at hj ⊢
  have:j=0∨j=1:=by omega
  rcases this with rfl | rfl
  ·rw [hg]
   refine⟨fun p hp=>?_,⟨c,by omega,by simp⟩,by simp;omega⟩
   have hp:p∈[(c:Int)]:=hp
   rw [List.mem_singleton] at hp
   refine⟨c,hp,by omega,fun a ha=>?_⟩
   rw [Zha (by omega)]
   rcases List.mem_cons.1 ha with rfl | ha
   ·exact Or.inl (by omega)
   ·exact Or.inr ha
  ·rw [hg]
   refine⟨fun p hp=>?_,⟨c,by omega,by simp⟩,by simp;omega⟩
   have hp:p∈[(c:Int)]:=hp
   rw [List.mem_singleton] at hp
   refine⟨c,hp,by omega,fun a ha=>?_⟩
   rw [Zha (by omega)]
   rcases List.mem_cons.1 ha with rfl | ha
   ·exact Or.inl (by omega)
   ·exact Or.inr ha
 have hGl:(G++g).length=c+3:=by rw [List.length_append,gl2];omega
 have R0:=h.r.ext g
 have okc:=R0.ok (ops:=ops)
 have Ra:=R0.any (ops:=ops)
 obtain⟨a,ea⟩:=Zmt ops s
 unfold Zl7
 dsimp only
 rw [hc] at okc ⊢
 generalize hcond:(Zbb ops s).2=cond at okc ⊢
 rw [ea] at Ra ⊢
 have dn:∀ z∈s.known,∀ j,(∀ x∈Gd G c,x∈Gd (G++g) j)→OkS s.vals B (G++g) j s.vals.length z:=fun z hz j hj=>Zh8 (h.r.kn z hz) (by omega) (by rw [hc];exact hj)
 have R2:Rg (bpP [(c:Int)] (Zbn 2 cond [(c:Int)+1,(c:Int)+2] 0 { s with at_:=a })) B (G++g):=by
  refine Ra.end (by show s.blks.length+1 < _;omega) (fun z hz=>?_) (Or.inr (Or.inl ⟨rfl,rfl,by show OkS s.vals B (G++g) s.blks.length s.vals.length cond;rw [hc];exact okc⟩)) (by show _=Gp (G++g) (s.blks.length+1);rw [hc];exact p1)
  show OkS s.vals B (G++g) (s.blks.length+1) s.vals.length z
  rw [hc]
  exact dn z hz _ (fun x hx=>by rw [d1];exact List.mem_cons_of_mem _ hx)
 obtain⟨s2,hs2⟩:∃ s2,bpP [(c:Int)] (Zbn 2 cond [(c:Int)+1,(c:Int)+2] 0 { s with at_:=a })=s2:=⟨_,rfl⟩
 have b2:s2.blks=s.blks++[(s.bv,2,cond,[(c:Int)+1,(c:Int)+2],s.bp,0,())]:=by rw [← hs2];rfl
 have b2l:s2.blks.length=c+1:=by rw [b2,List.length_append,hc];rfl
 have v2:s2.vals=s.vals:=by rw [← hs2];rfl
 have t2:s2.sts=s.sts:=by rw [← hs2];rfl
 have k2:s2.known=s.known:=by rw [← hs2];rfl
 rw [hs2] at R2 ⊢
 obtain⟨B4,R4,X4⟩:=Zk8 (ops:=ops) R2 (by rw [b2l,d1];simp)
 generalize Zfx ops s2=s4 at R4 X4 ⊢
 obtain⟨R5,X5,i5,l5,z5,v5,kn5,_⟩:=R4.state (ops:=ops)
 have K5:Ek s2 B (G++g) (Zae ops s4).1 B4:=(X4.ek R2.lb _).trans (X5.ek R4.lb _)
 generalize (Zae ops s4).2=st at i5 ⊢
 generalize (Zae ops s4).1=s5 at R5 X5 l5 z5 v5 kn5 K5 ⊢
 obtain⟨L,hL⟩:=K5.kn
 rw [k2] at hL
 obtain⟨R6,k6⟩:=R5.cut hL h.r.kne
 have M5:=K5.mo
 rw [v2,t2] at M5
 have b5:s5.blks=s2.blks:=K5.bs
 have R7:Rg (bpP [(c:Int)] (Zbn 3 0 [] st (Zgg s.known.length s5))) B4 (G++g):=by
  refine R6.end (by show s5.blks.length+1 < _;rw [b5,b2l];omega) (fun z hz=>?_) (Or.inr (Or.inr ⟨rfl,rfl,s4.sts.length,by show s4.sts.length < s5.sts.length;omega,i5,fun z hz=>?_⟩)) (by show _=Gp (G++g) (s5.blks.length+1);rw [b5,b2l];exact p2)
  ·rw [k6] at hz
   show OkS s5.vals B4 (G++g) (s5.blks.length+1) s5.vals.length z
   rw [b5,b2l]
   exact (dn z hz (c+2) (fun x hx=>by rw [d2];exact List.mem_cons_of_mem _ hx)).mono M5 (Nat.le_refl _) (by omega) M5.vl
  ·show OkS s5.vals B4 (G++g) s5.blks.length s5.vals.length z
   have:=z5 z hz
   rw [v5,b5,← X4.bs]
   exact this
 have e7:bpP [(c:Int)] (Zgg s.known.length (Zbn 3 0 [] st s5))=bpP [(c:Int)] (Zbn 3 0 [] st (Zgg s.known.length s5)):=rfl
 rw [e7]
 obtain⟨s7,hs7⟩:∃ s7,bpP [(c:Int)] (Zbn 3 0 [] st (Zgg s.known.length s5))=s7:=⟨_,rfl⟩
 have b7:s7.blks=s5.blks++[(s5.bv,3,0,[],s5.bp,st,())]:=by rw [← hs7];rfl
 have b7l:s7.blks.length=c+2:=by rw [b7,List.length_append,b5,b2l];rfl
 have v7:s7.vals=s5.vals:=by rw [← hs7];rfl
 have t7:s7.sts=s5.sts:=by rw [← hs7];rfl
 rw [hs7] at R7 ⊢
 obtain⟨B8,R8,X8⟩:=Zk8 (ops:=ops) R7 (by rw [b7l,d2];simp)
 have M8:=(X8.ek R7.lb (G++g)).mo
 rw [v7,t7] at M8
 refine⟨B8,G++g,h.close (xs:=[(s.bv,2,cond,[(c:Int)+1,(c:Int)+2],s.bp,0,()),(s5.bv,3,0,[],s5.bp,st,())]) R8 (by rw [X8.bs,b7,b5,b2,List.append_assoc];rfl) gl2 hgk (M5.trans M8) ?_ ?_ ?_ ?_⟩
 ·intro x hx t ht
  rw [hc]
  simp only [List.mem_cons,List.not_mem_nil,or_false] at hx
  rcases hx with rfl | rfl
  ·simp only [nxB,List.mem_cons,List.not_mem_nil,or_false] at ht
   simp only [List.length_cons,List.length_nil]
   omega
  ·cases ht
 ·intro j hj
  rw [gl2] at hj
  rw [hc,hg]
  simp only [Zm1,nxB,Zsx _ _ _ (show (c:Int)+1≠(c:Int)+2 by omega),List.filter_nil,List.map_nil,List.append_nil]
  have:j=0∨j=1:=by omega
  rcases this with rfl | rfl
  ·rw [if_pos (by omega)];rfl
  ·rw [if_neg (by omega),if_pos (by omega)];rfl
 ·intro x hx h2 t ht
  rw [hc,gl2,hg]
  simp only [List.mem_cons,List.not_mem_nil,or_false] at hx
  rcases hx with rfl | rfl
  ·simp only [nxB,List.mem_cons,List.not_mem_nil,or_false] at ht
   rcases ht with rfl | rfl
   ·exact⟨0,by omega,by omega,rfl⟩
   ·exact⟨1,by omega,by omega,rfl⟩
  ·cases ht
 ·intro j hj a ha
  rw [gl2] at hj
  rw [hc] at ha
  rw [hg]
  have:j=0∨j=1:=by omega
  rcases this with rfl | rfl
  ·exact List.mem_cons_of_mem _ ha
  ·exact List.mem_cons_of_mem _ ha
end Go.Proofs.YtlogdohlcdhepaaDoor.base
end
section
set_option maxRecDepth 100000
namespace Go.Proofs.YtlogdohlcdhepaaDoor.base
open Go.Sh gen
variable {s s':Us}{B B':List Nat}{G:Gt}{ops:List Int}
theorem Rg.fresh (h:Rg s B G)(hb:s.bv=[]){v:Nat}(hv:v < s.vals.length):B.getD v 0≠s.blks.length:=by
 intro e
 have:(v:Int)∈Zfy B s.blks.length:=Zee.2 ⟨v,rfl,by rw [h.lb];exact hv,e⟩
 rw [← h.bv,hb] at this
 cases this
theorem Rg.hd0 (h:Rg s B G)(hb:s.bv=[]):hdN s.vals B s.blks.length=0:=by
 unfold hdN
 rw [List.filter_eq_nil_iff.2 (fun v hv=>by
  rw [List.mem_range,h.lb] at hv
  rw [decide_eq_false (h.fresh hb hv)];simp)]
 rfl
theorem Z63 (h:Ld s B G):∃ B' G',Ld (Zwx ops s) B' G':=by
 obtain⟨c,hc⟩:∃ c,s.blks.length=c:=⟨_,rfl⟩
 have hgl:=h.gl
 obtain⟨g,hg⟩:∃ g:Gt,g=[((c+1)::Gd G c,[(c:Int)]),((c+2)::Gd G c,[(c:Int)]),((c+3)::Gd G c,[((c+1:Nat):Int),((c+2:Nat):Int)])]:=⟨_,rfl⟩
 have gl2:g.length=3:=by rw [hg];rfl
 have n1:(G++g).getD (c+1) ([],[])=((c+1)::Gd G c,[(c:Int)]):=by
  rw [show c+1=G.length+0 by omega,Zj7 (by omega),hg];rw [show G.length+0=c+1 by omega];rfl
 have n2:(G++g).getD (c+2) ([],[])=((c+2)::Gd G c,[(c:Int)]):=by
  rw [show c+2=G.length+1 by omega,Zj7 (by omega),hg];rw [show G.length+1=c+2 by omega];rfl
 have n3:(G++g).getD (c+3) ([],[])=((c+3)::Gd G c,[((c+1:Nat):Int),((c+2:Nat):Int)]):=by
  rw [show c+3=G.length+2 by omega,Zj7 (by omega),hg];rw [show G.length+2=c+3 by omega];rfl
 have d3:Gd (G++g) (c+3)=(c+3)::Gd G c:=by unfold Gd;rw [n3]
 have p3:[((c+1:Nat):Int),((c+2:Nat):Int)]=Gp (G++g) (c+3):=by unfold Gp;rw [n3]
 have d1:Gd (G++g) (c+1)=(c+1)::Gd G c:=by unfold Gd;rw [n1]
 have d2:Gd (G++g) (c+2)=(c+2)::Gd G c:=by unfold Gd;rw [n2]
 have d0:Gd (G++g) c=Gd G c:=Zha (by omega)
 have p1:[(c:Int)]=Gp (G++g) (c+1):=by unfold Gp;rw [n1]
 have p2:[(c:Int)]=Gp (G++g) (c+2):=by unfold Gp;rw [n2]
 have hgk:GOk (G++g):=by
  refine h.g.ext fun j hj=>?_
  rw [gl2] at hj ⊢
  have:j=0∨j=1∨j=2:=by omega
  rcases this with rfl | rfl | rfl
  ·rw [hg]
   refine⟨fun p hp=>?_,⟨c,by omega,by simp⟩,by simp;omega⟩
   have hp:p∈[(c:Int)]:=hp
   rw [List.mem_singleton] at hp
   refine⟨c,hp,by omega,fun a ha=>?_⟩
   rw [Zha (by omega)]
   rcases List.mem_cons.1 ha with rfl | ha
   ·exact Or.inl (by omega)
   ·exact Or.inr ha
  ·rw [hg]
   refine⟨fun p hp=>?_,⟨c,by omega,by simp⟩,by simp;omega⟩
   have hp:p∈[(c:Int)]:=hp
   rw [List.mem_singleton] at hp
   refine⟨c,hp,by omega,fun a ha=>?_⟩
   rw [Zha (by omega)]
   rcases List.mem_cons.1 ha with rfl | ha
   ·exact Or.inl (by omega)
   ·exact Or.inr ha
  ·refine⟨fun p hp=>?_,⟨c+1,by omega,by rw [hg];simp⟩,by rw [hg];simp;omega⟩
   have hp:p∈(g.getD 2 ([],[])).2:=hp
   rw [hg] at hp
   have hp:p∈[((c+1:Nat):Int),((c+2:Nat):Int)]:=hp
   have ha3:∀ a∈(g.getD 2 ([],[])).1,a=G.length+2∨a∈Gd G c:=fun a ha=>by
    rw [hg] at ha
    rcases List.mem_cons.1 ha with rfl | ha
    ·exact Or.inl (by omega)
    ·exact Or.inr ha
   simp only [List.mem_cons,List.not_mem_nil,or_false] at hp
   rcases hp with rfl | rfl
   ·exact⟨c+1,rfl,by omega,fun a ha=>(ha3 a ha).imp id (fun h=>by rw [d1];exact List.mem_cons_of_mem _ h)⟩
   ·exact⟨c+2,rfl,by omega,fun a ha=>(ha3 a ha).imp id (fun h=>by rw [d2];exact List.mem_cons_of_mem _ h)⟩
 have hGl:(G++g).length=c+4:=by rw [List.length_append,gl2];omega
 have R0:=h.r.ext g
 have okc:=R0.ok (ops:=ops)
 have Ra:=R0.any (ops:=ops)
 obtain⟨a,ea⟩:=Zmt ops s
 unfold Zwx
 dsimp only
 rw [hc] at okc ⊢
 generalize hcond:(Zbb ops s).2=cond at okc ⊢
 rw [ea] at Ra ⊢
 have dn:∀ z∈s.known,∀ j,(∀ x∈Gd G c,x∈Gd (G++g) j)→OkS s.vals B (G++g) j s.vals.length z:=fun z hz j hj=>Zh8 (h.r.kn z hz) (by omega) (by rw [hc];exact hj)
 have R2:Rg (bpP [(c:Int)] (Zbn 2 cond [(c:Int)+1,(c:Int)+2] 0 { s with at_:=a })) B (G++g):=by
  refine Ra.end (by show s.blks.length+1 < _;omega) (fun z hz=>?_) (Or.inr (Or.inl ⟨rfl,rfl,by show OkS s.vals B (G++g) s.blks.length s.vals.length cond;rw [hc];exact okc⟩)) (by show _=Gp (G++g) (s.blks.length+1);rw [hc];exact p1)
  show OkS s.vals B (G++g) (s.blks.length+1) s.vals.length z
  rw [hc]
  exact dn z hz _ (fun x hx=>by rw [d1];exact List.mem_cons_of_mem _ hx)
 obtain⟨s2,hs2⟩:∃ s2,bpP [(c:Int)] (Zbn 2 cond [(c:Int)+1,(c:Int)+2] 0 { s with at_:=a })=s2:=⟨_,rfl⟩
 have b2:s2.blks=s.blks++[(s.bv,2,cond,[(c:Int)+1,(c:Int)+2],s.bp,0,())]:=by rw [← hs2];rfl
 have b2l:s2.blks.length=c+1:=by rw [b2,List.length_append,hc];rfl
 have v2:s2.vals=s.vals:=by rw [← hs2];rfl
 have t2:s2.sts=s.sts:=by rw [← hs2];rfl
 have k2:s2.known=s.known:=by rw [← hs2];rfl
 rw [hs2] at R2 ⊢
 obtain⟨B4,R4,X4⟩:=Zk8 (ops:=ops) R2 (by rw [b2l,d1];simp)
 have b4l:(Zfx ops s2).blks.length=c+1:=by rw [X4.bs,b2l]
 obtain⟨s4,hs4⟩:∃ s4,Zfx ops s2=s4:=⟨_,rfl⟩
 rw [hs4] at R4 X4 b4l ⊢
 have K4:=X4.ek R2.lb (G++g)
 obtain⟨L,hL⟩:=K4.kn
 rw [k2] at hL
 obtain⟨R5,k5⟩:=R4.cut hL h.r.kne
 have M4:=K4.mo
 rw [v2,t2] at M4
 have x4:=R4.last
 rw [b4l] at x4
 rw [show ((s4.blks.length:Nat):Int)+2=(c:Int)+3 by omega,show ((s4.blks.length:Nat):Int)=((c+1:Nat):Int) by omega]
 have R6:Rg (bpP [(c:Int)] (Zbn 1 0 [(c:Int)+3] 0 (Zgg s.known.length s4))) B4 (G++g):=by
  refine R5.end (by show s4.blks.length+1 < _;omega) (fun z hz=>?_) (Or.inl ⟨rfl,rfl⟩) (by show _=Gp (G++g) (s4.blks.length+1);rw [b4l];exact p2)
  rw [k5] at hz
  show OkS s4.vals B4 (G++g) (s4.blks.length+1) s4.vals.length z
  rw [b4l]
  exact (dn z hz (c+2) (fun x hx=>by rw [d2];exact List.mem_cons_of_mem _ hx)).mono M4 (Nat.le_refl _) (by omega) M4.vl
 obtain⟨s6,hs6⟩:∃ s6,bpP [(c:Int)] (Zbn 1 0 [(c:Int)+3] 0 (Zgg s.known.length s4))=s6:=⟨_,rfl⟩
 have b6:s6.blks=s4.blks++[(s4.bv,1,0,[(c:Int)+3],s4.bp,0,())]:=by rw [← hs6];rfl
 have b6l:s6.blks.length=c+2:=by rw [b6,List.length_append,b4l];rfl
 have v6:s6.vals=s4.vals:=by rw [← hs6];rfl
 have t6:s6.sts=s4.sts:=by rw [← hs6];rfl
 have k6:s6.known=s.known:=by rw [← hs6];exact k5
 rw [hs6] at R6 ⊢
 obtain⟨B7,R7,X7⟩:=Zk8 (ops:=ops) R6 (by rw [b6l,d2];simp)
 have b7l:(Zfx ops s6).blks.length=c+2:=by rw [X7.bs,b6l]
 obtain⟨s7,hs7⟩:∃ s7,Zfx ops s6=s7:=⟨_,rfl⟩
 rw [hs7] at R7 X7 b7l ⊢
 have K7:=X7.ek R6.lb (G++g)
 obtain⟨L7,hL7⟩:=K7.kn
 rw [k6] at hL7
 obtain⟨R8,k8⟩:=R7.cut hL7 h.r.kne
 have M7:=K7.mo
 rw [v6,t6] at M7
 have x7:=R7.last
 rw [b7l] at x7
 rw [show ((s7.blks.length:Nat):Int)+1=(c:Int)+3 by omega,show ((s7.blks.length:Nat):Int)=((c+2:Nat):Int) by omega]
 have R9:Rg (bpP [((c+1:Nat):Int),((c+2:Nat):Int)] (Zbn 1 0 [(c:Int)+3] 0 (Zgg s.known.length s7))) B7 (G++g):=by
  refine R8.end (by show s7.blks.length+1 < _;omega) (fun z hz=>?_) (Or.inl ⟨rfl,rfl⟩) (by show _=Gp (G++g) (s7.blks.length+1);rw [b7l];exact p3)
  rw [k8] at hz
  show OkS s7.vals B7 (G++g) (s7.blks.length+1) s7.vals.length z
  rw [b7l]
  exact ((dn z hz (c+3) (fun x hx=>by rw [d3];exact List.mem_cons_of_mem _ hx)).mono M4 (Nat.le_refl _) (by omega) M4.vl).mono M7 (Nat.le_refl _) (by omega) M7.vl
 obtain⟨s9,hs9⟩:∃ s9,bpP [((c+1:Nat):Int),((c+2:Nat):Int)] (Zbn 1 0 [(c:Int)+3] 0 (Zgg s.known.length s7))=s9:=⟨_,rfl⟩
 have b9:s9.blks=s7.blks++[(s7.bv,1,0,[(c:Int)+3],s7.bp,0,())]:=by rw [← hs9];rfl
 have b9l:s9.blks.length=c+3:=by rw [b9,List.length_append,b7l];rfl
 have v9:s9.vals=s7.vals:=by rw [← hs9];rfl
 have t9:s9.sts=s7.sts:=by rw [← hs9];rfl
 have n9:s9.bv=[]:=by rw [← hs9];rfl
 rw [hs9] at R9 ⊢
 have y4:OkS s9.vals B7 (G++g) (c+1) s9.vals.length (Zcw s4):=by rw [v9];exact x4.mono M7 (Nat.le_refl _) (by omega) M7.vl
 have y7:OkS s9.vals B7 (G++g) (c+2) s9.vals.length (Zcw s7):=by rw [v9];exact x7
 have hp:Znk s9 B7 (G++g) (21,0,0,0,[Zcw s4,Zcw s7],0,()):=by
  refine⟨rfl,fun h0=>absurd rfl h0,fun h0=>(by cases h0),fun h0=>(by cases h0),fun _=>⟨by omega,by rw [b9l,← p3];rfl,fun j hj=>?_⟩,fun h0=>(by cases h0),fun _ v hv hB=>absurd hB (R9.fresh n9 hv),fun _=>by rw [R9.hd0 n9];exact Nat.zero_le _⟩
  rw [b9l,← p3]
  have hj:j < 2:=hj
  have:j=0∨j=1:=by omega
  rcases this with rfl | rfl
  ·exact⟨c+1,rfl,by omega,y4⟩
  ·exact⟨c+2,rfl,by omega,y7⟩
 obtain⟨Ra0,Xa0⟩:=R9.knp hp (by rw [b9l,d3];simp) rfl
 obtain⟨B8,R8',X8⟩:=Zk8 (ops:=ops) Ra0 (by rw [Xa0.bs,b9l,d3];simp)
 have M8:=((Xa0.trans X8).ek R9.lb (G++g)).mo
 rw [v9,t9] at M8
 refine⟨B8,G++g,h.close (xs:=[(s.bv,2,cond,[(c:Int)+1,(c:Int)+2],s.bp,0,()),(s4.bv,1,0,[(c:Int)+3],s4.bp,0,()),(s7.bv,1,0,[(c:Int)+3],s7.bp,0,())]) R8' (by rw [X8.bs,Xa0.bs,b9,X7.bs,b6,X4.bs,b2,List.append_assoc,List.append_assoc];rfl) gl2 hgk ((M4.trans M7).trans M8) ?_ ?_ ?_ ?_⟩
 ·intro x hx t ht
  rw [hc]
  simp only [List.mem_cons,List.not_mem_nil,or_false] at hx
  rcases hx with rfl | rfl | rfl
  all_goals
   simp only [nxB,List.mem_cons,List.not_mem_nil,or_false] at ht
   simp only [List.length_cons,List.length_nil]
   omega
 ·intro j hj
  rw [gl2] at hj
  rw [hc,hg]
  simp only [Zm1,nxB,Zsx _ _ _ (show (c:Int)+1≠(c:Int)+2 by omega),Zyd,List.append_nil]
  have:j=0∨j=1∨j=2:=by omega
  rcases this with rfl | rfl | rfl
  ·rw [if_pos (by omega),if_neg (by omega)];rfl
  ·rw [if_neg (by omega),if_pos (by omega),if_neg (by omega)];rfl
  ·rw [if_neg (by omega),if_neg (by omega),if_pos (by omega)];rfl
 ·intro x hx h2 t ht
  rw [hc,gl2,hg]
  simp only [List.mem_cons,List.not_mem_nil,or_false] at hx
  rcases hx with rfl | rfl | rfl
  ·simp only [nxB,List.mem_cons,List.not_mem_nil,or_false] at ht
   rcases ht with rfl | rfl
   ·exact⟨0,by omega,by omega,rfl⟩
   ·exact⟨1,by omega,by omega,rfl⟩
  ·cases h2
  ·cases h2
 ·intro j hj a ha
  rw [gl2] at hj
  rw [hc] at ha
  rw [hg]
  have:j=0∨j=1∨j=2:=by omega
  rcases this with rfl | rfl | rfl
  all_goals exact List.mem_cons_of_mem _ ha
end Go.Proofs.YtlogdohlcdhepaaDoor.base
end
