/- This text proves that ssa.Check takes a unit that bears a certificate, in plain Lean. No condition but what the theorems themselves say. -/
import Derived.Test.YtlogdohlcdhepaaDoorM17
set_option linter.unusedVariables false
set_option linter.unusedSimpArgs false
section
set_option maxRecDepth 100000
namespace Go.Proofs.YtlogdohlcdhepaaDoor.base
open Go.Sh gen
variable {u:UnT.D}{B:List Nat}{D:List (List Nat)}
theorem OkV.there {i w:Nat}{z:Int}(hw:w≤nv u)(h:OkV u B D i w z):(Zc z (nv u) && !noW (Za1 u z).1)=true:=by
 obtain⟨n,rfl,hn,h1,_⟩:=h
 rw [h1,Zcy.2 ⟨by omega,by omega⟩];rfl
theorem Zra {i w:Nat}{l:List Int}(hw:w≤nv u)(h:∀ z∈l,OkV u B D i w z):Zcf u l=true:=by
 unfold Zcf
 rw [List.all_eq_true]
 exact fun z hz=>(h z hz).there hw
theorem UR.pos (h:UR u B D):0 < nb u:=Zq4 h.sz
theorem UR.bl (h:UR u B D){bl pl:List Int}(hS:Zj8 u bl pl){n:Nat}(hn:n < nv u):bl.getD n 0=(B.getD n 0:Nat)∧∃ q:Nat,pl.getD n 0=(q:Int)∧q < (vlD u (B.getD n 0)).length∧(vlD u (B.getD n 0)).getD q 0=(n:Int):=by
 have hbn:=h.vb n hn
 have hm:(n:Int)∈Zfy B (B.getD n 0):=Zee.2 ⟨n,rfl,by rw [h.lb];exact hn,rfl⟩
 rw [← h.vl _ hbn] at hm
 obtain⟨q,hq,hqe⟩:=List.mem_iff_getElem.1 hm
 obtain⟨n',g1,g2,g3,g4⟩:=hS.at_ (B.getD n 0) hbn q hq
 have e:(vlD u (B.getD n 0)).getD q 0=(n:Int):=by rw [List.getD_eq_getElem?_getD,List.getElem?_eq_getElem hq];exact hqe
 have:n'=n:=by omega
 subst this
 exact⟨g3,q,g4,hq,e⟩
theorem UR.pl_lt (h:UR u B D){bl pl:List Int}(hS:Zj8 u bl pl){n w:Nat}(hw:w < nv u)(hnw:n < w)(hB:B.getD n 0=B.getD w 0):pl.getD n 0 < pl.getD w 0:=by
 obtain⟨_,q,h1,h2,h3⟩:=h.bl hS (show n < nv u by omega)
 obtain⟨_,r,h4,h5,h6⟩:=h.bl hS hw
 rw [hB,h.vl _ (h.vb w hw)] at h2 h3
 rw [h.vl _ (h.vb w hw)] at h5 h6
 rw [h1,h4]
 apply Decidable.byContradiction
 intro hc
 by_cases e:q=r
 ·subst e;omega
 ·have:=Z3m (Zi6 B _) h2 (show r < q by omega)
  omega
section
variable {bl pl I:List Int}
theorem UR.seen (h:UR u B D)(hS:Zj8 u bl pl)(hI:∀ a b:Nat,a < nb u→b < nb u→(upF I (a:Int) (nb u+2) (b:Int)=true↔¬ Av u a b)){i w:Nat}{place z:Int}(hi:i < nb u)(hw:w≤nv u)(hz:OkV u B D i w z)
  (hp:∀ n:Nat,n < w→z=n→B.getD n 0=i→pl.getD n 0 < place):Zme u bl pl I i place z=true:=by
 obtain⟨n,rfl,hn,_,hD⟩:=hz
 have hb:=(h.bl hS (show n < nv u by omega)).1
 have hbn:=h.vb n (by omega)
 unfold Zme
 rw [Int.toNat_natCast,hb,(hI _ _ hbn hi).2 (fun hA=>h.av hA hi hD),Bool.and_true,Bool.not_eq_true',Bool.and_eq_false_iff]
 by_cases e:B.getD n 0=i
 ·have:=hp n hn rfl e
  exact Or.inr (decide_eq_false (by omega))
 ·exact Or.inl (decide_eq_false (by omega))
theorem Zjq {i:Nat}{place:Int}{l:List Int}(h:∀ z∈l,Zme u bl pl I i place z=true):Zii u bl pl I i place l=true:=by
 unfold Zii;exact List.all_eq_true.2 h
theorem Zn7 {i:Nat}{place:Int}{fs:List Zmw.D}(h:∀ z∈stL fs,Zme u bl pl I i place z=true):Zgx u bl pl I i place fs=true:=by
 unfold Zgx
 rw [List.all_eq_true]
 intro f hf
 unfold Zqf
 rw [Bool.and_eq_true]
 refine⟨Zjq fun z hz=>h z ?_,Zjq fun z hz=>h z ?_⟩
 ·unfold stL;rw [List.mem_flatMap];exact⟨f,hf,List.mem_append_left _ hz⟩
 ·unfold stL;rw [List.mem_flatMap];exact⟨f,hf,List.mem_append_right _ hz⟩
theorem Zz:∀ (l p:List Int),(∀ j < l.length,j < p.length→Zme u bl pl I (p.getD j 0) (vlD u (p.getD j 0).toNat).length (l.getD j 0)=true)→Z3f u bl pl I l p=true
 | [],p,_=>by cases p <;> rfl
 | a::r,[],_=>rfl
 | a::r,p::q,h=>by
  rw [Z3f,Bool.and_eq_true]
  refine⟨?_,Zz r q fun j h1 h2=>?_⟩
  ·have:=h 0 (by simp) (by simp)
   unfold Zii
   rw [List.all_cons,List.all_nil,Bool.and_true]
   exact this
  ·have:=h (j+1) (by simpa using h1) (by simpa using h2)
   exact this
theorem Zrj (i:Nat):∀ (l:List Int) (k:Nat),(∀ j < l.length,Zuf u bl pl I i (k+j) (l.getD j 0)=true)→Zjo u bl pl I i k l=true
 | [],_,_=>rfl
 | n::r,k,h=>by
  rw [Zjo,Bool.and_eq_true]
  refine⟨h 0 (by simp),Zrj i r (k+1) fun j hj=>?_⟩
  have:=h (j+1) (by simpa using hj)
  rw [show k+(j+1)=k+1+j by omega] at this
  exact this
theorem UR.taken (h:UR u B D)(hS:Zj8 u bl pl)(hI:∀ a b:Nat,a < nb u→b < nb u→(upF I (a:Int) (nb u+2) (b:Int)=true↔¬ Av u a b)){i:Nat}(hi:i < nb u):Zk6 u bl pl I i=true:=by
 have hend:∀ (j:Nat) (z:Int),j < nb u→OkV u B D j (nv u) z→Zme u bl pl I j (vlD u j).length z=true:=by
  intro j z hj hz
  refine h.seen hS hI hj (Nat.le_refl _) hz fun n hn _ hB=>?_
  obtain⟨_,q,h1,h2,_⟩:=h.bl hS hn
  rw [hB] at h2
  omega
 unfold Zk6
 rw [Bool.and_eq_true]
 constructor
 ·refine Zrj i _ 0 fun k hk=>?_
  rw [Nat.zero_add]
  obtain⟨v,g1,g2,g3,g4⟩:=hS.at_ i hi k hk
  rw [g1]
  have hbv:B.getD v 0=i:=by have:=(h.bl hS g2).1;omega
  have hv:=h.va v g2
  unfold Zuf
  split
  ·rename_i h21
   obtain⟨p1,p2⟩:=hv.ph h21
   rw [hbv] at p1 p2
   refine Zz _ _ fun j hj hj2=>?_
   obtain⟨q,hq,hqn,hok⟩:=p2 j hj
   have e:(prD u i).getD j 0=(q:Int):=hq
   rw [e,Int.toNat_natCast]
   exact hend q _ hqn hok
  ·rename_i h21
   have hsee:∀ z,OkV u B D (B.getD v 0) v z→Zme u bl pl I i k z=true:=by
    intro z hz
    rw [hbv] at hz
    refine h.seen hS hI hi (by omega) hz fun n hn _ hB=>?_
    have:=h.pl_lt hS g2 hn (by rw [hB,hbv])
    omega
   rw [Bool.and_eq_true]
   refine⟨Zjq fun z hz=>hsee z (hv.us h21 z hz),?_⟩
   cases hl:lvs (Za1 u (v:Nat)).1 with
   | false=>rfl
   | true =>
    obtain⟨st,hst,e,hz⟩:=hv.lv hl
    have e':(show Int from (Za1 u (v:Nat)).2.2.2.2.2.1).toNat=st:=by rw [e,Int.toNat_natCast]
    rw [e']
    exact Zn7 fun z hz'=>hsee z (hz z hz')
 ·unfold Zqp
  split
  ·rename_i h2
   rcases h.en i hi with⟨e,_⟩ | ⟨_,_,_,hc⟩ | ⟨e,_⟩
   ·rw [h2] at e;cases e
   ·exact Zjq fun z hz=>by
     rw [List.mem_singleton] at hz;subst hz;exact hend i _ hi hc
   ·rw [h2] at e;cases e
  ·split
   ·rename_i h3
    rcases h.en i hi with⟨e,_⟩ | ⟨e,_⟩ | ⟨_,_,st,hst,e,hz⟩
    ·rw [h3] at e;cases e
    ·rw [h3] at e;cases e
    ·have e':(show Int from (Zbt u i).2.2.2.2.2.1).toNat=st:=by rw [e,Int.toNat_natCast]
     rw [e']
     exact Zn7 fun z hz'=>hend i z hi (hz z hz')
   ·rfl
end
theorem UR.ends (h:UR u B D):Zrf u=true:=by
 refine Zfp.2 fun i hi=>?_
 unfold Zm3
 rw [Bool.and_eq_true]
 refine⟨List.all_eq_true.2 fun k hk=>Zcy.2 (h.nx i hi k hk),?_⟩
 rcases h.en i hi with⟨e,e2⟩ | ⟨e,e2,_,hc⟩ | ⟨e,e2,st,hst,e3,_⟩
 ·rw [if_pos e];exact decide_eq_true e2
 ·rw [if_neg (by rw [e];decide),if_pos e,Bool.and_eq_true]
  refine⟨decide_eq_true e2,Zra (Nat.le_refl _) (B:=B) (D:=D) (i:=i) fun z hz=>?_⟩
  rw [List.mem_singleton] at hz;subst hz;exact hc
 ·rw [if_neg (by rw [e];decide),if_neg (by rw [e];decide),if_pos e,Bool.and_eq_true]
  exact⟨decide_eq_true e2,Zcy.2 (by rw [e3];omega)⟩
theorem UR.led (h:UR u B D):Zp0 u=true:=by
 refine Zfp.2 fun i hi=>?_
 unfold Z2n
 rw [Bool.and_eq_true]
 constructor
 ·rw [Bool.or_eq_true]
  refine Or.inr (Zfp.2 fun k hk=>?_)
  unfold Z2m eqF
  rw [h.pr k hk,Bool.and_eq_true]
  refine⟨decide_eq_true rfl,?_⟩
  by_cases e:k=0
  ·subst e;rw [h.p0];rfl
  ·rw [decide_eq_false e];rfl
 ·rw [List.all_eq_true]
  intro t ht
  unfold Z4d
  rcases h.en i hi with⟨e,_⟩ | ⟨_,_,ht2,_⟩ | ⟨e,_⟩
  ·rw [decide_eq_false (by rw [e];decide)];rfl
  ·rw [decide_eq_true (ht2 t ht)];simp
  ·rw [decide_eq_false (by rw [e];decide)];rfl
theorem UR.vals (h:UR u B D){bl pl:List Int}(hS:Zj8 u bl pl):Zr8 u bl=true:=by
 refine Zfp.2 fun v hv=>?_
 have hc:=h.va v hv
 unfold Zwy
 rw [Bool.and_eq_true,Bool.and_eq_true,Bool.and_eq_true]
 refine⟨⟨⟨hc.op,?_⟩,?_⟩,?_⟩
 ·by_cases h21:(Za1 u (v:Nat)).1=21
  ·obtain⟨p1,p2⟩:=hc.ph h21
   unfold Zcf
   rw [List.all_eq_true]
   intro z hz
   have hu:Zcc (Za1 u (v:Nat))=agV u v:=by
    unfold Zcc Ze7
    rw [h21];rfl
   rw [hu] at hz
   obtain⟨j,hj,rfl⟩:=List.mem_iff_getElem.1 hz
   obtain⟨q,_,_,hok⟩:=p2 j hj
   rw [List.getD_eq_getElem?_getD,List.getElem?_eq_getElem hj] at hok
   exact hok.there (Nat.le_refl _)
  ·exact Zra (Nat.le_of_lt hv) (hc.us h21)
 ·cases hl:lvs (Za1 u (v:Nat)).1 with
  | false=>rfl
  | true =>
   obtain⟨st,hst,e,_⟩:=hc.lv hl
   rw [Zcy.2 (by rw [e];omega)];rfl
 ·split
  ·rename_i e;exact decide_eq_true (hc.pa e)
  ·split
   ·rename_i e
    refine decide_eq_true ?_
    unfold Zrb
    rw [(h.bl hS hv).1,Int.toNat_natCast]
    exact (hc.ph e).1
   ·split
    ·rename_i e
     obtain⟨a1,a2,a3⟩:=hc.pm e
     rw [Bool.and_eq_true,Bool.and_eq_true,Bool.not_eq_true']
     refine⟨⟨decide_eq_true a1,decide_eq_true a2⟩,?_⟩
     rw [List.any_eq_false]
     intro x hx
     obtain⟨w,hw,rfl⟩:=List.mem_iff_getElem.1 hx
     rw [List.length_take] at hw
     rw [List.getElem_take]
     have:=a3 w (by omega)
     rw [Zeg (show w < nv u by omega)] at this
     rw [this];simp
    ·rfl
theorem UR.pre (h:UR u B D):∃ s,Znf u=some s:=by
 obtain⟨s,hs⟩:=h.stand
 have hS:=Zho hs
 refine⟨s,?_⟩
 unfold Znf
 rw [if_pos (by rw [Bool.and_eq_true];exact⟨h.sz,Zfp.2 fun k hk=>h.st k hk⟩),hs]
 simp [Option.filter,h.vals hS,h.ends,h.led]
theorem Z4b {u:UnT.D}{s:StS}(h:Znf u=some s):Zdm u=some s:=by
 unfold Znf at h
 split at h
 ·exact (Option.filter_eq_some_iff.1 h).1
 ·cases h
theorem UR.right (h:UR u B D){O I:List Int}(hT:Z2g u O I)(hO:∃ sn,Z1m u (sn,O.reverse,[]))(hI:O.length=nb u→∀ a b:Nat,a < nb u→b < nb u→(upF I (a:Int) (nb u+2) (b:Int)=true↔¬ Av u a b)):Zjm u O I=true:=by
  obtain⟨s,hp⟩:=h.pre
  have hs:=Z4b hp
  have hS:=Zho hs
  have hnx:=Zl1 h.ends
  have hlen:O.length=nb u:=by
    obtain⟨sn,hV⟩:=hO
    have hz:(0:Int)∈O.reverse:=List.mem_of_getLast? (hV.ne rfl)
    have hall:∀ M k:Nat,k≤M→k < nb u→(k:Int)∈O.reverse:=by
      intro M
      induction M with
      | zero => intro k hk _;have:k=0:=by omega
                subst this;exact hz
      | succ M ih =>
        intro k hk hkn
        by_cases e:k=0
        · subst e;exact hz
        obtain⟨p,hpk,hpm⟩:=h.rc k hkn e
        have hpo:=ih p (by omega) (by omega)
        rw [← h.pr k hkn] at hpm
        have hkp:=((Zic hnx hkn).1 hpm).2
        have:=hV.cp _ hpo (k:Int) (by rw [Int.toNat_natCast];exact hkp)
        dsimp only at this
        rw [Int.toNat_natCast] at this
        rcases (hV.mem k hkn).1 this with h1 | ⟨i,h1⟩
        · exact h1
        · cases h1
    have hc:=hV.cnt
    dsimp only at hc
    have hsn:sn.count true=nb u:=by
      rw [← hV.sl]
      rw [List.count_eq_length]
      intro b hb
      obtain⟨k,hk,rfl⟩:=List.mem_iff_getElem.1 hb
      have hkn:k < nb u:=by rw [← hV.sl];exact hk
      have:=(hV.mem k hkn).2 (Or.inl (hall k k (Nat.le_refl _) hkn))
      dsimp only at this
      rw [List.getD_eq_getElem?_getD,List.getElem?_eq_getElem hk] at this
      exact this.symm
    rw [hsn] at hc
    simpa using hc
  unfold Zjm
  rw [hp]
  dsimp only
  rw [Bool.and_eq_true]
  exact⟨decide_eq_true hlen,Zfp.2 fun i hi=>h.taken hS (hI hlen) hi⟩
end Go.Proofs.YtlogdohlcdhepaaDoor.base
end
section
set_option maxRecDepth 100000
namespace Go.Proofs.YtlogdohlcdhepaaDoor.base
open Go.Sh gen
abbrev Gt:=List (List Nat × List Int)
abbrev Gd (G:Gt)(b:Nat):List Nat:=(G.getD b ([],[])).1
abbrev Gp (G:Gt)(b:Nat):List Int:=(G.getD b ([],[])).2
def vAt (vals:List Zbj.D)(n:Nat):Zbj.D:=vals.getD n ((0:Int),(0:Int),(0:Int),(0:Int),([]:List Int),(0:Int),())
def bAt (bs:List Zfk.D)(i:Nat):Zfk.D:=bs.getD i (([]:List Int),(0:Int),(0:Int),([]:List Int),([]:List Int),(0:Int),())
def sAt (sts:List StT.D)(i:Nat):List Zmw.D:=(sts.getD i (([]:List Zmw.D),())).1
abbrev nA (x:Zbj.D):Int:=x.2.2.2.1
def OkS (vals:List Zbj.D)(B:List Nat)(G:Gt)(i w:Nat)(z:Int):Prop:=∃ n:Nat,z=n∧n < w∧noW (vAt vals n).1=false∧B.getD n 0∈Gd G i
structure VS (vals:List Zbj.D)(sts:List StT.D)(B:List Nat)(G:Gt)(v:Nat):Prop where
 op:Zvj (vAt vals v).1=true
 ph:(vAt vals v).1=21→(Ze3 (vAt vals v)).length=(Gp G (B.getD v 0)).length∧∀ j < (Ze3 (vAt vals v)).length,∃ q:Nat,(Gp G (B.getD v 0)).getD j 0=q∧q < G.length∧OkS vals B G q vals.length ((Ze3 (vAt vals v)).getD j 0)
 us:(vAt vals v).1≠21→∀ z∈Zcc (vAt vals v),OkS vals B G (B.getD v 0) v z
 pa:(vAt vals v).1=20→(Ze3 (vAt vals v)).length=1
 lv:lvs (vAt vals v).1=true→∃ st < sts.length,(show Int from (vAt vals v).2.2.2.2.2.1)=(st:Nat)∧∀ z∈stL (sAt sts st),OkS vals B G (B.getD v 0) v z
 pm:(vAt vals v).1=1→0≤nA (vAt vals v)∧nA (vAt vals v) < 40∧∀ w < v,Zlh (nA (vAt vals v)) (vAt vals w)=false
structure Mo (vals:List Zbj.D)(sts:List StT.D)(B:List Nat)(G:Gt)(vals':List Zbj.D)(sts':List StT.D)(B':List Nat)(G':Gt):Prop where
 vl:vals.length≤vals'.length
 vo:∀ n < vals.length,(vAt vals' n).1=(vAt vals n).1∧nA (vAt vals' n)=nA (vAt vals n)
 bo:∀ n < vals.length,B'.getD n 0=B.getD n 0
 sl:sts.length≤sts'.length
 so:∀ n < sts.length,sAt sts' n=sAt sts n
 gl:G.length≤G'.length
 go:∀ i < G.length,G'.getD i ([],[])=G.getD i ([],[])
variable {vals vals':List Zbj.D}{sts sts':List StT.D}{B B':List Nat}{G G':Gt}
theorem OkS.mono {i w w':Nat}{z:Int}(h:OkS vals B G i w z)(k:Mo vals sts B G vals' sts' B' G')(hw:w≤vals.length)(hi:i < G.length)(hw':w≤w'):OkS vals' B' G' i w' z:=by
 obtain⟨n,rfl,h1,h2,h3⟩:=h
 refine⟨n,rfl,by omega,by rw [(k.vo n (by omega)).1];exact h2,?_⟩
 unfold Gd
 rw [k.bo n (by omega),k.go i hi]
 exact h3
theorem OkS.sub {i j w:Nat}{z:Int}(h:OkS vals B G i w z)(hs:∀ a∈Gd G i,a∈Gd G j):OkS vals B G j w z:=by
 obtain⟨n,rfl,h1,h2,h3⟩:=h
 exact⟨n,rfl,h1,h2,hs _ h3⟩
theorem VS.mono {v:Nat}(h:VS vals sts B G v)(k:Mo vals sts B G vals' sts' B' G')(hv:v < vals.length)(hB:B.getD v 0 < G.length)(he:vAt vals' v=vAt vals v):VS vals' sts' B' G' v:=by
 have eB:=k.bo v hv
 have eG:=k.go _ hB
 refine⟨by rw [he];exact h.op,fun h0=>?_,fun h0 z hz=>?_,fun h0=>?_,fun h0=>?_,fun h0=>?_⟩
 ·rw [he] at h0 ⊢
  rw [eB]
  unfold Gp
  rw [eG]
  obtain⟨g1,g2⟩:=h.ph h0
  refine⟨g1,fun j hj=>?_⟩
  obtain⟨q,g3,g4,g5⟩:=g2 j hj
  exact⟨q,g3,by have:=k.gl;omega,g5.mono k (Nat.le_refl _) g4 k.vl⟩
 ·rw [he] at h0 hz
  rw [eB]
  exact (h.us h0 z hz).mono k (by omega) hB (Nat.le_refl _)
 ·rw [he] at h0 ⊢;exact h.pa h0
 ·rw [he] at h0 ⊢
  obtain⟨st,h1,h2,h3⟩:=h.lv h0
  refine⟨st,by have:=k.sl;omega,h2,fun z hz=>?_⟩
  rw [k.so st h1] at hz
  rw [eB]
  exact (h3 z hz).mono k (by omega) hB (Nat.le_refl _)
 ·rw [he] at h0 ⊢
  obtain⟨h1,h2,h3⟩:=h.pm h0
  refine⟨h1,h2,fun w hw=>?_⟩
  have:=h3 w hw
  have e:=k.vo w (by omega)
  unfold Zlh at this ⊢
  rw [e.1]
  have e2:(show Int from (vAt vals' w).2.2.2.1)=(show Int from (vAt vals w).2.2.2.1):=e.2
  rw [e2]
  exact this
def EnS (vals:List Zbj.D)(sts:List StT.D)(B:List Nat)(G:Gt)(i:Nat)(x:Zfk.D):Prop:=
 (x.2.1=1∧List.length x.2.2.2.1=1)∨(x.2.1=2∧List.length x.2.2.2.1=2∧OkS vals B G i vals.length x.2.2.1)∨
  (x.2.1=3∧List.length x.2.2.2.1=0∧∃ st < sts.length,(show Int from x.2.2.2.2.2.1)=(st:Nat)∧∀ z∈stL (sAt sts st),OkS vals B G i vals.length z)
theorem EnS.mono {i:Nat}{x:Zfk.D}(h:EnS vals sts B G i x)(k:Mo vals sts B G vals' sts' B' G')(hi:i < G.length):EnS vals' sts' B' G' i x:=by
 rcases h with h | ⟨h1,h2,h3⟩ | ⟨h1,h2,st,h3,h4,h5⟩
 ·exact Or.inl h
 ·exact Or.inr (Or.inl ⟨h1,h2,h3.mono k (Nat.le_refl _) hi k.vl⟩)
 ·refine Or.inr (Or.inr ⟨h1,h2,st,by have:=k.sl;omega,h4,fun z hz=>?_⟩)
  rw [k.so st h3] at hz
  exact (h5 z hz).mono k (Nat.le_refl _) hi k.vl
def SfS (vals:List Zbj.D)(fs:List Zmw.D):Prop:=∃ (pc:Int) (loc stk:List Int),fs=[((1:Int),pc,loc,stk,())]∧loc.length≤4∧stk.length≤1∧∀ z∈loc++stk,∃ n < vals.length,z=(n:Nat)∧noW (vAt vals n).1=false
def hdN (vals:List Zbj.D)(B:List Nat)(i:Nat):Nat:=((List.range B.length).filter fun v=>decide (B.getD v 0=i) && Zaq (vAt vals v).1).length
structure Rg (s:Us)(B:List Nat)(G:Gt):Prop where
 lb:B.length=s.vals.length
 gl:s.blks.length < G.length
 bb:∀ v < s.vals.length,B.getD v 0≤s.blks.length
 bv:s.bv=Zfy B s.blks.length
 bl:∀ i < s.blks.length,(bAt s.blks i).1=Zfy B i
 pb:∀ i < s.blks.length,(bAt s.blks i).2.2.2.2.1=Gp G i
 bp:s.bp=Gp G s.blks.length
 va:∀ v < s.vals.length,VS s.vals s.sts B G v
 kn:∀ z∈s.known,OkS s.vals B G s.blks.length s.vals.length z
 kne:s.known≠[]
 hd:∀ v w,v < w→w < s.vals.length→B.getD v 0=B.getD w 0→Zaq (vAt s.vals w).1=true→Zaq (vAt s.vals v).1=true
 h1:∀ v < s.vals.length,(vAt s.vals v).1=1→B.getD v 0=0
 h2:∀ v < s.vals.length,(vAt s.vals v).1=21→B.getD v 0≠0
 sf:∀ i < s.sts.length,SfS s.vals (sAt s.sts i)
 en:∀ i < s.blks.length,EnS s.vals s.sts B G i (bAt s.blks i)
 hn:∀ i,hdN s.vals B i≤4
structure Ex (s:Us)(B:List Nat)(s':Us)(B':List Nat):Prop where
 bs:s'.blks=s.blks
 kn:∃ l,s'.known=s.known++l
 vs:∃ l,s'.vals=s.vals++l
 b:∃ l,B'=B++l
 st:∃ l,s'.sts=s.sts++l
 bp:s'.bp=s.bp
theorem Ex.refl (s:Us)(B:List Nat):Ex s B s B:=⟨rfl,⟨[],by simp⟩,⟨[],by simp⟩,⟨[],by simp⟩,⟨[],by simp⟩,rfl⟩
theorem Ex.trans {s s1 s2:Us}{B B1 B2:List Nat}(h:Ex s B s1 B1)(k:Ex s1 B1 s2 B2):Ex s B s2 B2:=by
 obtain⟨l1,e1⟩:=h.kn;obtain⟨l2,e2⟩:=k.kn
 obtain⟨l3,e3⟩:=h.vs;obtain⟨l4,e4⟩:=k.vs
 obtain⟨l5,e5⟩:=h.b;obtain⟨l6,e6⟩:=k.b
 obtain⟨l7,e7⟩:=h.st;obtain⟨l8,e8⟩:=k.st
 exact⟨k.bs.trans h.bs,⟨l1++l2,by rw [e2,e1,List.append_assoc]⟩,⟨l3++l4,by rw [e4,e3,List.append_assoc]⟩,⟨l5++l6,by rw [e6,e5,List.append_assoc]⟩,⟨l7++l8,by rw [e8,e7,List.append_assoc]⟩,k.bp.trans h.bp⟩
theorem Zcp {α:Type}(l r:List α)(d:α){i:Nat}(h:i < l.length):(l++r).getD i d=l.getD i d:=by
 rw [List.getD_eq_getElem?_getD,List.getElem?_append_left h,List.getD_eq_getElem?_getD]
theorem Zeu {α:Type}(l:List α)(x d:α):(l++[x]).getD l.length d=x:=by
 rw [List.getD_eq_getElem?_getD,List.getElem?_append_right (Nat.le_refl _)];simp
theorem Ex.mo {s s':Us}(h:Ex s B s' B')(hl:B.length=s.vals.length)(G g:Gt):Mo s.vals s.sts B G s'.vals s'.sts B' (G++g):=by
 obtain⟨l3,e3⟩:=h.vs
 obtain⟨l5,e5⟩:=h.b
 obtain⟨l7,e7⟩:=h.st
 rw [e3,e5,e7]
 exact⟨by simp,fun n hn=>by unfold vAt;rw [Zcp _ _ _ hn];exact⟨rfl,rfl⟩,fun n hn=>Zcp _ _ _ (by omega),by simp,fun n hn=>by unfold sAt;rw [Zcp _ _ _ hn],by simp,fun i hi=>Zcp _ _ _ hi⟩
theorem Mo.sf {fs:List Zmw.D}(k:Mo vals sts B G vals' sts' B' G')(h:SfS vals fs):SfS vals' fs:=by
 obtain⟨pc,loc,stk,h1,h2,h3,h4⟩:=h
 refine⟨pc,loc,stk,h1,h2,h3,fun z hz=>?_⟩
 obtain⟨n,g1,g2,g3⟩:=h4 z hz
 exact⟨n,by have:=k.vl;omega,g2,by rw [(k.vo n g1).1];exact g3⟩
end Go.Proofs.YtlogdohlcdhepaaDoor.base
end
section
set_option maxRecDepth 100000
namespace Go.Proofs.YtlogdohlcdhepaaDoor.base
open Go.Sh gen
variable {s:Us}{B:List Nat}{G:Gt}{ops:List Int}
theorem Rg.at (h:Rg s B G)(a:Nat):Rg { s with at_:=a } B G:=⟨h.lb,h.gl,h.bb,h.bv,h.bl,h.pb,h.bp,h.va,h.kn,h.kne,h.hd,h.h1,h.h2,h.sf,h.en,h.hn⟩
theorem Ya7 (s:Us)(B:List Nat)(a:Nat):Ex s B { s with at_:=a } B:=⟨rfl,⟨[],by simp⟩,⟨[],by simp⟩,⟨[],by simp⟩,⟨[],by simp⟩,rfl⟩
theorem Rg.next (h:Rg s B G)(k:Int):Rg (Zar ops k s).1 B G:=by
 obtain⟨a,e⟩:=Zg8 ops k s
 rw [e];exact h.at a
theorem Zd2 (k:Int):Ex s B (Zar ops k s).1 B:=by
 obtain⟨a,e⟩:=Zg8 ops k s
 rw [e];exact Ya7 s B a
theorem Zmt (ops:List Int)(s:Us):∃ a,(Zbb ops s).1={ s with at_:=a }:=Zg8 ops _ s
theorem Rg.any (h:Rg s B G):Rg (Zbb ops s).1 B G:=h.next _
theorem Zno:Ex s B (Zbb ops s).1 B:=Zd2 _
theorem Rg.ok (h:Rg s B G):OkS s.vals B G s.blks.length s.vals.length (Zbb ops s).2:=by
 have hk:0 < s.known.length:=List.length_pos_iff.2 h.kne
 have hl:=Zcg (ops:=ops) (s:=s) (k:=(s.known.length:Nat)) (by omega)
 refine h.kn _ ?_
 unfold Zbb
 dsimp only
 exact Zas (by omega)
theorem Rg.last (h:Rg s B G):OkS s.vals B G s.blks.length s.vals.length (Zcw s):=by
 have hk:0 < s.known.length:=List.length_pos_iff.2 h.kne
 exact h.kn _ (Zas (by omega))
theorem Z12 (k:Nat):∀ {s:Us} {l:List Int},Rg s B G→(∀ z∈l,OkS s.vals B G s.blks.length s.vals.length z)→∀ z∈(Zfq ops k s l).2,OkS s.vals B G s.blks.length s.vals.length z:=by
 induction k with
 | zero=>intro s l _ hl;exact hl
 | succ k ih =>
  intro s l h hl
  rw [Zfq]
  obtain⟨a,e⟩:=Zmt ops s
  have:=ih (s:=(Zbb ops s).1) (l:=l++[(Zbb ops s).2]) h.any (fun z hz=>by
   rw [List.mem_append,List.mem_singleton] at hz
   rw [e]
   rcases hz with hz | rfl
   ·exact hl z hz
   ·exact h.ok)
  rw [e] at this ⊢
  exact this
theorem Zqj (ops:List Int)(s:Us):∃ a loc,(Zae ops s).1={ s with at_:=a,sts:=s.sts++[([((1:Int),(s.sts.length:Int),loc,[Zcw s],())],())] }∧(Zae ops s).2=(s.sts.length:Nat)∧loc.length≤3∧
  ∀ (B:List Nat) (G:Gt),Rg s B G→∀ z∈loc,OkS s.vals B G s.blks.length s.vals.length z:=by
 have hq:=Zcg (ops:=ops) (s:=s) (k:=4) (by omega)
 obtain⟨a1,e1⟩:=Zg8 ops 4 s
 obtain⟨⟨a,e⟩,e2⟩:=Ztx (ops:=ops) (Zar ops 4 s).2.toNat (s:=(Zar ops 4 s).1) (l:=[])
 refine⟨a,(Zfq ops (Zar ops 4 s).2.toNat (Zar ops 4 s).1 []).2,?_,rfl,?_,fun B G h z hz=>?_⟩
 ·unfold Zae
  dsimp only
  rw [e,e1]
 ·rw [e2];simp only [List.length_nil];omega
 ·have:=Z12 (Zar ops 4 s).2.toNat (ops:=ops) (h.next (ops:=ops) 4) (l:=[]) (fun z hz=>by cases hz) z hz
  rw [e1] at this
  exact this
theorem Zzk (sts:List StT.D)(fs:List Zmw.D):sAt (sts++[(fs,())]) sts.length=fs:=by
 unfold sAt;rw [Zeu]
theorem Rg.state (h:Rg s B G):Rg (Zae ops s).1 B G∧Ex s B (Zae ops s).1 B∧(Zae ops s).2=(s.sts.length:Nat)∧(Zae ops s).1.sts.length=s.sts.length+1∧
  (∀ z∈stL (sAt (Zae ops s).1.sts s.sts.length),OkS s.vals B G s.blks.length s.vals.length z)∧(Zae ops s).1.vals=s.vals∧(Zae ops s).1.known=s.known∧(Zae ops s).1.bv=s.bv:=by
 obtain⟨a,loc,e,e2,hl,hok⟩:=Zqj ops s
 rw [e,e2]
 have hx:Ex s B { s with at_:=a,sts:=s.sts++[([((1:Int),(s.sts.length:Int),loc,[Zcw s],())],())] } B:=⟨rfl,⟨[],by simp⟩,⟨[],by simp⟩,⟨[],by simp⟩,⟨_,rfl⟩,rfl⟩
 have k:=hx.mo h.lb G []
 rw [List.append_nil] at k
 dsimp only at k ⊢
 have hnew:∀ z∈loc++[Zcw s],OkS s.vals B G s.blks.length s.vals.length z:=by
  intro z hz
  rw [List.mem_append,List.mem_singleton] at hz
  rcases hz with hz | rfl
  ·exact hok B G h z hz
  ·exact h.last
 refine⟨⟨h.lb,h.gl,h.bb,h.bv,h.bl,h.pb,h.bp,fun v hv=>(h.va v hv).mono k hv (by have:=h.bb v hv;have:=h.gl;omega) rfl,h.kn,h.kne,h.hd,h.h1,h.h2,fun i hi=>?_,fun i hi=>(h.en i hi).mono k (by have:=h.gl;dsimp only at hi;omega),h.hn⟩,hx,rfl,by simp,?_,rfl,rfl,rfl⟩
 ·dsimp only at hi ⊢
  rw [List.length_append,List.length_singleton] at hi
  by_cases hi':i < s.sts.length
  ·rw [k.so i hi'];exact h.sf i hi'
  ·have:i=s.sts.length:=by omega
   subst this
   rw [Zzk]
   refine⟨_,loc,[Zcw s],rfl,by omega,by simp,fun z hz=>?_⟩
   obtain⟨n,g1,g2,g3,_⟩:=hnew z hz
   exact⟨n,g2,g1,g3⟩
 ·rw [Zzk]
  intro z hz
  unfold stL at hz
  simp only [List.flatMap_cons,List.flatMap_nil,List.append_nil] at hz
  exact hnew z hz
theorem Znn (B:List Nat)(c i:Nat):Zfy (B++[c]) i=Zfy B i++(if c=i then [(B.length:Int)] else []):=by
 unfold Zfy
 rw [List.length_append,List.length_singleton,List.range_succ,List.filter_append,List.map_append]
 congr 1
 ·congr 1
  apply List.filter_congr
  intro v hv
  rw [List.mem_range] at hv
  rw [Zcp _ _ _ hv]
 ·rw [List.filter_cons,Zeu]
  by_cases e:c=i
  ·simp [e]
  ·simp [e]
theorem Ztu (vals:List Zbj.D)(B:List Nat)(d:Zbj.D)(c i:Nat)(hl:B.length=vals.length):hdN (vals++[d]) (B++[c]) i=hdN vals B i+(if c=i∧Zaq d.1=true then 1 else 0):=by
 unfold hdN
 rw [List.length_append,List.length_singleton,List.range_succ,List.filter_append,List.length_append]
 congr 1
 ·congr 1
  apply List.filter_congr
  intro v hv
  rw [List.mem_range] at hv
  unfold vAt
  rw [Zcp _ _ _ hv,Zcp _ _ _ (by omega)]
 ·have e:vAt (vals++[d]) B.length=d:=by unfold vAt;rw [hl,Zeu]
  rw [List.filter_cons,Zeu,e,List.filter_nil]
  by_cases h1:c=i
  ·by_cases h2:Zaq d.1=true
   ·rw [if_pos (by rw [decide_eq_true h1,h2];rfl),if_pos ⟨h1,h2⟩];rfl
   ·rw [if_neg (by rw [decide_eq_true h1];simpa using h2),if_neg (fun h=>h2 h.2)];rfl
  ·rw [if_neg (by rw [decide_eq_false h1];simp),if_neg (fun h=>h1 h.1)];rfl
structure Znk (s:Us)(B:List Nat)(G:Gt)(d:Zbj.D):Prop where
 op:Zvj d.1=true
 us:d.1≠21→∀ z∈Zcc d,OkS s.vals B G s.blks.length s.vals.length z
 pa:d.1=20→(Ze3 d).length=1
 lv:lvs d.1=true→∃ st < s.sts.length,(show Int from d.2.2.2.2.2.1)=(st:Nat)∧∀ z∈stL (sAt s.sts st),OkS s.vals B G s.blks.length s.vals.length z
 ph:d.1=21→s.blks.length≠0∧(Ze3 d).length=(Gp G s.blks.length).length∧∀ j < (Ze3 d).length,∃ q:Nat,(Gp G s.blks.length).getD j 0=q∧q < G.length∧OkS s.vals B G q s.vals.length ((Ze3 d).getD j 0)
 pm:d.1=1→s.blks.length=0∧0≤nA d∧nA d < 40∧∀ w < s.vals.length,Zlh (nA d) (vAt s.vals w)=false
 hd:Zaq d.1=true→∀ v < s.vals.length,B.getD v 0=s.blks.length→Zaq (vAt s.vals v).1=true
 p2:Zaq d.1=true→hdN s.vals B s.blks.length≤3
theorem Ze (vals:List Zbj.D)(d:Zbj.D):vAt (vals++[d]) vals.length=d:=by unfold vAt;rw [Zeu]
theorem Zhl (vals l:List Zbj.D){n:Nat}(h:n < vals.length):vAt (vals++l) n=vAt vals n:=by unfold vAt;rw [Zcp _ _ _ h]
theorem Rg.put (h:Rg s B G){d:Zbj.D}(p:Znk s B G d):Rg (Zbi d s) (B++[s.blks.length]) G∧Ex s B (Zbi d s) (B++[s.blks.length]):=by
 have hx:Ex s B (Zbi d s) (B++[s.blks.length]):=⟨rfl,⟨[],by simp [Zbi]⟩,⟨[d],rfl⟩,⟨_,rfl⟩,⟨[],by simp [Zbi]⟩,rfl⟩
 have k:=hx.mo h.lb G []
 rw [List.append_nil] at k
 refine⟨?_,hx⟩
 have eV:(Zbi d s).vals=s.vals++[d]:=rfl
 have eS:(Zbi d s).sts=s.sts:=rfl
 rw [eV,eS] at k
 have hlen:(s.vals++[d]).length=s.vals.length+1:=by simp
 have hB1:∀ v < s.vals.length,(B++[s.blks.length]).getD v 0=B.getD v 0:=fun v hv=>Zcp _ _ _ (by rw [h.lb];exact hv)
 have hB2:(B++[s.blks.length]).getD s.vals.length 0=s.blks.length:=by rw [← h.lb];exact Zeu _ _ _
 have up:∀ {i:Nat} {z:Int},i < G.length→OkS s.vals B G i s.vals.length z→∀ w,s.vals.length≤w→OkS (s.vals++[d]) (B++[s.blks.length]) G i w z:=fun hi hz w hw=>hz.mono k (Nat.le_refl _) hi hw
 refine⟨by rw [eV,hlen,List.length_append,h.lb];rfl,h.gl,fun v hv=>?_,?_,fun i hi=>?_,h.pb,h.bp,fun v hv=>?_,fun z hz=>?_,h.kne,fun v w hvw hw hb hh=>?_,fun v hv h1=>?_,fun v hv h2=>?_,fun i hi=>k.sf (h.sf i hi),fun i hi=>(h.en i hi).mono k (Nat.lt_trans hi h.gl),fun i=>?_⟩
 ·rw [eV,hlen] at hv
  by_cases e:v=s.vals.length
  ·subst e;rw [hB2];exact Nat.le_refl _
  ·rw [hB1 v (by omega)];exact h.bb v (by omega)
 ·show s.bv++[(s.vals.length:Int)]=Zfy (B++[s.blks.length]) s.blks.length
  rw [Znn,if_pos rfl,← h.bv,h.lb]
 ·show (bAt s.blks i).1=Zfy (B++[s.blks.length]) i
  have hi':i < s.blks.length:=hi
  rw [Znn,if_neg (by omega),List.append_nil]
  exact h.bl i hi'
 ·rw [eV,hlen] at hv
  rw [eV,eS]
  by_cases e:v=s.vals.length
  ·subst e
   have hg:=h.gl
   refine⟨by rw [Ze];exact p.op,fun h0=>?_,fun h0 z hz=>?_,fun h0=>?_,fun h0=>?_,fun h0=>?_⟩
   ·rw [Ze] at h0 ⊢
    rw [hB2]
    obtain⟨_,g1,g2⟩:=p.ph h0
    refine⟨g1,fun j hj=>?_⟩
    obtain⟨q,g3,g4,g5⟩:=g2 j hj
    exact⟨q,g3,g4,up g4 g5 _ (by rw [hlen];omega)⟩
   ·rw [Ze] at h0 hz
    rw [hB2]
    exact up hg (p.us h0 z hz) _ (Nat.le_refl _)
   ·rw [Ze] at h0 ⊢;exact p.pa h0
   ·rw [Ze] at h0 ⊢
    obtain⟨st,g1,g2,g3⟩:=p.lv h0
    refine⟨st,g1,g2,fun z hz=>?_⟩
    rw [hB2]
    exact up hg (g3 z hz) _ (Nat.le_refl _)
   ·rw [Ze] at h0 ⊢
    obtain⟨_,g1,g2,g3⟩:=p.pm h0
    exact⟨g1,g2,fun w hw=>by rw [Zhl _ _ hw];exact g3 w hw⟩
  ·exact (h.va v (by omega)).mono k (by omega) (by have:=h.bb v (by omega);have:=h.gl;omega) (Zhl _ _ (by omega))
 ·exact up h.gl (h.kn z hz) _ (by rw [eV,hlen];omega)
 ·rw [eV,hlen] at hw
  rw [eV] at hh ⊢
  rw [hB1 v (by omega)] at hb
  rw [Zhl _ _ (show v < s.vals.length by omega)]
  by_cases e:w=s.vals.length
  ·subst e
   rw [Ze] at hh
   rw [hB2] at hb
   exact p.hd hh v (by omega) hb
  ·rw [hB1 w (by omega)] at hb
   rw [Zhl _ _ (by omega)] at hh
   exact h.hd v w hvw (by omega) hb hh
 ·rw [eV,hlen] at hv
  rw [eV] at h1
  by_cases e:v=s.vals.length
  ·subst e
   rw [Ze] at h1
   rw [hB2];exact (p.pm h1).1
  ·rw [Zhl _ _ (by omega)] at h1
   rw [hB1 v (by omega)];exact h.h1 v (by omega) h1
 ·rw [eV,hlen] at hv
  rw [eV] at h2
  by_cases e:v=s.vals.length
  ·subst e
   rw [Ze] at h2
   rw [hB2];exact (p.ph h2).1
  ·rw [Zhl _ _ (by omega)] at h2
   rw [hB1 v (by omega)];exact h.h2 v (by omega) h2
 ·have e:=Ztu s.vals B d s.blks.length i h.lb
  show hdN (s.vals++[d]) (B++[s.blks.length]) i≤4
  rw [e]
  have:=h.hn i
  split
  ·rename_i hc
   have:=p.p2 hc.2
   rw [hc.1] at this
   omega
  ·omega
theorem Rg.kno (h:Rg s B G){l:List Int}(hl:∀ z∈l,OkS s.vals B G s.blks.length s.vals.length z):Rg { s with known:=s.known++l } B G:=
 ⟨h.lb,h.gl,h.bb,h.bv,h.bl,h.pb,h.bp,h.va,fun z hz=>by
  dsimp only at hz ⊢
  rw [List.mem_append] at hz
  rcases hz with hz | hz
  ·exact h.kn z hz
  ·exact hl z hz,by dsimp only;intro e;exact h.kne (List.append_eq_nil_iff.1 e).1,h.hd,h.h1,h.h2,h.sf,h.en,h.hn⟩
theorem Zty {d:Zbj.D}(h:Rg s B G)(hs:s.blks.length∈Gd G s.blks.length)(hn:noW d.1=false):OkS (Zbi d s).vals (B++[s.blks.length]) G s.blks.length (Zbi d s).vals.length (s.vals.length:Nat):=by
 refine⟨s.vals.length,rfl,by simp [Zbi],?_,?_⟩
 ·show noW (vAt (s.vals++[d]) s.vals.length).1=false
  rw [Ze];exact hn
 ·rw [← h.lb,Zeu];exact hs
theorem Rg.knp (h:Rg s B G){d:Zbj.D}(p:Znk s B G d)(hs:s.blks.length∈Gd G s.blks.length)(hn:noW d.1=false):Rg (knP d s) (B++[s.blks.length]) G∧Ex s B (knP d s) (B++[s.blks.length]):=by
 obtain⟨h1,h2⟩:=h.put p
 refine⟨h1.kno (l:=[(s.vals.length:Int)]) fun z hz=>?_,⟨rfl,⟨_,rfl⟩,h2.vs,h2.b,h2.st,rfl⟩⟩
 rw [List.mem_singleton] at hz
 subst hz
 exact Zty h hs hn
end Go.Proofs.YtlogdohlcdhepaaDoor.base
end
