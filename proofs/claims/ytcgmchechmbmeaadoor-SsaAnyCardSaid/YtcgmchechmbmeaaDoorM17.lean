/- This text tells what is kept while turnstonehand.Unit makes a unit: where values stand, what rules the blocks; in plain Lean. No condition but what the theorems themselves say. -/
import Derived.Test.YtcgmchechmbmeaaDoorM16
set_option linter.unusedVariables false
set_option linter.unusedSimpArgs false
section
set_option maxRecDepth 100000
namespace Go.Proofs.YtcgmchechmbmeaaDoor.base
open Go.Sh gen
abbrev Gt:=List (List Nat × List Int)
abbrev Gd (G:Gt)(b:Nat):List Nat:=(G.getD b ([],[])).1
abbrev Gp (G:Gt)(b:Nat):List Int:=(G.getD b ([],[])).2
def vAt (vals:List Za9.D)(n:Nat):Za9.D:=vals.getD n ((0:Int),(0:Int),(0:Int),(0:Int),([]:List Int),(0:Int),())
def bAt (bs:List Zct.D)(i:Nat):Zct.D:=bs.getD i (([]:List Int),(0:Int),(0:Int),([]:List Int),([]:List Int),(0:Int),())
def sAt (sts:List StT.D)(i:Nat):List Zeg.D:=(sts.getD i (([]:List Zeg.D),())).1
abbrev nA (x:Za9.D):Int:=x.2.2.2.1
def OkS (vals:List Za9.D)(B:List Nat)(G:Gt)(i w:Nat)(z:Int):Prop:=∃ n:Nat,z=n∧n < w∧noW (vAt vals n).1=false∧B.getD n 0∈Gd G i
structure VS (vals:List Za9.D)(sts:List StT.D)(B:List Nat)(G:Gt)(v:Nat):Prop where
 op:Zpg (vAt vals v).1=true
 ph:(vAt vals v).1=21→(Zec (vAt vals v)).length=(Gp G (B.getD v 0)).length∧∀ j < (Zec (vAt vals v)).length,∃ q:Nat,(Gp G (B.getD v 0)).getD j 0=q∧q < G.length∧OkS vals B G q vals.length ((Zec (vAt vals v)).getD j 0)
 us:(vAt vals v).1≠21→∀ z∈Zfb (vAt vals v),OkS vals B G (B.getD v 0) v z
 pa:(vAt vals v).1=20→(Zec (vAt vals v)).length=1
 lv:lvs (vAt vals v).1=true→∃ st < sts.length,(show Int from (vAt vals v).2.2.2.2.2.1)=(st:Nat)∧∀ z∈stL (sAt sts st),OkS vals B G (B.getD v 0) v z
 pm:(vAt vals v).1=1→0≤nA (vAt vals v)∧nA (vAt vals v) < 40∧∀ w < v,Zka (nA (vAt vals v)) (vAt vals w)=false
structure Mo (vals:List Za9.D)(sts:List StT.D)(B:List Nat)(G:Gt)(vals':List Za9.D)(sts':List StT.D)(B':List Nat)(G':Gt):Prop where
 vl:vals.length≤vals'.length
 vo:∀ n < vals.length,(vAt vals' n).1=(vAt vals n).1∧nA (vAt vals' n)=nA (vAt vals n)
 bo:∀ n < vals.length,B'.getD n 0=B.getD n 0
 sl:sts.length≤sts'.length
 so:∀ n < sts.length,sAt sts' n=sAt sts n
 gl:G.length≤G'.length
 go:∀ i < G.length,G'.getD i ([],[])=G.getD i ([],[])
variable {vals vals':List Za9.D}{sts sts':List StT.D}{B B':List Nat}{G G':Gt}
theorem OkS.mono {i w w':Nat}{z:Int}(h:OkS vals B G i w z)(k:Mo vals sts B G vals' sts' B' G')(hw:w≤vals.length)(hi:i < G.length)(hw':w≤w'):OkS vals' B' G' i w' z:=by
 obtain⟨n,rfl,h1,h2,h3⟩:=h
 refine⟨n,rfl,by omega,by rw [(k.vo n (by omega)).1];exact h2,?_⟩
 unfold Gd
 rw [k.bo n (by omega),k.go i hi]
 exact h3
theorem OkS.sub {i j w:Nat}{z:Int}(h:OkS vals B G i w z)(hs:∀ a∈Gd G i,a∈Gd G j):OkS vals B G j w z:=by
 obtain⟨n,rfl,h1,h2,h3⟩:=h
 exact⟨n,rfl,h1,h2,hs _ h3⟩
theorem VS.mono {v:Nat}(h:VS vals sts B G v)(k:Mo vals sts B G vals' sts' B' G')(hv:v < vals.length)(hB:B.getD v 0 < G.length)(he:vAt vals' v=vAt vals v):VS vals' sts' B' G' v:=by
 have eB:=k.bo v hv
 have eG:=k.go _ hB
 refine⟨by rw [he];exact h.op,fun h0=>?_,fun h0 z hz=>?_,fun h0=>?_,fun h0=>?_,fun h0=>?_⟩
 ·rw [he] at h0 ⊢
  rw [eB]
  unfold Gp
  rw [eG]
  obtain⟨g1,g2⟩:=h.ph h0
  refine⟨g1,fun j hj=>?_⟩
  obtain⟨q,g3,g4,g5⟩:=g2 j hj
  exact⟨q,g3,by have:=k.gl;omega,g5.mono k (Nat.le_refl _) g4 k.vl⟩
 ·rw [he] at h0 hz
  rw [eB]
  exact (h.us h0 z hz).mono k (by omega) hB (Nat.le_refl _)
 ·rw [he] at h0 ⊢;exact h.pa h0
 ·rw [he] at h0 ⊢
  obtain⟨st,h1,h2,h3⟩:=h.lv h0
  refine⟨st,by have:=k.sl;omega,h2,fun z hz=>?_⟩
  rw [k.so st h1] at hz
  rw [eB]
  exact (h3 z hz).mono k (by omega) hB (Nat.le_refl _)
 ·rw [he] at h0 ⊢
  obtain⟨h1,h2,h3⟩:=h.pm h0
  refine⟨h1,h2,fun w hw=>?_⟩
  have:=h3 w hw
  have e:=k.vo w (by omega)
  unfold Zka at this ⊢
  rw [e.1]
  have e2:(show Int from (vAt vals' w).2.2.2.1)=(show Int from (vAt vals w).2.2.2.1):=e.2
  rw [e2]
  exact this
def EnS (vals:List Za9.D)(sts:List StT.D)(B:List Nat)(G:Gt)(i:Nat)(x:Zct.D):Prop:=
 (x.2.1=1∧List.length x.2.2.2.1=1)∨(x.2.1=2∧List.length x.2.2.2.1=2∧OkS vals B G i vals.length x.2.2.1)∨
  (x.2.1=3∧List.length x.2.2.2.1=0∧∃ st < sts.length,(show Int from x.2.2.2.2.2.1)=(st:Nat)∧∀ z∈stL (sAt sts st),OkS vals B G i vals.length z)
theorem EnS.mono {i:Nat}{x:Zct.D}(h:EnS vals sts B G i x)(k:Mo vals sts B G vals' sts' B' G')(hi:i < G.length):EnS vals' sts' B' G' i x:=by
 rcases h with h | ⟨h1,h2,h3⟩ | ⟨h1,h2,st,h3,h4,h5⟩
 ·exact Or.inl h
 ·exact Or.inr (Or.inl ⟨h1,h2,h3.mono k (Nat.le_refl _) hi k.vl⟩)
 ·refine Or.inr (Or.inr ⟨h1,h2,st,by have:=k.sl;omega,h4,fun z hz=>?_⟩)
  rw [k.so st h3] at hz
  exact (h5 z hz).mono k (Nat.le_refl _) hi k.vl
def SfS (vals:List Za9.D)(fs:List Zeg.D):Prop:=∃ (pc:Int) (loc stk:List Int),fs=[((1:Int),pc,loc,stk,())]∧loc.length≤4∧stk.length≤1∧∀ z∈loc++stk,∃ n < vals.length,z=(n:Nat)∧noW (vAt vals n).1=false
def hdN (vals:List Za9.D)(B:List Nat)(i:Nat):Nat:=((List.range B.length).filter fun v=>decide (B.getD v 0=i) && Zay (vAt vals v).1).length
structure Rg (s:Us)(B:List Nat)(G:Gt):Prop where
 lb:B.length=s.vals.length
 gl:s.blks.length < G.length
 bb:∀ v < s.vals.length,B.getD v 0≤s.blks.length
 bv:s.bv=Zhj B s.blks.length
 bl:∀ i < s.blks.length,(bAt s.blks i).1=Zhj B i
 pb:∀ i < s.blks.length,(bAt s.blks i).2.2.2.2.1=Gp G i
 bp:s.bp=Gp G s.blks.length
 va:∀ v < s.vals.length,VS s.vals s.sts B G v
 kn:∀ z∈s.known,OkS s.vals B G s.blks.length s.vals.length z
 kne:s.known≠[]
 hd:∀ v w,v < w→w < s.vals.length→B.getD v 0=B.getD w 0→Zay (vAt s.vals w).1=true→Zay (vAt s.vals v).1=true
 h1:∀ v < s.vals.length,(vAt s.vals v).1=1→B.getD v 0=0
 h2:∀ v < s.vals.length,(vAt s.vals v).1=21→B.getD v 0≠0
 sf:∀ i < s.sts.length,SfS s.vals (sAt s.sts i)
 en:∀ i < s.blks.length,EnS s.vals s.sts B G i (bAt s.blks i)
 hn:∀ i,hdN s.vals B i≤4
structure Ex (s:Us)(B:List Nat)(s':Us)(B':List Nat):Prop where
 bs:s'.blks=s.blks
 kn:∃ l,s'.known=s.known++l
 vs:∃ l,s'.vals=s.vals++l
 b:∃ l,B'=B++l
 st:∃ l,s'.sts=s.sts++l
 bp:s'.bp=s.bp
theorem Ex.refl (s:Us)(B:List Nat):Ex s B s B:=⟨rfl,⟨[],by simp⟩,⟨[],by simp⟩,⟨[],by simp⟩,⟨[],by simp⟩,rfl⟩
theorem Ex.trans {s s1 s2:Us}{B B1 B2:List Nat}(h:Ex s B s1 B1)(k:Ex s1 B1 s2 B2):Ex s B s2 B2:=by
 obtain⟨l1,e1⟩:=h.kn;obtain⟨l2,e2⟩:=k.kn
 obtain⟨l3,e3⟩:=h.vs;obtain⟨l4,e4⟩:=k.vs
 obtain⟨l5,e5⟩:=h.b;obtain⟨l6,e6⟩:=k.b
 obtain⟨l7,e7⟩:=h.st;obtain⟨l8,e8⟩:=k.st
 exact⟨k.bs.trans h.bs,⟨l1++l2,by rw [e2,e1,List.append_assoc]⟩,⟨l3++l4,by rw [e4,e3,List.append_assoc]⟩,⟨l5++l6,by rw [e6,e5,List.append_assoc]⟩,⟨l7++l8,by rw [e8,e7,List.append_assoc]⟩,k.bp.trans h.bp⟩
theorem Zcv {α:Type}(l r:List α)(d:α){i:Nat}(h:i < l.length):(l++r).getD i d=l.getD i d:=by
 rw [List.getD_eq_getElem?_getD,List.getElem?_append_left h,List.getD_eq_getElem?_getD]
theorem Zfw {α:Type}(l:List α)(x d:α):(l++[x]).getD l.length d=x:=by
 rw [List.getD_eq_getElem?_getD,List.getElem?_append_right (Nat.le_refl _)];simp
theorem Ex.mo {s s':Us}(h:Ex s B s' B')(hl:B.length=s.vals.length)(G g:Gt):Mo s.vals s.sts B G s'.vals s'.sts B' (G++g):=by
 obtain⟨l3,e3⟩:=h.vs
 obtain⟨l5,e5⟩:=h.b
 obtain⟨l7,e7⟩:=h.st
 rw [e3,e5,e7]
 exact⟨by simp,fun n hn=>by unfold vAt;rw [Zcv _ _ _ hn];exact⟨rfl,rfl⟩,fun n hn=>Zcv _ _ _ (by omega),by simp,fun n hn=>by unfold sAt;rw [Zcv _ _ _ hn],by simp,fun i hi=>Zcv _ _ _ hi⟩
theorem Mo.sf {fs:List Zeg.D}(k:Mo vals sts B G vals' sts' B' G')(h:SfS vals fs):SfS vals' fs:=by
 obtain⟨pc,loc,stk,h1,h2,h3,h4⟩:=h
 refine⟨pc,loc,stk,h1,h2,h3,fun z hz=>?_⟩
 obtain⟨n,g1,g2,g3⟩:=h4 z hz
 exact⟨n,by have:=k.vl;omega,g2,by rw [(k.vo n g1).1];exact g3⟩
end Go.Proofs.YtcgmchechmbmeaaDoor.base
end
section
set_option maxRecDepth 100000
namespace Go.Proofs.YtcgmchechmbmeaaDoor.base
open Go.Sh gen
variable {s:Us}{B:List Nat}{G:Gt}{ops:List Int}
theorem Rg.at (h:Rg s B G)(a:Nat):Rg { s with at_:=a } B G:=⟨h.lb,h.gl,h.bb,h.bv,h.bl,h.pb,h.bp,h.va,h.kn,h.kne,h.hd,h.h1,h.h2,h.sf,h.en,h.hn⟩
theorem Z9j (s:Us)(B:List Nat)(a:Nat):Ex s B { s with at_:=a } B:=⟨rfl,⟨[],by simp⟩,⟨[],by simp⟩,⟨[],by simp⟩,⟨[],by simp⟩,rfl⟩
theorem Rg.next (h:Rg s B G)(k:Int):Rg (Zat ops k s).1 B G:=by
 obtain⟨a,e⟩:=Zg2 ops k s
 rw [e];exact h.at a
theorem Ze (k:Int):Ex s B (Zat ops k s).1 B:=by
 obtain⟨a,e⟩:=Zg2 ops k s
 rw [e];exact Z9j s B a
theorem Z33 (ops:List Int)(s:Us):∃ a,(Zbc ops s).1={ s with at_:=a }:=Zg2 ops _ s
theorem Rg.any (h:Rg s B G):Rg (Zbc ops s).1 B G:=h.next _
theorem Znt:Ex s B (Zbc ops s).1 B:=Ze _
theorem Rg.ok (h:Rg s B G):OkS s.vals B G s.blks.length s.vals.length (Zbc ops s).2:=by
 have hk:0 < s.known.length:=List.length_pos_iff.2 h.kne
 have hl:=Zco (ops:=ops) (s:=s) (k:=(s.known.length:Nat)) (by omega)
 refine h.kn _ ?_
 unfold Zbc
 dsimp only
 exact Za6 (by omega)
theorem Rg.last (h:Rg s B G):OkS s.vals B G s.blks.length s.vals.length (Zdz s):=by
 have hk:0 < s.known.length:=List.length_pos_iff.2 h.kne
 exact h.kn _ (Za6 (by omega))
theorem Z08 (k:Nat):∀ {s:Us} {l:List Int},Rg s B G→(∀ z∈l,OkS s.vals B G s.blks.length s.vals.length z)→∀ z∈(Zft ops k s l).2,OkS s.vals B G s.blks.length s.vals.length z:=by
 induction k with
 | zero=>intro s l _ hl;exact hl
 | succ k ih =>
  intro s l h hl
  rw [Zft]
  obtain⟨a,e⟩:=Z33 ops s
  have:=ih (s:=(Zbc ops s).1) (l:=l++[(Zbc ops s).2]) h.any (fun z hz=>by
   rw [List.mem_append,List.mem_singleton] at hz
   rw [e]
   rcases hz with hz | rfl
   ·exact hl z hz
   ·exact h.ok)
  rw [e] at this ⊢
  exact this
theorem Zyb (ops:List Int)(s:Us):∃ a loc,(Zac ops s).1={ s with at_:=a,sts:=s.sts++[([((1:Int),(s.sts.length:Int),loc,[Zdz s],())],())] }∧(Zac ops s).2=(s.sts.length:Nat)∧loc.length≤3∧
  ∀ (B:List Nat) (G:Gt),Rg s B G→∀ z∈loc,OkS s.vals B G s.blks.length s.vals.length z:=by
 have hq:=Zco (ops:=ops) (s:=s) (k:=4) (by omega)
 obtain⟨a1,e1⟩:=Zg2 ops 4 s
 obtain⟨⟨a,e⟩,e2⟩:=Zus (ops:=ops) (Zat ops 4 s).2.toNat (s:=(Zat ops 4 s).1) (l:=[])
 refine⟨a,(Zft ops (Zat ops 4 s).2.toNat (Zat ops 4 s).1 []).2,?_,rfl,?_,fun B G h z hz=>?_⟩
 ·unfold Zac
  dsimp only
  rw [e,e1]
 ·rw [e2];simp only [List.length_nil];omega
 ·have:=Z08 (Zat ops 4 s).2.toNat (ops:=ops) (h.next (ops:=ops) 4) (l:=[]) (fun z hz=>by cases hz) z hz
  rw [e1] at this
  exact this
theorem Zyl (sts:List StT.D)(fs:List Zeg.D):sAt (sts++[(fs,())]) sts.length=fs:=by
 unfold sAt;rw [Zfw]
theorem Rg.state (h:Rg s B G):Rg (Zac ops s).1 B G∧Ex s B (Zac ops s).1 B∧(Zac ops s).2=(s.sts.length:Nat)∧(Zac ops s).1.sts.length=s.sts.length+1∧
  (∀ z∈stL (sAt (Zac ops s).1.sts s.sts.length),OkS s.vals B G s.blks.length s.vals.length z)∧(Zac ops s).1.vals=s.vals∧(Zac ops s).1.known=s.known∧(Zac ops s).1.bv=s.bv:=by
 obtain⟨a,loc,e,e2,hl,hok⟩:=Zyb ops s
 rw [e,e2]
 have hx:Ex s B { s with at_:=a,sts:=s.sts++[([((1:Int),(s.sts.length:Int),loc,[Zdz s],())],())] } B:=⟨rfl,⟨[],by simp⟩,⟨[],by simp⟩,⟨[],by simp⟩,⟨_,rfl⟩,rfl⟩
 have k:=hx.mo h.lb G []
 rw [List.append_nil] at k
 dsimp only at k ⊢
 have hnew:∀ z∈loc++[Zdz s],OkS s.vals B G s.blks.length s.vals.length z:=by
  intro z hz
  rw [List.mem_append,List.mem_singleton] at hz
  rcases hz with hz | rfl
  ·exact hok B G h z hz
  ·exact h.last
 refine⟨⟨h.lb,h.gl,h.bb,h.bv,h.bl,h.pb,h.bp,fun v hv=>(h.va v hv).mono k hv (by have:=h.bb v hv;have:=h.gl;omega) rfl,h.kn,h.kne,h.hd,h.h1,h.h2,fun i hi=>?_,fun i hi=>(h.en i hi).mono k (by have:=h.gl;dsimp only at hi;omega),h.hn⟩,hx,rfl,by simp,?_,rfl,rfl,rfl⟩
 ·dsimp only at hi ⊢
  rw [List.length_append,List.length_singleton] at hi
  by_cases hi':i < s.sts.length
  ·rw [k.so i hi'];exact h.sf i hi'
  ·have:i=s.sts.length:=by omega
   subst this
   rw [Zyl]
   refine⟨_,loc,[Zdz s],rfl,by omega,by simp,fun z hz=>?_⟩
   obtain⟨n,g1,g2,g3,_⟩:=hnew z hz
   exact⟨n,g2,g1,g3⟩
 ·rw [Zyl]
  intro z hz
  unfold stL at hz
  simp only [List.flatMap_cons,List.flatMap_nil,List.append_nil] at hz
  exact hnew z hz
theorem Zny (B:List Nat)(c i:Nat):Zhj (B++[c]) i=Zhj B i++(if c=i then [(B.length:Int)] else []):=by
 unfold Zhj
 rw [List.length_append,List.length_singleton,List.range_succ,List.filter_append,List.map_append]
 congr 1
 ·congr 1
  apply List.filter_congr
  intro v hv
  rw [List.mem_range] at hv
  rw [Zcv _ _ _ hv]
 ·rw [List.filter_cons,Zfw]
  by_cases e:c=i
  ·simp [e]
  ·simp [e]
theorem Z18 (vals:List Za9.D)(B:List Nat)(d:Za9.D)(c i:Nat)(hl:B.length=vals.length):hdN (vals++[d]) (B++[c]) i=hdN vals B i+(if c=i∧Zay d.1=true then 1 else 0):=by
 unfold hdN
 rw [List.length_append,List.length_singleton,List.range_succ,List.filter_append,List.length_append]
 congr 1
 ·congr 1
  apply List.filter_congr
  intro v hv
  rw [List.mem_range] at hv
  unfold vAt
  rw [Zcv _ _ _ hv,Zcv _ _ _ (by omega)]
 ·have e:vAt (vals++[d]) B.length=d:=by unfold vAt;rw [hl,Zfw]
  rw [List.filter_cons,Zfw,e,List.filter_nil]
  by_cases h1:c=i
  ·by_cases h2:Zay d.1=true
   ·rw [if_pos (by rw [decide_eq_true h1,h2];rfl),if_pos ⟨h1,h2⟩];rfl
   ·rw [if_neg (by rw [decide_eq_true h1];simpa using h2),if_neg (fun h=>h2 h.2)];rfl
  ·rw [if_neg (by rw [decide_eq_false h1];simp),if_neg (fun h=>h1 h.1)];rfl
structure Z01 (s:Us)(B:List Nat)(G:Gt)(d:Za9.D):Prop where
 op:Zpg d.1=true
 us:d.1≠21→∀ z∈Zfb d,OkS s.vals B G s.blks.length s.vals.length z
 pa:d.1=20→(Zec d).length=1
 lv:lvs d.1=true→∃ st < s.sts.length,(show Int from d.2.2.2.2.2.1)=(st:Nat)∧∀ z∈stL (sAt s.sts st),OkS s.vals B G s.blks.length s.vals.length z
 ph:d.1=21→s.blks.length≠0∧(Zec d).length=(Gp G s.blks.length).length∧∀ j < (Zec d).length,∃ q:Nat,(Gp G s.blks.length).getD j 0=q∧q < G.length∧OkS s.vals B G q s.vals.length ((Zec d).getD j 0)
 pm:d.1=1→s.blks.length=0∧0≤nA d∧nA d < 40∧∀ w < s.vals.length,Zka (nA d) (vAt s.vals w)=false
 hd:Zay d.1=true→∀ v < s.vals.length,B.getD v 0=s.blks.length→Zay (vAt s.vals v).1=true
 p2:Zay d.1=true→hdN s.vals B s.blks.length≤3
theorem Zgb (vals:List Za9.D)(d:Za9.D):vAt (vals++[d]) vals.length=d:=by unfold vAt;rw [Zfw]
theorem Zkj (vals l:List Za9.D){n:Nat}(h:n < vals.length):vAt (vals++l) n=vAt vals n:=by unfold vAt;rw [Zcv _ _ _ h]
theorem Rg.put (h:Rg s B G){d:Za9.D}(p:Z01 s B G d):Rg (Zbu d s) (B++[s.blks.length]) G∧Ex s B (Zbu d s) (B++[s.blks.length]):=by
 have hx:Ex s B (Zbu d s) (B++[s.blks.length]):=⟨rfl,⟨[],by simp [Zbu]⟩,⟨[d],rfl⟩,⟨_,rfl⟩,⟨[],by simp [Zbu]⟩,rfl⟩
 have k:=hx.mo h.lb G []
 rw [List.append_nil] at k
 refine⟨?_,hx⟩
 have eV:(Zbu d s).vals=s.vals++[d]:=rfl
 have eS:(Zbu d s).sts=s.sts:=rfl
 rw [eV,eS] at k
 have hlen:(s.vals++[d]).length=s.vals.length+1:=by simp
 have hB1:∀ v < s.vals.length,(B++[s.blks.length]).getD v 0=B.getD v 0:=fun v hv=>Zcv _ _ _ (by rw [h.lb];exact hv)
 have hB2:(B++[s.blks.length]).getD s.vals.length 0=s.blks.length:=by rw [← h.lb];exact Zfw _ _ _
 have up:∀ {i:Nat} {z:Int},i < G.length→OkS s.vals B G i s.vals.length z→∀ w,s.vals.length≤w→OkS (s.vals++[d]) (B++[s.blks.length]) G i w z:=fun hi hz w hw=>hz.mono k (Nat.le_refl _) hi hw
 refine⟨by rw [eV,hlen,List.length_append,h.lb];rfl,h.gl,fun v hv=>?_,?_,fun i hi=>?_,h.pb,h.bp,fun v hv=>?_,fun z hz=>?_,h.kne,fun v w hvw hw hb hh=>?_,fun v hv h1=>?_,fun v hv h2=>?_,fun i hi=>k.sf (h.sf i hi),fun i hi=>(h.en i hi).mono k (Nat.lt_trans hi h.gl),fun i=>?_⟩
 ·rw [eV,hlen] at hv
  by_cases e:v=s.vals.length
  ·subst e;rw [hB2];exact Nat.le_refl _
  ·rw [hB1 v (by omega)];exact h.bb v (by omega)
 ·show s.bv++[(s.vals.length:Int)]=Zhj (B++[s.blks.length]) s.blks.length
  rw [Zny,if_pos rfl,← h.bv,h.lb]
 ·show (bAt s.blks i).1=Zhj (B++[s.blks.length]) i
  have hi':i < s.blks.length:=hi
  rw [Zny,if_neg (by omega),List.append_nil]
  exact h.bl i hi'
 ·rw [eV,hlen] at hv
  rw [eV,eS]
  by_cases e:v=s.vals.length
  ·subst e
   have hg:=h.gl
   refine⟨by rw [Zgb];exact p.op,fun h0=>?_,fun h0 z hz=>?_,fun h0=>?_,fun h0=>?_,fun h0=>?_⟩
   ·rw [Zgb] at h0 ⊢
    rw [hB2]
    obtain⟨_,g1,g2⟩:=p.ph h0
    refine⟨g1,fun j hj=>?_⟩
    obtain⟨q,g3,g4,g5⟩:=g2 j hj
    exact⟨q,g3,g4,up g4 g5 _ (by rw [hlen];omega)⟩
   ·rw [Zgb] at h0 hz
    rw [hB2]
    exact up hg (p.us h0 z hz) _ (Nat.le_refl _)
   ·rw [Zgb] at h0 ⊢;exact p.pa h0
   ·rw [Zgb] at h0 ⊢
    obtain⟨st,g1,g2,g3⟩:=p.lv h0
    refine⟨st,g1,g2,fun z hz=>?_⟩
    rw [hB2]
    exact up hg (g3 z hz) _ (Nat.le_refl _)
   ·rw [Zgb] at h0 ⊢
    obtain⟨_,g1,g2,g3⟩:=p.pm h0
    exact⟨g1,g2,fun w hw=>by rw [Zkj _ _ hw];exact g3 w hw⟩
  ·exact (h.va v (by omega)).mono k (by omega) (by have:=h.bb v (by omega);have:=h.gl;omega) (Zkj _ _ (by omega))
 ·exact up h.gl (h.kn z hz) _ (by rw [eV,hlen];omega)
 ·rw [eV,hlen] at hw
  rw [eV] at hh ⊢
  rw [hB1 v (by omega)] at hb
  rw [Zkj _ _ (show v < s.vals.length by omega)]
  by_cases e:w=s.vals.length
  ·subst e
   rw [Zgb] at hh
   rw [hB2] at hb
   exact p.hd hh v (by omega) hb
  ·rw [hB1 w (by omega)] at hb
   rw [Zkj _ _ (by omega)] at hh
   exact h.hd v w hvw (by omega) hb hh
 ·rw [eV,hlen] at hv
  rw [eV] at h1
  by_cases e:v=s.vals.length
  ·subst e
   rw [Zgb] at h1
   rw [hB2];exact (p.pm h1).1
  ·rw [Zkj _ _ (by omega)] at h1
   rw [hB1 v (by omega)];exact h.h1 v (by omega) h1
 ·rw [eV,hlen] at hv
  rw [eV] at h2
  by_cases e:v=s.vals.length
  ·subst e
   rw [Zgb] at h2
   rw [hB2];exact (p.ph h2).1
  ·rw [Zkj _ _ (by omega)] at h2
   rw [hB1 v (by omega)];exact h.h2 v (by omega) h2
 ·have e:=Z18 s.vals B d s.blks.length i h.lb
  show hdN (s.vals++[d]) (B++[s.blks.length]) i≤4
  rw [e]
  have:=h.hn i
  split
  ·rename_i hc
   have:=p.p2 hc.2
   rw [hc.1] at this
   omega
  ·omega
theorem Rg.kno (h:Rg s B G){l:List Int}(hl:∀ z∈l,OkS s.vals B G s.blks.length s.vals.length z):Rg { s with known:=s.known++l } B G:=
 ⟨h.lb,h.gl,h.bb,h.bv,h.bl,h.pb,h.bp,h.va,fun z hz=>by
  dsimp only at hz ⊢
  rw [List.mem_append] at hz
  rcases hz with hz | hz
  ·exact h.kn z hz
  ·exact hl z hz,by dsimp only;intro e;exact h.kne (List.append_eq_nil_iff.1 e).1,h.hd,h.h1,h.h2,h.sf,h.en,h.hn⟩
theorem Z6g {d:Za9.D}(h:Rg s B G)(hs:s.blks.length∈Gd G s.blks.length)(hn:noW d.1=false):OkS (Zbu d s).vals (B++[s.blks.length]) G s.blks.length (Zbu d s).vals.length (s.vals.length:Nat):=by
 refine⟨s.vals.length,rfl,by simp [Zbu],?_,?_⟩
 ·show noW (vAt (s.vals++[d]) s.vals.length).1=false
  rw [Zgb];exact hn
 ·rw [← h.lb,Zfw];exact hs
theorem Rg.knp (h:Rg s B G){d:Za9.D}(p:Z01 s B G d)(hs:s.blks.length∈Gd G s.blks.length)(hn:noW d.1=false):Rg (knP d s) (B++[s.blks.length]) G∧Ex s B (knP d s) (B++[s.blks.length]):=by
 obtain⟨h1,h2⟩:=h.put p
 refine⟨h1.kno (l:=[(s.vals.length:Int)]) fun z hz=>?_,⟨rfl,⟨_,rfl⟩,h2.vs,h2.b,h2.st,rfl⟩⟩
 rw [List.mem_singleton] at hz
 subst hz
 exact Z6g h hs hn
end Go.Proofs.YtcgmchechmbmeaaDoor.base
end
section
set_option maxRecDepth 100000
namespace Go.Proofs.YtcgmchechmbmeaaDoor.base
open Go.Sh gen
variable {s:Us}{B:List Nat}{G:Gt}{ops:List Int}
theorem Zxi {op a b z:Int}{l:List Int}(h:z∈Zcm op a b l):(Zc5 op=true∧(z=a∨z=b))∨(Zgd op=true∧z=a)∨(op=20∧z∈l.take 1)∨(op=21∧z∈l):=by
 unfold Zcm at h
 rw [List.mem_append] at h
 rcases h with h | h
 ·split at h
  ·rename_i e
   simp only [List.mem_cons,List.not_mem_nil,or_false] at h
   exact Or.inl ⟨e,h⟩
  ·split at h
   ·rename_i e
    simp only [List.mem_cons,List.not_mem_nil,or_false] at h
    exact Or.inr (Or.inl ⟨e,h⟩)
   ·cases h
 ·split at h
  ·rename_i e;exact Or.inr (Or.inr (Or.inl ⟨e,h⟩))
  ·split at h
   ·rename_i e;exact Or.inr (Or.inr (Or.inr ⟨e,h⟩))
   ·cases h
abbrev okC (s:Us)(B:List Nat)(G:Gt)(z:Int):Prop:=OkS s.vals B G s.blks.length s.vals.length z
theorem Zg1 {op a b n st:Int}{l:List Int}(h1:Zpg op=true)(h2:op≠1∧op≠21∧op≠22∧op≠23)(h20:op=20→l.length=1∧∀ z∈l,okC s B G z)(ha:Zc5 op=true∨Zgd op=true→okC s B G a)(hb:Zc5 op=true→okC s B G b):Z01 s B G (op,a,b,n,l,st,()):=by
 obtain⟨g1,g2,g3,g4⟩:=h2
 refine⟨h1,fun _ z hz=>?_,fun h=>(h20 h).1,fun h=>?_,fun h=>absurd h g2,fun h=>absurd h g1,fun h=>?_,fun h=>?_⟩
 ·rcases Zxi hz with⟨e,rfl | rfl⟩ | ⟨e,rfl⟩ | ⟨e,hz⟩ | ⟨e,_⟩
  ·exact ha (Or.inl e)
  ·exact hb e
  ·exact ha (Or.inr e)
  ·exact (h20 e).2 z (List.mem_of_mem_take hz)
  ·exact absurd e g2
 ·unfold lvs at h
  rw [Bool.or_eq_true,decide_eq_true_eq,decide_eq_true_eq] at h
  rcases h with h | h
  ·exact absurd h g3
  ·exact absurd h g4
 all_goals
  unfold Zay at h
  rw [Bool.or_eq_true,decide_eq_true_eq,decide_eq_true_eq] at h
  rcases h with h | h
  ·exact absurd h g2
  ·exact absurd h g1
theorem Zto {op a st:Int}{k:Nat}(h22:op=22∨op=23)(ha:op=22→okC s B G a)(hk:k < s.sts.length)(hst:st=(k:Nat))(hz:∀ z∈stL (sAt s.sts k),okC s B G z):Z01 s B G (op,a,0,0,[],st,()):=by
 refine⟨by rcases h22 with rfl | rfl <;> rfl,fun _ z hz=>?_,fun h=>?_,fun _=>⟨k,hk,hst,hz⟩,fun h=>?_,fun h=>?_,fun h=>?_,fun h=>?_⟩
 ·rcases Zxi hz with⟨e,_⟩ | ⟨e,rfl⟩ | ⟨e,_⟩ | ⟨e,_⟩
  ·rcases h22 with rfl | rfl <;> cases e
  ·rcases h22 with rfl | rfl
   ·exact ha rfl
   ·cases e
  ·rcases h22 with rfl | rfl <;> cases e
  ·rcases h22 with rfl | rfl <;> cases e
 ·rcases h22 with rfl | rfl <;> cases h
 ·rcases h22 with rfl | rfl <;> cases h
 ·rcases h22 with rfl | rfl <;> cases h
 ·rcases h22 with rfl | rfl <;> cases h
 ·rcases h22 with rfl | rfl <;> cases h
theorem Zfq {s1:Us}{z:Int}(h:okC s B G z)(hl:B.length=s.vals.length)(hg:s.blks.length < G.length){B1:List Nat}(k:Ex s B s1 B1):okC s1 B1 G z:=by
 have:=k.mo hl G []
 rw [List.append_nil] at this
 have h2:=h.mono this (Nat.le_refl _) hg this.vl
 unfold okC
 rw [k.bs]
 exact h2
theorem Z3y (h:Rg s B G)(hs:s.blks.length∈Gd G s.blks.length){a b k:Int}(ha:okC s B G a)(hb:okC s B G b)(hk0:0≤k):∃ B',Rg (Zd0 ops a b k s) B' G∧Ex s B (Zd0 ops a b k s) B':=by
 unfold Zd0
 split
 ·rename_i hk
  obtain⟨g1,g2⟩:=h.knp (Zg1 (op:=3+k) (a:=a) (b:=b) (n:=0) (l:=[]) (st:=0) (by unfold Zpg;rw [Bool.and_eq_true,decide_eq_true_eq,decide_eq_true_eq];omega) ⟨by omega,by omega,by omega,by omega⟩ (fun e=>by omega) (fun _=>ha) (fun _=>hb)) hs (by unfold noW;simp;omega)
  exact⟨_,g1,g2⟩
 split
 ·obtain⟨g1,g2⟩:=(h.next (ops:=ops) 1048576).knp (Zg1 (op:=2) (a:=0) (b:=0) (n:=(Zat ops 1048576 s).2 - 9) (l:=[]) (st:=0) rfl ⟨by omega,by omega,by omega,by omega⟩ (fun e=>by omega) (fun e=>by rcases e with e | e <;> cases e) (fun e=>by cases e)) (by rw [(Ze (B:=B) (ops:=ops) (s:=s) 1048576).bs];exact hs) rfl
  exact⟨_,g1,(Ze 1048576).trans g2⟩
 split
 ·obtain⟨g1,g2⟩:=(h.next (ops:=ops) 5).knp (Zg1 (op:=17) (a:=a) (b:=0) (n:=(Zat ops 5 s).2) (l:=[]) (st:=0) rfl ⟨by omega,by omega,by omega,by omega⟩ (fun e=>by omega) (fun _=>Zfq ha h.lb h.gl (Ze 5)) (fun e=>by cases e)) (by rw [(Ze (B:=B) (ops:=ops) (s:=s) 5).bs];exact hs) rfl
  exact⟨_,g1,(Ze 5).trans g2⟩
 split
 ·obtain⟨g1,g2⟩:=h.knp (Zg1 (op:=18) (a:=a) (b:=b) (n:=0) (l:=[]) (st:=0) rfl ⟨by omega,by omega,by omega,by omega⟩ (fun e=>by omega) (fun _=>ha) (fun _=>hb)) hs rfl
  exact⟨_,g1,g2⟩
 split
 ·obtain⟨g1,g2⟩:=(h.next (ops:=ops) 5).put (Zg1 (op:=19) (a:=a) (b:=b) (n:=(Zat ops 5 s).2) (l:=[]) (st:=0) rfl ⟨by omega,by omega,by omega,by omega⟩ (fun e=>by omega) (fun _=>Zfq ha h.lb h.gl (Ze 5)) (fun _=>Zfq hb h.lb h.gl (Ze 5)))
  exact⟨_,g1,(Ze 5).trans g2⟩
 split
 ·obtain⟨g1,g2⟩:=(h.any (ops:=ops)).put (Zg1 (op:=20) (a:=a) (b:=b) (n:=0) (l:=[(Zbc ops s).2]) (st:=0) rfl ⟨by omega,by omega,by omega,by omega⟩ (fun _=>⟨rfl,fun z hz=>by rw [List.mem_singleton] at hz;subst hz;exact Zfq h.ok h.lb h.gl Znt⟩) (fun _=>Zfq ha h.lb h.gl Znt) (fun _=>Zfq hb h.lb h.gl Znt))
  exact⟨_,g1,Znt.trans g2⟩
 split
 ·obtain⟨k1,k2,k3,k4,k5,k6,_⟩:=h.state (ops:=ops)
  obtain⟨g1,g2⟩:=k1.put (Zto (op:=22) (a:=a) (st:=(Zac ops s).2) (k:=s.sts.length) (Or.inl rfl) (fun _=>Zfq ha h.lb h.gl k2) (by rw [k4];omega) k3 (fun z hz=>Zfq (k5 z hz) h.lb h.gl k2))
  exact⟨_,g1,k2.trans g2⟩
 split
 ·obtain⟨k1,k2,k3,k4,k5,k6,_⟩:=h.state (ops:=ops)
  obtain⟨g1,g2⟩:=k1.put (Zto (op:=23) (a:=0) (st:=(Zac ops s).2) (k:=s.sts.length) (Or.inr rfl) (fun e=>by omega) (by rw [k4];omega) k3 (fun z hz=>Zfq (k5 z hz) h.lb h.gl k2))
  exact⟨_,g1,k2.trans g2⟩
 ·have hq:=Zco (ops:=ops) (s:=s) (k:=2) (by omega)
  obtain⟨g1,g2⟩:=(h.next (ops:=ops) 2).knp (Zg1 (op:=15+(Zat ops 2 s).2) (a:=a) (b:=0) (n:=0) (l:=[]) (st:=0) (by unfold Zpg;rw [Bool.and_eq_true,decide_eq_true_eq,decide_eq_true_eq];omega) ⟨by omega,by omega,by omega,by omega⟩ (fun e=>by omega) (fun _=>Zfq ha h.lb h.gl (Ze 2)) (fun e=>by
   have:(Zat ops 2 s).2=0∨(Zat ops 2 s).2=1:=by omega
   rcases this with e2 | e2 <;> rw [e2] at e <;> cases e)) (by rw [(Ze (B:=B) (ops:=ops) (s:=s) 2).bs];exact hs) (by unfold noW;simp;omega)
  exact⟨_,g1,(Ze 2).trans g2⟩
theorem Z6c (h:Rg s B G)(hs:s.blks.length∈Gd G s.blks.length):∃ B',Rg (Z8d ops s) B' G∧Ex s B (Z8d ops s) B':=by
 have h1:=h.any (ops:=ops)
 have h2:=h1.any (ops:=ops)
 have x1:Ex s B (Zbc ops s).1 B:=Znt
 have x2:Ex (Zbc ops s).1 B (Zbc ops (Zbc ops s).1).1 B:=Znt
 have x3:Ex (Zbc ops (Zbc ops s).1).1 B (Zat ops 20 (Zbc ops (Zbc ops s).1).1).1 B:=Ze 20
 have hq:=Zco (ops:=ops) (s:=(Zbc ops (Zbc ops s).1).1) (k:=20) (by omega)
 obtain⟨B',g1,g2⟩:=Z3y (ops:=ops) (h2.next (ops:=ops) 20) (by rw [x3.bs,x2.bs,x1.bs];exact hs) (a:=(Zbc ops s).2) (b:=(Zbc ops (Zbc ops s).1).2) (Zfq (Zfq (Zfq h.ok h.lb h.gl x1) h1.lb h1.gl x2) h2.lb h2.gl x3) (Zfq (Zfq h1.ok h1.lb h1.gl x2) h2.lb h2.gl x3) hq.1
 exact⟨B',g1,((x1.trans x2).trans x3).trans g2⟩
theorem Z4e (k:Nat):∀ {s:Us} {B:List Nat},Rg s B G→s.blks.length∈Gd G s.blks.length→∃ B',Rg (Zgf ops k s) B' G∧Ex s B (Zgf ops k s) B':=by
 induction k with
 | zero=>intro s B h _;exact⟨B,h,Ex.refl _ _⟩
 | succ k ih =>
  intro s B h hs
  rw [Zgf]
  split
  ·obtain⟨B1,g1,g2⟩:=Z6c (ops:=ops) h hs
   obtain⟨B2,g3,g4⟩:=ih g1 (by rw [g2.bs];exact hs)
   exact⟨B2,g3,g2.trans g4⟩
  ·exact⟨B,h,Ex.refl _ _⟩
theorem Z6h (h:Rg s B G)(hs:s.blks.length∈Gd G s.blks.length):∃ B',Rg (Zgv ops s) B' G∧Ex s B (Zgv ops s) B':=by
 have x1:Ex s B (Zat ops 6 s).1 B:=Ze 6
 obtain⟨B',g1,g2⟩:=Z4e (ops:=ops) (1+(Zat ops 6 s).2.toNat) (h.next (ops:=ops) 6) (by rw [x1.bs];exact hs)
 exact⟨B',g1,x1.trans g2⟩
end Go.Proofs.YtcgmchechmbmeaaDoor.base
end
section
set_option maxRecDepth 100000
namespace Go.Proofs.YtcgmchechmbmeaaDoor.base
open Go.Sh gen
variable {s s':Us}{B B':List Nat}{G:Gt}{ops:List Int}
structure Ek (s:Us)(B:List Nat)(G:Gt)(s':Us)(B':List Nat):Prop where
 bs:s'.blks=s.blks
 kn:∃ l,s'.known=s.known++l
 mo:Mo s.vals s.sts B G s'.vals s'.sts B' G
theorem Mo.trans {vals vals' vals2:List Za9.D}{sts sts' sts2:List StT.D}{B B' B2:List Nat}{G G' G2:Gt}(h:Mo vals sts B G vals' sts' B' G')(k:Mo vals' sts' B' G' vals2 sts2 B2 G2):Mo vals sts B G vals2 sts2 B2 G2:=
 ⟨Nat.le_trans h.vl k.vl,fun n hn=>⟨(k.vo n (Nat.lt_of_lt_of_le hn h.vl)).1.trans (h.vo n hn).1,(k.vo n (Nat.lt_of_lt_of_le hn h.vl)).2.trans (h.vo n hn).2⟩,fun n hn=>(k.bo n (Nat.lt_of_lt_of_le hn h.vl)).trans (h.bo n hn),Nat.le_trans h.sl k.sl,fun n hn=>(k.so n (Nat.lt_of_lt_of_le hn h.sl)).trans (h.so n hn),Nat.le_trans h.gl k.gl,fun i hi=>(k.go i (Nat.lt_of_lt_of_le hi h.gl)).trans (h.go i hi)⟩
theorem Ex.ek (h:Ex s B s' B')(hl:B.length=s.vals.length)(G:Gt):Ek s B G s' B':=by
 have:=h.mo hl G []
 rw [List.append_nil] at this
 exact⟨h.bs,h.kn,this⟩
theorem Ek.trans {s2:Us}{B2:List Nat}(h:Ek s B G s' B')(k:Ek s' B' G s2 B2):Ek s B G s2 B2:=by
 obtain⟨l1,e1⟩:=h.kn;obtain⟨l2,e2⟩:=k.kn
 exact⟨k.bs.trans h.bs,⟨l1++l2,by rw [e2,e1,List.append_assoc]⟩,h.mo.trans k.mo⟩
theorem Z4q (vals:List Za9.D)(sts:List StT.D)(B:List Nat)(G g:Gt):Mo vals sts B G vals sts B (G++g):=
 ⟨Nat.le_refl _,fun n _=>⟨rfl,rfl⟩,fun n _=>rfl,Nat.le_refl _,fun n _=>rfl,by simp,fun i hi=>Zcv _ _ _ hi⟩
theorem Rg.ext (h:Rg s B G)(g:Gt):Rg s B (G++g):=by
 have k:=Z4q s.vals s.sts B G g
 have hg:=h.gl
 have e:∀ i≤s.blks.length,(G++g).getD i ([],[])=G.getD i ([],[]):=fun i hi=>Zcv _ _ _ (by omega)
 refine⟨h.lb,by rw [List.length_append];omega,h.bb,h.bv,h.bl,fun i hi=>?_,?_,fun v hv=>(h.va v hv).mono k hv (by have:=h.bb v hv;omega) rfl,fun z hz=>(h.kn z hz).mono k (Nat.le_refl _) hg (Nat.le_refl _),h.kne,h.hd,h.h1,h.h2,h.sf,fun i hi=>(h.en i hi).mono k (by omega),h.hn⟩
 ·unfold Gp;rw [e i (by omega)];exact h.pb i hi
 ·unfold Gp;rw [e _ (Nat.le_refl _)];exact h.bp
theorem Zr0 (bs:List Zct.D)(x:Zct.D):bAt (bs++[x]) bs.length=x:=by unfold bAt;rw [Zfw]
theorem Zr8 (bs l:List Zct.D){i:Nat}(h:i < bs.length):bAt (bs++l) i=bAt bs i:=by unfold bAt;rw [Zcv _ _ _ h]
theorem Rg.end (h:Rg s B G){e c st:Int}{nx l:List Int}(hg:s.blks.length+1 < G.length)(hk:∀ z∈s.known,OkS s.vals B G (s.blks.length+1) s.vals.length z)(he:EnS s.vals s.sts B G s.blks.length (s.bv,e,c,nx,s.bp,st,()))(hl:l=Gp G (s.blks.length+1)):Rg (bpP l (Zb6 e c nx st s)) B G:=by
 have eb:(bpP l (Zb6 e c nx st s)).blks=s.blks++[(s.bv,e,c,nx,s.bp,st,())]:=rfl
 have el:(s.blks++[(s.bv,e,c,nx,s.bp,st,())]).length=s.blks.length+1:=by simp
 have hno:Zhj B (s.blks.length+1)=[]:=by
  rw [List.eq_nil_iff_forall_not_mem]
  intro z hz
  obtain⟨n,rfl,h1,h2⟩:=Zez.1 hz
  have:=h.bb n (by rw [← h.lb];exact h1)
  omega
 refine⟨h.lb,by rw [eb,el];exact hg,fun v hv=>by have:=h.bb v hv;rw [eb,el];omega,by rw [eb,el,hno];rfl,fun i hi=>?_,fun i hi=>?_,by rw [eb,el];exact hl,h.va,fun z hz=>by rw [eb,el];exact hk z hz,h.kne,h.hd,h.h1,h.h2,h.sf,fun i hi=>?_,h.hn⟩
 all_goals
  rw [eb,el] at hi
  rw [eb]
  by_cases e1:i=s.blks.length
 ·subst e1;rw [Zr0];exact h.bv
 ·rw [Zr8 _ _ (by omega)];exact h.bl i (by omega)
 ·subst e1;rw [Zr0];exact h.bp
 ·rw [Zr8 _ _ (by omega)];exact h.pb i (by omega)
 ·subst e1;rw [Zr0];exact he
 ·rw [Zr8 _ _ (by omega)];exact h.en i (by omega)
theorem Rg.cut (h:Rg s B G){l0 l1:List Int}(he:s.known=l0++l1)(hn:l0≠[]):Rg (Zi8 l0.length s) B G∧(Zi8 l0.length s).known=l0:=by
 have e:(Zi8 l0.length s).known=l0:=by show s.known.take l0.length=l0;rw [he];simp
 exact⟨⟨h.lb,h.gl,h.bb,h.bv,h.bl,h.pb,h.bp,h.va,fun z hz=>h.kn z (by rw [e] at hz;rw [he];exact List.mem_append_left _ hz),by rw [e];exact hn,h.hd,h.h1,h.h2,h.sf,h.en,h.hn⟩,e⟩
structure GOk (G:Gt):Prop where
 n:0 < G.length
 z:Gd G 0=[0]
 p0:Gp G 0=[]
 pr:∀ b < G.length,b≠0→∀ p∈Gp G b,∃ q:Nat,p=q∧q < G.length∧∀ a∈Gd G b,a=b∨a∈Gd G q
 rc:∀ b < G.length,b≠0→∃ p:Nat,p < b∧(p:Int)∈Gp G b
 s:∀ b < G.length,b∈Gd G b
theorem Zup {G g:Gt}{i:Nat}(h:i < G.length):Gd (G++g) i=Gd G i:=by unfold Gd;rw [Zcv _ _ _ h]
theorem Zxo {G g:Gt}{i:Nat}(h:i < G.length):Gp (G++g) i=Gp G i:=by unfold Gp;rw [Zcv _ _ _ h]
theorem Z12 {G g:Gt}{j:Nat}(h:j < g.length):(G++g).getD (G.length+j) ([],[])=g.getD j ([],[]):=by
 rw [List.getD_eq_getElem?_getD,List.getElem?_append_right (by omega),List.getD_eq_getElem?_getD]
 congr 2;omega
theorem GOk.ext (h:GOk G){g:Gt}(hp:∀ j < g.length,(∀ p∈(g.getD j ([],[])).2,∃ q:Nat,p=q∧q < G.length+g.length∧∀ a∈(g.getD j ([],[])).1,a=G.length+j∨a∈Gd (G++g) q)∧
  (∃ p:Nat,p < G.length+j∧(p:Int)∈(g.getD j ([],[])).2)∧G.length+j∈(g.getD j ([],[])).1):GOk (G++g):=by
 have hn:=h.n
 have split:∀ b < (G++g).length,b < G.length∨∃ j < g.length,b=G.length+j:=by
  intro b hb
  rw [List.length_append] at hb
  by_cases e:b < G.length
  ·exact Or.inl e
  ·exact Or.inr ⟨b - G.length,by omega,by omega⟩
 refine⟨by rw [List.length_append];omega,by rw [Zup hn];exact h.z,by rw [Zxo hn];exact h.p0,fun b hb hb0 p hpm=>?_,fun b hb hb0=>?_,fun b hb=>?_⟩
 ·rcases split b hb with hb | ⟨j,hj,rfl⟩
  ·rw [Zxo hb] at hpm
   obtain⟨q,e,hq,ha⟩:=h.pr b hb hb0 p hpm
   refine⟨q,e,by rw [List.length_append];omega,fun a hA=>?_⟩
   rw [Zup hb] at hA
   rw [Zup hq]
   exact ha a hA
  ·unfold Gp at hpm
   rw [Z12 hj] at hpm
   obtain⟨q,e,hq,ha⟩:=(hp j hj).1 p hpm
   refine⟨q,e,by rw [List.length_append];exact hq,fun a hA=>?_⟩
   have hA:a∈((G++g).getD (G.length+j) ([],[])).1:=hA
   rw [Z12 hj] at hA
   exact ha a hA
 ·rcases split b hb with hb | ⟨j,hj,rfl⟩
  ·rw [Zxo hb];exact h.rc b hb hb0
  ·obtain⟨p,h1,h2⟩:=(hp j hj).2.1
   exact⟨p,h1,by unfold Gp;rw [Z12 hj];exact h2⟩
 ·rcases split b hb with hb | ⟨j,hj,rfl⟩
  ·rw [Zup hb];exact h.s b hb
  ·unfold Gd;rw [Z12 hj];exact (hp j hj).2.2
abbrev nxB (x:Zct.D):List Int:=x.2.2.2.1
def Z96:Nat→List Zct.D→Int→List Int
 | _,[],_=>[]
 | i,b::r,k=>((nxB b).filter fun t=>decide (t=k)).map (fun _=>(i:Int))++Z96 (i+1) r k
structure Ld (s:Us)(B:List Nat)(G:Gt):Prop where
 r:Rg s B G
 gl:G.length=s.blks.length+1
 g:GOk G
 led:∀ k≤s.blks.length,Z96 0 s.blks (k:Nat)=Gp G k
 nx:∀ x∈s.blks,∀ t∈nxB x,(0:Int)≤t∧t≤s.blks.length
 one:∀ x∈s.blks,x.2.1=2→∀ t∈nxB x,(Gp G t.toNat).length=1
 v0:∀ b < G.length,OkS s.vals B G b s.vals.length 0
end Go.Proofs.YtcgmchechmbmeaaDoor.base
end
section
set_option maxRecDepth 100000
namespace Go.Proofs.YtcgmchechmbmeaaDoor.base
open Go.Sh gen
variable {s s':Us}{B B':List Nat}{G:Gt}{ops:List Int}
end Go.Proofs.YtcgmchechmbmeaaDoor.base
end
section
set_option maxRecDepth 100000
namespace Go.Proofs.YtcgmchechmbmeaaDoor.base
open Go.Sh gen
variable {s s':Us}{B B':List Nat}{G:Gt}{ops:List Int}
theorem Rg.fresh (h:Rg s B G)(hb:s.bv=[]){v:Nat}(hv:v < s.vals.length):B.getD v 0≠s.blks.length:=by
 intro e
 have:(v:Int)∈Zhj B s.blks.length:=Zez.2 ⟨v,rfl,by rw [h.lb];exact hv,e⟩
 rw [← h.bv,hb] at this
 cases this
theorem Rg.hd0 (h:Rg s B G)(hb:s.bv=[]):hdN s.vals B s.blks.length=0:=by
 unfold hdN
 rw [List.filter_eq_nil_iff.2 (fun v hv=>by
  rw [List.mem_range,h.lb] at hv
  rw [decide_eq_false (h.fresh hb hv)];simp)]
 rfl
end Go.Proofs.YtcgmchechmbmeaaDoor.base
end
