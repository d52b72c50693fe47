/- This text proves that loops of turnstonehand.Unit keep what is told in EdD, in plain Lean. No condition but what the theorems themselves say. -/
import Derived.Test.YtcgmchechmbmeaaDoorM17
set_option linter.unusedVariables false
set_option linter.unusedSimpArgs false
section
set_option maxRecDepth 100000
namespace Go.Proofs.YtcgmchechmbmeaaDoor.base
open Go.Sh gen
variable {s s':Us}{B B':List Nat}{G:Gt}{ops:List Int}
theorem Z3j (vals:List Za9.D)(p:Nat)(d:Za9.D){n:Nat}(hn:n < vals.length):vAt (vals.set p d) n=if p=n then d else vAt vals n:=by
 unfold vAt
 rw [List.getD_eq_getElem?_getD,List.getElem?_set]
 split
 ·rename_i e;subst e;rw [if_pos hn];rfl
 ·rw [List.getD_eq_getElem?_getD]
theorem Z25 (vals:List Za9.D){n:Nat}(hn:n < vals.length):vAt vals n=vals[n]:=by
 unfold vAt;rw [List.getD_eq_getElem?_getD,List.getElem?_eq_getElem hn];rfl
theorem Rg.sets (h:Rg s B G){p:Nat}(hp:p < s.vals.length)(h21:(vAt s.vals p).1=21){l:List Int}(hl:l.length=(Gp G (B.getD p 0)).length)(hq:∀ j < l.length,∃ q:Nat,(Gp G (B.getD p 0)).getD j 0=q∧q < G.length∧OkS s.vals B G q s.vals.length (l.getD j 0)):Rg (Zbl p l s) B G∧Ek s B G (Zbl p l s) B:=by
 have es:Zbl p l s={ s with vals:=s.vals.set p (Zrc s.vals[p] l) }:=by unfold Zbl;rw [dif_pos hp]
 obtain⟨V,hV⟩:∃ V,s.vals.set p (Zrc s.vals[p] l)=V:=⟨_,rfl⟩
 have el:V.length=s.vals.length:=by rw [← hV];simp
 have ev:∀ n < s.vals.length,vAt V n=if p=n then Zrc s.vals[p] l else vAt s.vals n:=fun n hn=>by rw [← hV];exact Z3j _ _ _ hn
 have k:Mo s.vals s.sts B G V s.sts B G:=by
  refine⟨by omega,fun n hn=>?_,fun n _=>rfl,Nat.le_refl _,fun n _=>rfl,Nat.le_refl _,fun i _=>rfl⟩
  rw [ev n hn]
  split
  ·rename_i e;subst e;rw [Z25 _ hp];exact⟨rfl,rfl⟩
  ·exact⟨rfl,rfl⟩
 rw [es,hV]
 have eo:∀ n < s.vals.length,(vAt V n).1=(vAt s.vals n).1:=fun n hn=>(k.vo n hn).1
 refine⟨⟨by show B.length=V.length;rw [el];exact h.lb,h.gl,fun v hv=>h.bb v (by rw [← el];exact hv),h.bv,h.bl,h.pb,h.bp,fun v hv=>?_,fun z hz=>(h.kn z hz).mono k (Nat.le_refl _) h.gl k.vl,h.kne,fun v w hvw hw hB hh=>?_,fun v hv h1=>?_,fun v hv h2=>?_,fun i hi=>k.sf (h.sf i hi),fun i hi=>(h.en i hi).mono k (Nat.lt_trans hi h.gl),fun i=>?_⟩,⟨rfl,⟨[],by simp⟩,k⟩⟩
 ·have hv:v < V.length:=hv
  rw [el] at hv
  show VS V s.sts B G v
  by_cases e:p=v
  ·subst e
   have e1:vAt V p=Zrc s.vals[p] l:=by rw [ev p hp,if_pos rfl]
   have e2:(vAt V p).1=21:=by rw [eo p hp];exact h21
   have e3:Zec (vAt V p)=l:=by rw [e1];rfl
   refine⟨by rw [e2];rfl,fun _=>?_,fun h0=>absurd e2 h0,fun h0=>(by rw [e2] at h0;cases h0),fun h0=>(by rw [e2] at h0;cases h0),fun h0=>(by rw [e2] at h0;cases h0)⟩
   rw [e3]
   refine⟨hl,fun j hj=>?_⟩
   obtain⟨q,g1,g2,g3⟩:=hq j hj
   exact⟨q,g1,g2,g3.mono k (Nat.le_refl _) g2 k.vl⟩
  ·exact (h.va v hv).mono k hv (by have:=h.bb v hv;have:=h.gl;omega) (by rw [ev v hv,if_neg e])
 ·have hw:w < V.length:=hw
  rw [el] at hw
  have hh:Zay (vAt V w).1=true:=hh
  show Zay (vAt V v).1=true
  rw [eo w hw] at hh
  rw [eo v (by omega)]
  exact h.hd v w hvw hw hB hh
 ·have hv:v < V.length:=hv
  rw [el] at hv
  have h1:(vAt V v).1=1:=h1
  rw [eo v hv] at h1
  exact h.h1 v hv h1
 ·have hv:v < V.length:=hv
  rw [el] at hv
  have h2:(vAt V v).1=21:=h2
  rw [eo v hv] at h2
  exact h.h2 v hv h2
 ·show hdN V B i≤4
  have:hdN V B i=hdN s.vals B i:=by
   unfold hdN
   congr 1
   apply List.filter_congr
   intro v hv
   rw [List.mem_range,h.lb] at hv
   rw [eo v hv]
  rw [this];exact h.hn i
end Go.Proofs.YtcgmchechmbmeaaDoor.base
end
section
set_option maxRecDepth 100000
namespace Go.Proofs.YtcgmchechmbmeaaDoor.base
open Go.Sh gen
variable {s s':Us}{B B':List Nat}{G:Gt}{ops:List Int}
theorem Ld.row (h:Ld s B G):∃ B',Ld (Zgv ops s) B' G:=by
 obtain⟨B',R,X⟩:=Z6h (ops:=ops) h.r (h.g.s _ (by have:=h.gl;omega))
 have M:=(X.ek h.r.lb G).mo
 refine⟨B',R,by rw [X.bs];exact h.gl,h.g,by rw [X.bs];exact h.led,by rw [X.bs];exact h.nx,by rw [X.bs];exact h.one,fun b hb=>(h.v0 b hb).mono M (Nat.le_refl _) hb M.vl⟩
end Go.Proofs.YtcgmchechmbmeaaDoor.base
end
