/- This text proves what kinds.Same and the document's Same answer Zdh the abstract run: whether two types are the same data. Condition: nothing is known of their calls ahead ('S f = []'). -/
import Derived.Test.YtbldiceiindbdaaGreatDoorGen
set_option linter.unusedVariables false
set_option linter.unusedSimpArgs false
set_option maxRecDepth 100000
namespace Go.Proofs.YtbldiceiindbdaaGreatDoor.base
open Go.Sh gen
variable {S:Zed}{m:Mem}
abbrev Ze8:Ty:=(Ty.pair Ty.str (Ty.pair (Ty.int .i64) Ty.unit))
abbrev Zdz:Ty:=(Ty.pair Ty.str (Ty.pair (Ty.slice 3 (Ty.int .i64)) (Ty.pair (Ty.int .i64) (Ty.pair (Ty.int .i64) Ty.unit))))
abbrev Zb0:Ty:=(Ty.pair (Ty.int .i64) (Ty.pair Ty.str (Ty.pair (Ty.int .i64) (Ty.pair (Ty.slice 27 (Ty.pair Ty.str (Ty.pair (Ty.int .i64) Ty.unit))) (Ty.pair (Ty.slice 30 (Ty.pair Ty.str (Ty.pair (Ty.slice 3 (Ty.int .i64)) (Ty.pair (Ty.int .i64) (Ty.pair (Ty.int .i64) Ty.unit))))) Ty.unit)))))
theorem Zfp {x:Ze8.D}{c:List Value}(h:At m Ze8 x c):c=[.string ⟨x.1.toArray⟩,.int .i64 x.2.1]:=by
 obtain⟨_,_,rfl,rfl,_,_,rfl,rfl,rfl⟩:=h
 rfl
theorem Zug {l:List Int}{e:TypeId}{css:List (List Value)}(h2:css.length=l.length)(h3:∀ (i:Nat) (d:(Ty.int .i64).D) c,l[i]?=some d→css[i]?=some c→At m (Ty.int .i64) d c):css.flatten=l.map (Value.int .i64):=by
 have:css=l.map fun n=>[Value.int .i64 n]:=by
  apply List.ext_getElem?
  intro i
  by_cases hi:i < l.length
  ·have hc:i < css.length:=by omega
   have:=h3 i l[i] css[i] (List.getElem?_eq_getElem hi) (List.getElem?_eq_getElem hc)
   simp only [At] at this
   simp [hi,hc,this]
  ·rw [List.getElem?_eq_none (by omega),List.getElem?_eq_none (by simp;omega)]
 rw [this,← List.flatMap_def]
 exact List.map_eq_flatMap.symm
theorem Zrv {α:Type}{la lb:List α}{i:Nat}(h1:i < la.length)(h2:i < lb.length)(h:¬ la[i]=lb[i]):¬ la=lb:=by
 intro e;subst e;exact h rfl
theorem Zjh {α:Type}{la lb:List α}{i:Nat}(h1:i < la.length)(h2:i < lb.length)(h:la[i]=lb[i])(ht:la.take i=lb.take i):la.take (i+1)=lb.take (i+1):=by
 rw [List.take_succ_eq_append_getElem h1,List.take_succ_eq_append_getElem h2,ht,h]
theorem Zmv {α:Type}{la lb:List α}{i:Nat}(h1:la.length≤i)(h2:lb.length≤i)(ht:la.take i=lb.take i):la=lb:=by
 rwa [List.take_of_length_le h1,List.take_of_length_le h2] at ht
theorem Z1r (hS:S 109=[]){a1 a2:Option Addr}{f1 f2:Nat}{la lb:List Ze8.D}{ca cb:List (List Value)}
  (h1:ca.length=la.length) (e1:∀ (i:Nat) d c,la[i]?=some d→ca[i]?=some c→At m Ze8 d c) (r1:Rs m a1 la.length ca.flatten 27 2 f1) (n1:la.length≤9223372036854775807)
  (h2:cb.length=lb.length) (e2:∀ (i:Nat) d c,lb[i]?=some d→cb[i]?=some c→At m Ze8 d c) (r2:Rs m a2 lb.length cb.flatten 27 2 f2) :
  ∃ v m1,Zbi Tryz.prog TT S 109 [.slice a1 la.length la.length,.slice a2 lb.length lb.length] m=some (v,m1)∧v=.bool (decide (la=lb))∧m1=m:=by
 refine Zey 14 [14,24] Z8l hS rfl ?_
 by_cases hl:la.length=lb.length
 ·have hl':(la.length:Int)=lb.length:=by omega
  simp [-Int.natCast_add,-BitVec.toNat_or,-BitVec.toNat_ofInt,-BitVec.toNat_and,Zac u28,Zaa u28 Zcc,Zae Zhx,Zdc Zli .neq (Or.inr rfl),Zc5 u9,Zcy u3,hl,hl']
  refine Zbg 14 [14,24] (fun d E m6=>∃ q:Nat,lb.length - q=d∧q≤lb.length∧la.take q=lb.take q∧E=[(4,.bool false),(0,.slice a1 lb.length lb.length),(1,.slice a2 lb.length lb.length),(11,.slice a1 lb.length lb.length),(12,.int .i64 lb.length),(13,.int .i64 q)]∧m6=m) _ ⟨_,⟨0,rfl,by omega,rfl,rfl,rfl⟩,⟨by rfl,by rfl,by rfl,by rfl,by rfl,by rfl,trivial⟩⟩ ?_
  rintro d E m6 ih ⟨q,hq,hqx,htk,rfl,rfl⟩
  by_cases hlt:q < lb.length
  ·have hlt':q < la.length:=by omega
   obtain⟨bx,rfl,ox⟩:=r1.rdo (by omega)
   obtain⟨bY,rfl,oy⟩:=r2.rdo (by omega)
   obtain⟨c1,hc1,w1⟩:=At.elem h1 e1 hlt'
   obtain⟨c2,hc2,w2⟩:=At.elem h2 e2 hlt
   have lx:=ox.load (off:=q * 2) 2 (by rw [← r1.1];omega)
   have ly:=oy.load (off:=q * 2) 2 (by rw [← r2.1];omega)
   rw [show Zb ca.flatten (q * 2) 2=c1 from w1,Zfp hc1] at lx
   rw [show Zb cb.flatten (q * 2) 2=c2 from w2,Zfp hc2] at ly
   have i1:(q:Int) < lb.length:=by omega
   have em:(q:Int)≤9223372036854775807:=by omega
   have wr:IntKind.i64.wrap ((q:Int)+1)=((q+1:Nat):Int):=by rw [Zbh (by omega) (by omega)];omega
   have ne:=Zrv hlt' hlt
   have st:=fun h=>Zjh hlt' hlt h htk
   obtain⟨⟨x1,x2,_⟩,hx⟩:∃ x,la[q]=x:=⟨_,rfl⟩
   obtain⟨⟨y1,y2,_⟩,hy⟩:∃ x,lb[q]=x:=⟨_,rfl⟩
   rw [hx,hy] at ne st
   rw [hx] at lx
   rw [hy] at ly
   simp only at lx ly
   by_cases c1:x1=y1
   ·by_cases c2:x2=y2
    ·subst c1 c2
     simp [-Int.natCast_add,-BitVec.toNat_or,-BitVec.toNat_ofInt,-BitVec.toNat_and,Zac u28,Zaa u28 Zcc,Zae Zhx,Zdc Zli .neq (Or.inr rfl),Zc5 u9,Zcy u3,i1,em,hlt,hl,lx,ly,wr]
     exact ih _ _ _ _ ⟨q+1,rfl,by omega,st rfl,rfl,rfl⟩ (by omega) ⟨by rfl,by rfl,by rfl,by rfl,by rfl,by simp [Zcm],trivial⟩
    ·have hne:=ne (fun h=>c2 (by have:=congrArg (fun z=>z.2.1) h;exact this))
     simp [-Int.natCast_add,-BitVec.toNat_or,-BitVec.toNat_ofInt,-BitVec.toNat_and,Zac u28,Zaa u28 Zcc,Zae Zhx,Zdc Zli .neq (Or.inr rfl),Zc5 u9,Zcy u3,i1,em,hlt,hl,lx,ly,c1,c2,hne]
   ·have hne:=ne (fun h=>c1 (by have:=congrArg (fun z=>z.1) h;exact this))
    simp [-Int.natCast_add,-BitVec.toNat_or,-BitVec.toNat_ofInt,-BitVec.toNat_and,Zac u28,Zaa u28 Zcc,Zae Zhx,Zdc Zli .neq (Or.inr rfl),Zc5 u9,Zcy u3,i1,em,hlt,hl,lx,ly,c1,hne]
  ·have i1:¬ (q:Int) < lb.length:=by omega
   have e0:=Zmv (by omega) (by omega) htk
   simp [-Int.natCast_add,-BitVec.toNat_or,-BitVec.toNat_ofInt,-BitVec.toNat_and,Zac u28,Zaa u28 Zcc,Zae Zhx,Zdc Zli .neq (Or.inr rfl),Zc5 u9,Zcy u3,i1,hlt,e0]
 ·have hl':¬ (la.length:Int)=lb.length:=by omega
  have hne:¬ la=lb:=fun h=>hl (by rw [h])
  simp [-Int.natCast_add,-BitVec.toNat_or,-BitVec.toNat_ofInt,-BitVec.toNat_and,Zac u28,Zaa u28 Zcc,Zae Zhx,Zdc Zli .neq (Or.inr rfl),Zc5 u9,Zcy u3,hl,hl',hne]
theorem Zoz (hS:S 39=[]){a1 a2:Option Addr}{f1 f2:Nat}{la lb:List Int}(r1:Rs m a1 la.length (la.map (Value.int .i64)) 3 1 f1)(n1:la.length≤9223372036854775807)(r2:Rs m a2 lb.length (lb.map (Value.int .i64)) 3 1 f2) :
  ∃ v m1,Zbi Tryz.prog TT S 39 [.slice a1 la.length la.length,.slice a2 lb.length lb.length] m=some (v,m1)∧v=.bool (decide (la=lb))∧m1=m:=by
 refine Zey 14 [14,24] k39 hS rfl ?_
 by_cases hl:la.length=lb.length
 ·have hl':(la.length:Int)=lb.length:=by omega
  simp [-Int.natCast_add,-BitVec.toNat_or,-BitVec.toNat_ofInt,-BitVec.toNat_and,Zac u23,Zaa u23 sz3,Zab ld3,hl,hl']
  refine Zbg 14 [14,24] (fun d E m6=>∃ q:Nat,lb.length - q=d∧q≤lb.length∧la.take q=lb.take q∧E=[(4,.bool false),(0,.slice a1 lb.length lb.length),(1,.slice a2 lb.length lb.length),(11,.slice a1 lb.length lb.length),(12,.int .i64 lb.length),(13,.int .i64 q)]∧m6=m) _ ⟨_,⟨0,rfl,by omega,rfl,rfl,rfl⟩,⟨by rfl,by rfl,by rfl,by rfl,by rfl,by rfl,trivial⟩⟩ ?_
  rintro d E m6 ih ⟨q,hq,hqx,htk,rfl,rfl⟩
  by_cases hlt:q < lb.length
  ·have hlt':q < la.length:=by omega
   obtain⟨bx,rfl,ox⟩:=r1.rdo (by omega)
   obtain⟨bY,rfl,oy⟩:=r2.rdo (by omega)
   have lx:loadRow m6 ⟨bx,q,none⟩ 1=some [.int .i64 la[q]]:=by
    rw [ox.load (off:=q) 1 (by simp;omega)]
    simp only [Zb,← List.map_drop,← List.map_take]
    rw [List.drop_eq_getElem_cons hlt']
    rfl
   have ly:loadRow m6 ⟨bY,q,none⟩ 1=some [.int .i64 lb[q]]:=by
    rw [oy.load (off:=q) 1 (by simp;omega)]
    simp only [Zb,← List.map_drop,← List.map_take]
    rw [List.drop_eq_getElem_cons hlt]
    rfl
   have i1:(q:Int) < lb.length:=by omega
   have em:(q:Int)≤9223372036854775807:=by omega
   have wr:IntKind.i64.wrap ((q:Int)+1)=((q+1:Nat):Int):=by rw [Zbh (by omega) (by omega)];omega
   have ne:=Zrv hlt' hlt
   have st:=fun h=>Zjh hlt' hlt h htk
   obtain⟨x,hx⟩:∃ x,la[q]=x:=⟨_,rfl⟩
   obtain⟨y,hy⟩:∃ x,lb[q]=x:=⟨_,rfl⟩
   rw [hx,hy] at ne st
   rw [hx] at lx
   rw [hy] at ly
   by_cases c1:x=y
   ·subst c1
    simp [-Int.natCast_add,-BitVec.toNat_or,-BitVec.toNat_ofInt,-BitVec.toNat_and,Zac u23,Zaa u23 sz3,Zab ld3,i1,em,hlt,hl,lx,ly,wr]
    exact ih _ _ _ _ ⟨q+1,rfl,by omega,st rfl,rfl,rfl⟩ (by omega) ⟨by rfl,by rfl,by rfl,by rfl,by rfl,by simp [Zcm],trivial⟩
   ·have hne:=ne c1
    simp [-Int.natCast_add,-BitVec.toNat_or,-BitVec.toNat_ofInt,-BitVec.toNat_and,Zac u23,Zaa u23 sz3,Zab ld3,i1,em,hlt,hl,lx,ly,c1,hne]
  ·have i1:¬ (q:Int) < lb.length:=by omega
   have e0:=Zmv (by omega) (by omega) htk
   simp [-Int.natCast_add,-BitVec.toNat_or,-BitVec.toNat_ofInt,-BitVec.toNat_and,Zac u23,Zaa u23 sz3,Zab ld3,i1,hlt,e0]
 ·have hl':¬ (la.length:Int)=lb.length:=by omega
  have hne:¬ la=lb:=fun h=>hl (by rw [h])
  simp [-Int.natCast_add,-BitVec.toNat_or,-BitVec.toNat_ofInt,-BitVec.toNat_and,Zac u23,Zaa u23 sz3,Zab ld3,hl,hl',hne]
theorem Zqc (hS:S 123=[]){a1 a2:Option Addr}{f1 f2:Nat}{la lb:List Int}(r1:Rs m a1 la.length (la.map (Value.int .i64)) 3 1 f1)(n1:la.length≤9223372036854775807)(r2:Rs m a2 lb.length (lb.map (Value.int .i64)) 3 1 f2) :
  ∃ v m1,Zbi Tryz.prog TT S 123 [.slice a1 la.length la.length,.slice a2 lb.length lb.length] m=some (v,m1)∧v=.bool (decide (la=lb))∧m1=m:=by
 refine Zey 6 [10,14,25] Z7w hS rfl ?_
 by_cases hl:la.length=lb.length
 ·have hl':(la.length:Int)=lb.length:=by omega
  simp [-Int.natCast_add,-BitVec.toNat_or,-BitVec.toNat_ofInt,-BitVec.toNat_and,Zac u23,Zaa u23 sz3,Zab ld3,hl,hl']
  refine Zbg 6 [10,14,25] (fun d E m6=>∃ q:Nat,lb.length - q=d∧q≤lb.length∧la.take q=lb.take q∧E=[(4,.bool false),(0,.slice a1 lb.length lb.length),(1,.slice a2 lb.length lb.length),(5,.int .i64 q)]∧m6=m) _ ⟨_,⟨0,rfl,by omega,rfl,rfl,rfl⟩,⟨by rfl,by rfl,by rfl,by rfl,trivial⟩⟩ ?_
  rintro d E m6 ih ⟨q,hq,hqx,htk,rfl,rfl⟩
  by_cases hlt:q < lb.length
  ·have hlt':q < la.length:=by omega
   obtain⟨bx,rfl,ox⟩:=r1.rdo (by omega)
   obtain⟨bY,rfl,oy⟩:=r2.rdo (by omega)
   have lx:loadRow m6 ⟨bx,q,none⟩ 1=some [.int .i64 la[q]]:=by
    rw [ox.load (off:=q) 1 (by simp;omega)]
    simp only [Zb,← List.map_drop,← List.map_take]
    rw [List.drop_eq_getElem_cons hlt']
    rfl
   have ly:loadRow m6 ⟨bY,q,none⟩ 1=some [.int .i64 lb[q]]:=by
    rw [oy.load (off:=q) 1 (by simp;omega)]
    simp only [Zb,← List.map_drop,← List.map_take]
    rw [List.drop_eq_getElem_cons hlt]
    rfl
   have i1:(q:Int) < lb.length:=by omega
   have em:(q:Int)≤9223372036854775807:=by omega
   have wr:IntKind.i64.wrap ((q:Int)+1)=((q+1:Nat):Int):=by rw [Zbh (by omega) (by omega)];omega
   have ne:=Zrv hlt' hlt
   have st:=fun h=>Zjh hlt' hlt h htk
   obtain⟨x,hx⟩:∃ x,la[q]=x:=⟨_,rfl⟩
   obtain⟨y,hy⟩:∃ x,lb[q]=x:=⟨_,rfl⟩
   rw [hx,hy] at ne st
   rw [hx] at lx
   rw [hy] at ly
   by_cases c1:x=y
   ·subst c1
    simp [-Int.natCast_add,-BitVec.toNat_or,-BitVec.toNat_ofInt,-BitVec.toNat_and,Zac u23,Zaa u23 sz3,Zab ld3,i1,em,hlt,hl,lx,ly,wr]
    exact ih _ _ _ _ ⟨q+1,rfl,by omega,st rfl,rfl,rfl⟩ (by omega) ⟨by rfl,by rfl,by rfl,by simp [Zcm],trivial⟩
   ·have hne:=ne c1
    simp [-Int.natCast_add,-BitVec.toNat_or,-BitVec.toNat_ofInt,-BitVec.toNat_and,Zac u23,Zaa u23 sz3,Zab ld3,i1,em,hlt,hl,lx,ly,c1,hne]
  ·have i1:¬ (q:Int) < lb.length:=by omega
   have e0:=Zmv (by omega) (by omega) htk
   simp [-Int.natCast_add,-BitVec.toNat_or,-BitVec.toNat_ofInt,-BitVec.toNat_and,Zac u23,Zaa u23 sz3,Zab ld3,i1,hlt,e0]
 ·have hl':¬ (la.length:Int)=lb.length:=by omega
  have hne:¬ la=lb:=fun h=>hl (by rw [h])
  simp [-Int.natCast_add,-BitVec.toNat_or,-BitVec.toNat_ofInt,-BitVec.toNat_and,Zac u23,Zaa u23 sz3,Zab ld3,hl,hl',hne]
end Go.Proofs.YtbldiceiindbdaaGreatDoor.base
