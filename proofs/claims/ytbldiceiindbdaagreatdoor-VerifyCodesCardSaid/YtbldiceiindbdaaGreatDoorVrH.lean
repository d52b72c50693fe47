/- This text proves the law VerifyCodes: its program stands in memory, and both Verifies say the same of it. Condition: nothing is known of the calls ahead ('S f = []') but code.Name's names. -/
import Derived.Test.YtbldiceiindbdaaGreatDoorVrG
set_option linter.unusedVariables false
set_option linter.unusedSimpArgs false
set_option maxRecDepth 100000
namespace Go.Proofs.YtbldiceiindbdaaGreatDoor.base
open Go.Sh gen
variable {S:Zed}{m:Mem}{p:Pr}{q:Pp}
def tP:Zb0.D:=(5,[80],0,[([120],1,()),([110],5,())],[([109],[],1,1,())],())
def tS:Zb0.D:=(6,[],1,[],[],())
def tI:Zb0.D:=(7,[73],0,[],[([109],[],1,-1,())],())
def Zf9:List Zb0.D:=Zcs++[tP,tS,tI]
def Zjp (f:Fn):Pr:=⟨Zf9,[⟨[109,97,105,110],[],0,[],[(41,0,0)]⟩,⟨[80,46,109],[5],1,[5],[(1,0,0),(41,1,0)]⟩,f],0,[[109],[120]],1⟩
theorem Z7f:Z2q 8 tP:=Or.inl ⟨rfl,⟨by decide,rfl,by decide,by decide,by decide,fun y hy=>by
  have:y=([109],[],1,1,()):=List.mem_singleton.1 hy
  subst this;exact⟨by decide,Or.inr (by decide),fun t ht=>absurd ht (by simp)⟩,by decide⟩,fun y hy=>by
  have:y=([109],[],1,1,()):=List.mem_singleton.1 hy
  subst this;decide⟩
theorem Z8t:Z2q 8 tS:=Or.inr (Or.inr ⟨rfl,rfl,by decide,rfl,rfl⟩)
theorem Z8x:Z2q 8 tI:=Or.inr (Or.inl ⟨rfl,⟨by decide,rfl,by decide,by decide,by decide,fun y hy=>by
  have:y=([109],[],1,-1,()):=List.mem_singleton.1 hy
  subst this;exact⟨by decide,Or.inr (by decide),fun t ht=>absurd ht (by simp)⟩,by decide⟩,rfl,fun y hy=>by
  have:y=([109],[],1,-1,()):=List.mem_singleton.1 hy
  subst this;rfl⟩)
theorem Z6y:Zdp Zf9:=by
 refine⟨by simp [Zf9,Zcs],by simp [Zf9,Zcs],fun i h x hx=>?_,fun i h h5=>?_,fun i j h hj=>?_⟩
 ·have hi:i < Zcs.length:=(List.getElem?_eq_some_iff.1 hx).1
  have h1:Zf9[i]?=some x:=by rw [Zf9,List.getElem?_append_left hi];exact hx
  rw [List.getElem?_eq_getElem h] at h1;exact Option.some.inj h1
 ·have h8:i < 8:=by simpa [Zf9,Zcs] using h
  rcases (by omega:i=5∨i=6∨i=7) with rfl | rfl | rfl
  ·exact Z7f
  ·exact Z8t
  ·exact Z8x
 ·have h8:i < 8:=by simpa [Zf9,Zcs] using h
  match i,j,h8,hj with
  | 1,0,_,_=>simp [Zdv,Zf9,Zcs,tP,tS,tI]
  | 2,0,_,_=>simp [Zdv,Zf9,Zcs,tP,tS,tI]
  | 2,1,_,_=>simp [Zdv,Zf9,Zcs,tP,tS,tI]
  | 3,0,_,_=>simp [Zdv,Zf9,Zcs,tP,tS,tI]
  | 3,1,_,_=>simp [Zdv,Zf9,Zcs,tP,tS,tI]
  | 3,2,_,_=>simp [Zdv,Zf9,Zcs,tP,tS,tI]
  | 4,0,_,_=>simp [Zdv,Zf9,Zcs,tP,tS,tI]
  | 4,1,_,_=>simp [Zdv,Zf9,Zcs,tP,tS,tI]
  | 4,2,_,_=>simp [Zdv,Zf9,Zcs,tP,tS,tI]
  | 4,3,_,_=>simp [Zdv,Zf9,Zcs,tP,tS,tI]
  | 5,0,_,_=>simp [Zdv,Zf9,Zcs,tP,tS,tI]
  | 5,1,_,_=>simp [Zdv,Zf9,Zcs,tP,tS,tI]
  | 5,2,_,_=>simp [Zdv,Zf9,Zcs,tP,tS,tI]
  | 5,3,_,_=>simp [Zdv,Zf9,Zcs,tP,tS,tI]
  | 5,4,_,_=>simp [Zdv,Zf9,Zcs,tP,tS,tI]
  | 6,0,_,_=>simp [Zdv,Zf9,Zcs,tP,tS,tI]
  | 6,1,_,_=>simp [Zdv,Zf9,Zcs,tP,tS,tI]
  | 6,2,_,_=>simp [Zdv,Zf9,Zcs,tP,tS,tI]
  | 6,3,_,_=>simp [Zdv,Zf9,Zcs,tP,tS,tI]
  | 6,4,_,_=>simp [Zdv,Zf9,Zcs,tP,tS,tI]
  | 6,5,_,_=>simp [Zdv,Zf9,Zcs,tP,tS,tI]
  | 7,0,_,_=>simp [Zdv,Zf9,Zcs,tP,tS,tI]
  | 7,1,_,_=>simp [Zdv,Zf9,Zcs,tP,tS,tI]
  | 7,2,_,_=>simp [Zdv,Zf9,Zcs,tP,tS,tI]
  | 7,3,_,_=>simp [Zdv,Zf9,Zcs,tP,tS,tI]
  | 7,4,_,_=>simp [Zdv,Zf9,Zcs,tP,tS,tI]
  | 7,5,_,_=>simp [Zdv,Zf9,Zcs,tP,tS,tI]
  | 7,6,_,_=>simp [Zdv,Zf9,Zcs,tP,tS,tI]
structure Z6z (f:Fn):Prop where
 ps:f.ps=[]
 ls:∀ t∈f.ls,t=1∨t=2∨t=3∨t=5∨t=6∨t=7
 ll:f.ls.length≤5
 res:f.res=0∨f.res=1∨f.res=3∨f.res=5
theorem Z0i {f:Fn}(h:Z6z f):Zjv (Zjp f):=by
 have hv:∀ t:Int,t=1∨t=2∨t=3∨t=5∨t=6∨t=7→Zgc Zf9.length t:=by
  intro t ht
  have:Zf9.length=8:=rfl
  rw [this]
  exact⟨by omega,by omega,by omega⟩
 have hF:∀ g∈(Zjp f).F,g=⟨[109,97,105,110],[],0,[],[(41,0,0)]⟩∨g=⟨[80,46,109],[5],1,[5],[(1,0,0),(41,1,0)]⟩∨g=f:=by
  intro g hg;simpa [Zjp] using hg
 refine⟨⟨Z6y,fun g hg=>?_,fun g hg=>?_,fun g hg=>?_,by simp [Zjp]⟩,by simp [Zjp],by simp [Zjp],by simp [Zjp,Zp],by simp [Zjp,Zp],by simp [Zjp],by simp [Zjp],fun g hg=>?_,fun t ht h5=>?_⟩
 ·rcases hF g hg with rfl | rfl | rfl
  ·intro t ht;simp at ht
  ·intro t ht;simp at ht;exact hv t (by omega)
  ·intro t ht;rw [h.ps] at ht;simp at ht
 ·rcases hF g hg with rfl | rfl | rfl
  ·intro t ht;simp at ht
  ·intro t ht;simp at ht;exact hv t (by omega)
  ·intro t ht;exact hv t (h.ls t ht)
 ·rcases hF g hg with rfl | rfl | rfl
  ·exact Or.inl rfl
  ·exact Or.inr (hv 1 (by omega))
  ·rcases h.res with e | e
   ·exact Or.inl e
   ·exact Or.inr (hv _ (by omega))
 ·rcases hF g hg with rfl | rfl | rfl
  ·simp
  ·simp
  ·rw [h.ps];have:=h.ll;simp;omega
 ·have h8:t < 8:=by simpa [Zjp,Zf9,Zcs] using ht
  have ht':t < Zf9.length:=ht
  have h5':Zf9[t].1=5:=h5
  have hk:¬ t < 5:=by
   intro h4
   have h9:=Z6y.k5 ht' h4
   have h10:(t:Int)=5:=h9.symm.trans h5'
   omega
  clear h5
  rcases (by omega:t=5∨t=6∨t=7) with rfl | rfl | rfl
  ·intro y hy
   have:y=([109],[],1,1,()):=List.mem_singleton.1 hy
   subst this
   exact⟨by decide,(by decide:(1:Int) < 3),rfl,rfl⟩
  ·exact absurd h5' (by decide:¬ (6:Int)=5)
  ·exact absurd h5' (by decide:¬ (7:Int)=5)
end Go.Proofs.YtbldiceiindbdaaGreatDoor.base
