/- This text proves, in Z2i Lean, what keeps of the stacks of types: each is one of values, none has more than sixty. No condition but what the theorems themselves say. -/
import Derived.Test.YtbldiceiindbdaaGreatDoorVeJ
set_option linter.unusedVariables false
set_option linter.unusedSimpArgs false
set_option maxRecDepth 100000
namespace Go.Proofs.YtbldiceiindbdaaGreatDoor.base
open Go.Sh gen
variable {p:Pr}{f:Fn}
theorem Zzy {L:List Zb0.D}{t k:Int}(h:Zdy L t=k)(hk:0≤k):∃ (i:Nat) (hi:i < L.length),t=i∧L[i].1=k:=by
 by_cases hin:0≤t∧t < L.length
 ·obtain⟨i,rfl⟩:∃ i:Nat,t=i:=⟨t.toNat,by omega⟩
  have hi:i < L.length:=by omega
  rw [Zf1 hi] at h
  exact⟨i,hi,rfl,h⟩
 ·rw [Zil hin] at h;omega
theorem Zdp.val_of {L:List Zb0.D}(hR:Zdp L){t:Int}(h:Zdy L t=3∨Zdy L t=5∨Zdy L t=6∨Zdy L t=7):Zgc L.length t:=by
 have key:∀ k:Int,Zdy L t=k→k=3∨k=5∨k=6∨k=7→Zgc L.length t:=by
  intro k hk h
  obtain⟨i,hi,rfl,e⟩:=Zzy hk (by omega)
  by_cases h5:i < 5
  ·have e2:(i:Int)=k:=(hR.k5 hi h5).symm.trans e
   exact⟨by omega,by omega,by omega⟩
  ·exact⟨by omega,by omega,by omega⟩
 rcases h with h | h | h | h
 ·exact key _ h (by omega)
 ·exact key _ h (by omega)
 ·exact key _ h (by omega)
 ·exact key _ h (by omega)
theorem Zus {L:List Zb0.D}(hR:Zdp L){t a y:Int}(h:Zi7 L t a=some y):Zgc L.length y:=by
 unfold Zi7 at h
 split at h
 ·rename_i x hx
  obtain⟨hi,rfl⟩:=List.getElem?_eq_some_iff.1 hx
  split at h
  ·rename_i h5
   obtain⟨z,hz,rfl⟩:=Option.map_eq_some_iff.1 h
   obtain⟨hj,rfl⟩:=List.getElem?_eq_some_iff.1 hz
   exact hR.fv hi h5 hj
  ·cases h
 ·cases h
theorem Zwk {L:List Zb0.D}(hR:Zdp L){t y:Int}(h:Zn L t=some y):Zgc L.length y:=by
 unfold Zn at h
 split at h
 ·rename_i x hx
  obtain⟨hi,rfl⟩:=List.getElem?_eq_some_iff.1 hx
  split at h
  ·rename_i h6
   cases h
   exact hR.ev hi h6
  ·cases h
 ·cases h
theorem Zw2 (hP:Zu0 p){x:Ix}(hx:Zlh p f.ls.length x)(l:List Int):(Zdg p f x l).1=0∨Zgc p.L.length (Zdg p f x l).1:=by
 have hR:=hP.L
 unfold Zdg
 split
 ·split
  ·exact Or.inl rfl
  ·rename_i y hy
   split
   ·exact Or.inl rfl
   ·exact Or.inr (Zus hR hy)
 split
 ·split
  ·exact Or.inl rfl
  ·rename_i y hy
   split
   ·split
    ·exact Or.inl rfl
    ·exact Or.inr (Zwk hR hy)
   ·exact Or.inl rfl
 split
 ·rename_i e
  exact Or.inr (hR.val_of (Or.inr (Or.inl (hx.st (Or.inr e)))))
 split
 ·rename_i e
  have hin:=(hx.call e).1
  obtain⟨i,hi⟩:∃ i:Nat,x.2.1=i:=⟨x.2.1.toNat,by omega⟩
  have hi2:i < p.F.length:=by omega
  rw [hi,Zjw hi2]
  exact hP.res _ (List.getElem_mem hi2)
 split
 ·split
  ·exact Or.inl rfl
  ·rename_i y hy
   exact (Zov hR hy).2.1
 split
 ·split <;> exact Or.inl rfl
 ·exact Or.inl rfl
theorem Zmn (hP:Zu0 p)(hf:f∈p.F){x:Ix}(hx:Zlh p f.ls.length x)(l:List Int):(Za6 p f x l).1=0∨Zgc p.L.length (Za6 p f x l).1:=by
 have hR:=hP.L
 have h5:=hR.lo
 have v1:Zgc p.L.length 1:=⟨by omega,by omega,by omega⟩
 have v2:Zgc p.L.length 2:=⟨by omega,by omega,by omega⟩
 have v3:Zgc p.L.length 3:=⟨by omega,by omega,by omega⟩
 have loc:x.1=5→Zgc p.L.length (f.ls.getD x.2.1.toNat 0):=by
  intro e
  have hin:=hx.loc (Or.inl e)
  have hi:x.2.1.toNat < f.ls.length:=by omega
  rw [gd hi]
  exact hP.ls f hf _ (List.getElem_mem hi)
 have ref:x.1=4→Zgc p.L.length x.2.1:=by
  intro e
  have:=hx.ref e
  unfold Zun at this
  exact hR.val_of (of_decide_eq_true this)
 have st:x.1=34→Zgc p.L.length x.2.1:=fun e=>hR.val_of (Or.inr (Or.inl (hx.st (Or.inl e))))
 have sl:x.1=35→Zgc p.L.length x.2.1:=fun e=>hR.val_of (Or.inr (Or.inr (Or.inl (hx.sl e))))
 have hpv:=Zw2 hP hx l
 obtain⟨op,a,b⟩:=x
 simp only at loc ref st sl
 rcases Zhq op with (rfl | rfl | rfl | rfl | rfl | rfl | rfl | rfl | rfl | rfl | rfl | rfl | rfl | rfl | rfl | rfl | rfl | rfl | rfl | rfl | rfl | rfl | rfl | rfl | rfl | rfl | rfl | rfl | rfl | rfl | rfl | rfl | rfl | rfl | rfl | rfl | rfl | rfl | rfl | rfl | rfl) | hne
 all_goals first
  | (left;simp [Za6];done)
  | (right;simpa [Za6] using v1)
  | (right;simpa [Za6] using v2)
  | (right;simpa [Za6] using v3)
  | (right;simpa [Za6] using loc rfl)
  | (right;simpa [Za6] using ref rfl)
  | (right;simpa [Za6] using st rfl)
  | (right;simpa [Za6] using sl rfl)
  | simpa [Za6] using hpv
  | exact absurd hx.op (by simp only;omega)
theorem Z1n {x:Ix}(hP:Zu0 p)(hf:f∈p.F)(hx:Zlh p f.ls.length x)(hn:Zcp x=0)(hg:(Za6 p f x []).2=true):Zh2 p x []=decide ((Za6 p f x []).1≠0):=by
 have hx2:=hx
 have hv:=Zmn hP hf hx []
 obtain⟨op,a,b⟩:=x
 rcases Zhq op with (rfl | rfl | rfl | rfl | rfl | rfl | rfl | rfl | rfl | rfl | rfl | rfl | rfl | rfl | rfl | rfl | rfl | rfl | rfl | rfl | rfl | rfl | rfl | rfl | rfl | rfl | rfl | rfl | rfl | rfl | rfl | rfl | rfl | rfl | rfl | rfl | rfl | rfl | rfl | rfl | rfl) | hne
 all_goals first
  | (simp [Zcp,Zba] at hn;done)
  | (simp [Zh2,Za6,Zba];done)
  | skip
 ·have h:Zgc p.L.length a:=by
   have:=hx.ref rfl
   unfold Zun at this
   exact hP.L.val_of (of_decide_eq_true this)
  have h0:¬ a=0:=by have:=h.1;omega
  simp [Zh2,Za6,Zba,h0]
 ·have hin:=hx.loc (Or.inl rfl)
  have hi:a.toNat < f.ls.length:=by simp only at hin;omega
  have h:=hP.ls f hf _ (List.getElem_mem hi)
  rw [← gd hi] at h
  have h0:¬ f.ls.getD a.toNat 0=0:=by have:=h.1;omega
  have e:(Za6 p f (5,a,b) []).1=f.ls.getD a.toNat 0:=by simp [Za6]
  rw [e]
  simp [Zh2,Zba]
  simpa using h0
 ·have h:Zgc p.L.length a:=hP.L.val_of (Or.inr (Or.inl (hx.st (Or.inl rfl))))
  have h0:¬ a=0:=by have:=h.1;omega
  simp [Zh2,Za6,Zba,h0]
 ·simp [Zh2,Za6,Zdg]
 ·have h1:=(hx.inv rfl).2.1
  have h2:b=0:=by simpa [Zcp] using hn
  simp only at h1;omega
 ·have h2:a=0:=by simpa [Zcp] using hn
  subst h2
  simp [Zh2,Za6,Zdg,Zba]
 ·exact absurd hx.op (by simp only;omega)
theorem Zsq {x:Ix}(hP:Zu0 p)(hf:f∈p.F)(hx:Zlh p f.ls.length x){st:List Int}(hst:st.length≤60){n:Nat}(hn:Zcp x=n):Zh1 p f x st=if st.length < n then (32,[]) else if x.1=41∧(Za6 p f x (st.drop (st.length - n))).2=true∧0 < (st.take (st.length - n)).length then (32,[]) else if (Za6 p f x (st.drop (st.length - n))).2=false then (17,[]) else if 60 < (if (Za6 p f x (st.drop (st.length - n))).1=0 then st.take (st.length - n) else st.take (st.length - n)++[(Za6 p f x (st.drop (st.length - n))).1]).length then (32,[]) else (0,if (Za6 p f x (st.drop (st.length - n))).1=0 then st.take (st.length - n) else st.take (st.length - n)++[(Za6 p f x (st.drop (st.length - n))).1]):=by
 unfold Zh1
 rw [hn,Int.toNat_natCast]
 simp only []
 by_cases hlt:st.length < n
 ·rw [if_pos hlt,if_pos hlt]
 rw [if_neg hlt,if_neg hlt]
 have htl:(st.take (st.length - n)).length=st.length - n:=by simp
 rw [htl]
 by_cases h60:60≤st.length - n
 ·have hn0:n=0:=by omega
  have hs60:st.length=60:=by omega
  subst hn0
  have hd:st.drop (st.length - 0)=[]:=by simp
  have ht:st.take (st.length - 0)=st:=by simp
  rw [hd,ht]
  rcases hg:(Za6 p f x []).2 with _ | _
  ·have hnl:Zh2 p x []=false:=by
    have hx2:=hx
    obtain⟨op,a,b⟩:=x
    rcases Zhq op with (rfl | rfl | rfl | rfl | rfl | rfl | rfl | rfl | rfl | rfl | rfl | rfl | rfl | rfl | rfl | rfl | rfl | rfl | rfl | rfl | rfl | rfl | rfl | rfl | rfl | rfl | rfl | rfl | rfl | rfl | rfl | rfl | rfl | rfl | rfl | rfl | rfl | rfl | rfl | rfl | rfl) | hne
    all_goals first
     | (simp [Zcp,Zba] at hn;done)
     | (simp [Za6] at hg;done)
     | (simp [Zh2,Zba];done)
     | skip
    ·have hb:=(hx.call rfl).2
     have hb0:b=0:=by simpa [Zcp] using hn
     simp only [hb0] at hb
     have hps:(Zp p.F a).ps=[]:=List.length_eq_zero_iff.1 (by omega)
     simp [Za6,Zdg,Zhd,hps] at hg
    ·have h1:=(hx.inv rfl).2.1
     have h2:b=0:=by simpa [Zcp] using hn
     simp only at h1;omega
    ·exact absurd hx.op (by simp only;omega)
   simp [hnl]
  ·have hl:=Z1n hP hf hx hn hg
   rw [hl]
   by_cases hz:(Za6 p f x []).1=0
   ·simp [hz,hs60]
   ·have e41:¬ x.1=41:=by
     intro e
     apply hz
     obtain⟨op,a,b⟩:=x
     simp only at e
     subst e
     have h2:a=0:=by simpa [Zcp] using hn
     subst h2
     simp [Za6,Zdg]
    simp [hz,hs60,e41]
 ·have e1:¬ (60≤st.length - n∧Zh2 p x (st.drop (st.length - n))=true):=fun h=>h60 h.1
  rw [if_neg e1]
  rcases hg:(Za6 p f x (st.drop (st.length - n))).2 with _ | _
  ·simp
  ·have e2:¬ 60 < (if (Za6 p f x (st.drop (st.length - n))).1=0 then st.take (st.length - n) else st.take (st.length - n)++[(Za6 p f x (st.drop (st.length - n))).1]).length:=by
    split
    ·rw [htl];omega
    ·rw [List.length_append,htl];simp;omega
   simp only [Bool.true_eq_false,if_false,true_and,if_neg e2]
theorem Zw0 {x:Ix}(hP:Zu0 p)(hf:f∈p.F)(hx:Zlh p f.ls.length x){st:List Int}(hst:st.length≤60)(hv:Val p.L st){out:List Int}(h:Zh1 p f x st=(0,out)):Val p.L out∧out.length≤60:=by
 obtain⟨n,hn⟩:∃ n:Nat,Zcp x=n:=⟨(Zcp x).toNat,by have:=Zn9 hx;omega⟩
 rw [Zsq hP hf hx hst hn] at h
 have hgv:=Zmn hP hf hx (st.drop (st.length - n))
 obtain⟨left,hleft⟩:∃ z,(if (Za6 p f x (st.drop (st.length - n))).1=0 then st.take (st.length - n) else st.take (st.length - n)++[(Za6 p f x (st.drop (st.length - n))).1])=z:=⟨_,rfl⟩
 rw [hleft] at h
 split at h
 ·cases h
 split at h
 ·cases h
 split at h
 ·cases h
 split at h
 ·cases h
 rename_i h60
 cases h
 refine⟨?_,by omega⟩
 rw [← hleft]
 split
 ·exact hv.take _
 ·rename_i hz
  intro t ht
  rcases List.mem_append.1 ht with ht | ht
  ·exact hv.take _ t ht
  ·rw [List.mem_singleton.1 ht]
   exact hgv.resolve_left hz
end Go.Proofs.YtbldiceiindbdaaGreatDoor.base
