/- This text proves what the document's walk finds: the stacks ahead of the pcs of a function, or what is wrong first. Condition: nothing is known of the calls ahead ('S f = []'). -/
import Derived.Test.YtbldiceiindbdaaGreatDoorVrC
set_option linter.unusedVariables false
set_option linter.unusedSimpArgs false
set_option maxRecDepth 100000
namespace Go.Proofs.YtbldiceiindbdaaGreatDoor.base
open Go.Sh gen
variable {S:Zed}{m0 m:Mem}{tb db:Nat}{p:Pr}{q:Pp}{f:Fn}{fp:Fp}{K:Kn}{D:Nat→Bool}{A:Nat→Addr × Nat}
theorem Zps (hS:S 47=[]){a1 a2:Option Addr}{f1 f2:Nat}{la lb:List Int}(r1:Rs m a1 la.length (la.map (Value.int .i64)) 3 1 f1)(n1:la.length≤9223372036854775807)(r2:Rs m a2 lb.length (lb.map (Value.int .i64)) 3 1 f2) :
  ∃ v m1,Zbi Tryz.prog TT S 47 [.slice a1 la.length la.length,.slice a2 lb.length lb.length] m=some (v,m1)∧v=.bool (decide (la=lb))∧m1=m:=by
 refine Zey 6 [10,14,25] k47 hS rfl ?_
 by_cases hl:la.length=lb.length
 ·have hl':(la.length:Int)=lb.length:=by omega
  simp [-Int.natCast_add,-BitVec.toNat_or,-BitVec.toNat_ofInt,-BitVec.toNat_and,Zac u23,Zaa u23 sz3,Zab ld3,hl,hl']
  refine Zbg 6 [10,14,25] (fun d E m6=>∃ q:Nat,lb.length - q=d∧q≤lb.length∧la.take q=lb.take q∧E=[(4,.bool false),(0,.slice a1 lb.length lb.length),(1,.slice a2 lb.length lb.length),(5,.int .i64 q)]∧m6=m) _ ⟨_,⟨0,rfl,by omega,rfl,rfl,rfl⟩,⟨by rfl,by rfl,by rfl,by rfl,trivial⟩⟩ ?_
  rintro d E m6 ih ⟨q,hq,hqx,htk,rfl,rfl⟩
  by_cases hlt:q < lb.length
  ·have hlt':q < la.length:=by omega
   obtain⟨bx,rfl,ox⟩:=r1.rdo (by omega)
   obtain⟨bY,rfl,oy⟩:=r2.rdo (by omega)
   have lx:loadRow m6 ⟨bx,q,none⟩ 1=some [.int .i64 la[q]]:=by
    rw [ox.load (off:=q) 1 (by simp;omega)]
    simp only [Zb,← List.map_drop,← List.map_take]
    rw [List.drop_eq_getElem_cons hlt']
    rfl
   have ly:loadRow m6 ⟨bY,q,none⟩ 1=some [.int .i64 lb[q]]:=by
    rw [oy.load (off:=q) 1 (by simp;omega)]
    simp only [Zb,← List.map_drop,← List.map_take]
    rw [List.drop_eq_getElem_cons hlt]
    rfl
   have i1:(q:Int) < lb.length:=by omega
   have em:(q:Int)≤9223372036854775807:=by omega
   have wr:IntKind.i64.wrap ((q:Int)+1)=((q+1:Nat):Int):=by rw [Zbh (by omega) (by omega)];omega
   have ne:=Zrv hlt' hlt
   have st:=fun h=>Zjh hlt' hlt h htk
   obtain⟨x,hx⟩:∃ x,la[q]=x:=⟨_,rfl⟩
   obtain⟨y,hy⟩:∃ x,lb[q]=x:=⟨_,rfl⟩
   rw [hx,hy] at ne st
   rw [hx] at lx
   rw [hy] at ly
   by_cases c1:x=y
   ·subst c1
    simp [-Int.natCast_add,-BitVec.toNat_or,-BitVec.toNat_ofInt,-BitVec.toNat_and,Zac u23,Zaa u23 sz3,Zab ld3,i1,em,hlt,hl,lx,ly,wr]
    exact ih _ _ _ _ ⟨q+1,rfl,by omega,st rfl,rfl,rfl⟩ (by omega) ⟨by rfl,by rfl,by rfl,by simp [Zcm],trivial⟩
   ·have hne:=ne c1
    simp [-Int.natCast_add,-BitVec.toNat_or,-BitVec.toNat_ofInt,-BitVec.toNat_and,Zac u23,Zaa u23 sz3,Zab ld3,i1,em,hlt,hl,lx,ly,c1,hne]
  ·have i1:¬ (q:Int) < lb.length:=by omega
   have e0:=Zmv (by omega) (by omega) htk
   simp [-Int.natCast_add,-BitVec.toNat_or,-BitVec.toNat_ofInt,-BitVec.toNat_and,Zac u23,Zaa u23 sz3,Zab ld3,i1,hlt,e0]
 ·have hl':¬ (la.length:Int)=lb.length:=by omega
  have hne:¬ la=lb:=fun h=>hl (by rw [h])
  simp [-Int.natCast_add,-BitVec.toNat_or,-BitVec.toNat_ofInt,-BitVec.toNat_and,Zac u23,Zaa u23 sz3,Zab ld3,hl,hl',hne]
theorem Zf4 (hN:Nf S)(i pc e:Int):∃ m1,Zbi Tryz.prog TT S 29 [.int .i64 i,.int .i64 pc,.int .i64 e] m=some (.tuple #[.agg #[.int .i64 i,.int .i64 pc],.int .i64 e],m1)∧Zao m m1 []:=by
 suffices hg:∃ v m1,Zbi Tryz.prog TT S 29 [.int .i64 i,.int .i64 pc,.int .i64 e] m=some (v,m1)∧v=.tuple #[.agg #[.int .i64 i,.int .i64 pc],.int .i64 e]∧Zao m m1 [] by
  obtain⟨_,m1,h1,rfl,h2⟩:=hg
  exact⟨m1,h1,h2⟩
 obtain⟨o2,k2,n2⟩:=Za7 (m:=m) (cs:=[.int .i64 0,.int .i64 0]) (e:=52) rfl
 obtain⟨rb,hrb⟩:∃ z,m.next=z:=⟨_,rfl⟩
 rw [hrb] at o2 n2
 obtain⟨m2,hm2⟩:∃ z,m.new [.int .i64 0,.int .i64 0] 52=z:=⟨_,rfl⟩
 rw [hm2] at o2 k2 n2
 refine Zey 8 [] k29 hN.where_ rfl ?_
 simp [-Int.natCast_add,-BitVec.toNat_or,-BitVec.toNat_ofInt,-BitVec.toNat_and,Zbj Zhb,Zag Zgl,Zai Zhp,Zaf Zgo,hrb,hm2]
 generalize hra:Za8 _ _ _=ra
 obtain⟨m3,rfl,o3,k3⟩:=Za4 hra o2 (by simp) (by simp [Zbk])
 simp [Zdh] at o3
 have l:=o3.load (off:=0) 2 (by simp)
 simp [Zb] at l
 simp [-Int.natCast_add,-BitVec.toNat_or,-BitVec.toNat_ofInt,-BitVec.toNat_and,Zbj Zhb,Zag Zgl,Zai Zhp,Zaf Zgo,l]
 exact k2.fresh k3 (by simp;omega)
theorem Zx2 {nl nc:Nat}(hnc:nc≤4000){x:Ix}{j:Nat}(hj:j < nc)(h0:Zfe p nl nc x j=0):∀ t∈Zjj x.1 x.2.1 j,0≤t∧t < nc:=by
 unfold Zfe at h0
 split at h0
 ·cases h0
 split at h0
 ·cases h0
 split at h0
 ·cases h0
 rename_i h26
 split at h0
 ·cases h0
 rename_i hfall
 have wj:IntKind.i64.wrap ((j:Int)+1)=((j+1:Nat):Int):=by rw [Zbh (by omega) (by omega)];omega
 have hin:x.1=26∨x.1=27→0≤x.2.1∧x.2.1 < nc:=by
  intro e
  rcases hh:inB x.2.1 nc with _ | _
  ·exact absurd ⟨e,hh⟩ h26
  ·exact of_decide_eq_true hh
 have hnext:x.1≠26→x.1≠41→j+1 < nc:=by
  intro e1 e2
  have:¬ j+1=nc:=fun e=>hfall ⟨e,e1,e2⟩
  omega
 intro t ht
 unfold Zjj at ht
 rw [wj] at ht
 split at ht
 ·rename_i e
  rw [List.mem_singleton.1 ht];exact hin (Or.inl e)
 ·rename_i e26
  split at ht
  ·rename_i e27
   have:=hnext e26 (by omega)
   rcases List.mem_cons.1 ht with e | e
   ·rw [e];omega
   ·rw [List.mem_singleton.1 e];exact hin (Or.inr e27)
  ·split at ht
   ·simp at ht
   ·rename_i e41
    have:=hnext e26 e41
    rw [List.mem_singleton.1 ht];omega
section
variable {P:Program}{ρ:Operand→Value}{d:Option Tmp}{ty:TypeId}{pos:String}{af:Array Edge}{g:Option (Nat × Bool)}
theorem Z3r {t e:TypeId}(hu:P.underlying t=some (.slice e))(x y:Operand){yt:TypeId}(hx:ρ x=.slice none 0 0)(hy:ρ y=.slice none 0 0) :
  Z2s P ρ ⟨d,.binOp .eql t x y yt,ty,pos,af,g⟩ .eql t x y m=some (.bool true,m):=by
 have heq:Zd6 P (Op.equal t (.slice none 0 0) (.slice none 0 0))=some true:=by
  show Zd6 P (Op.equalIn 10000 t (.slice none 0 0) (.slice none 0 0))=some true
  unfold Op.equalIn
  rw [Zfi,Ze7 hu]
  try rfl
 have hgd:Zd6 P (eqGuard .eql t x y (.slice none 0 0) (.slice none 0 0))=some ():=by
  rfl
 have hc:Zc0 P ρ ⟨d,.binOp .eql t x y yt,ty,pos,af,g⟩=some (.bool true):=by
  refine Zqp (by simp [Op.operands,hx,hy,Zbs]) ?_ (by intro u hu;cases hu;rfl)
  have ee:execOp ρ ⟨d,.binOp .eql t x y yt,ty,pos,af,g⟩=(Next.value <$> (do eqGuard .eql t x y (ρ x) (ρ y);binOp .eql t (ρ x) (ρ y))):=rfl
  rw [ee,Z3n,hx,hy,Zfi,hgd]
  simp only [Option.bind_some]
  have:Zd6 P (binOp .eql t (.slice none 0 0) (.slice none 0 0))=some (.bool true):=by
   show Zd6 P (Op.equal t (.slice none 0 0) (.slice none 0 0) >>= fun r=>pure (Value.bool r))=_
   rw [Zfi,heq];try rfl
  rw [this];try rfl
 show Zdd P ρ _ .eql t x y m=_
 simp only [Zdd,hu,hx,hy,hc]
 try rfl
end
def tcs (K:Kn)(A:Nat→Addr × Nat)(n:Nat):List Value:=(List.range n).map fun x=>match K x with
 | some s=>.slice (some (A x).1) s.length s.length
 | none=>.slice none 0 0
def dcs (D:Nat→Bool)(n:Nat):List Value:=(List.range n).map fun x=>.bool (D x)
theorem Zl8 (K:Kn)(A:Nat→Addr × Nat)(n:Nat):(tcs K A n).length=n:=by simp [tcs]
theorem Zmr (D:Nat→Bool)(n:Nat):(dcs D n).length=n:=by simp [dcs]
theorem Zlr {n x:Nat}(h:x < n){s:List Int}(hs:K x=some s):(tcs K A n)[x]?=some (.slice (some (A x).1) s.length s.length):=by
 simp [tcs,h,hs]
theorem Ztk {n x:Nat}(h:x < n)(hs:K x=none):(tcs K A n)[x]?=some (.slice none 0 0):=by
 simp [tcs,h,hs]
theorem Zz8 {n x:Nat}(h:x < n):(dcs D n)[x]?=some (.bool (D x)):=by
 simp [dcs,h]
theorem Zs1 {cells:List Value}{k:Nat}(h:k < cells.length)(v:Value):Zdh cells k [v]=cells.set k v:=by
 simp [Zdh,List.set_eq_take_append_cons_drop,h]
theorem Zsz {n t:Nat}(h:t < n)(ao:Addr)(fo:Nat)(out:List Int):Zdh (tcs K A n) t [.slice (some ao) out.length out.length]=tcs (Zm6 K t out) (fun x=>if x=t then (ao,fo) else A x) n:=by
 rw [Zs1 (by rw [Zl8];exact h)]
 apply List.ext_getElem?
 intro i
 rw [List.getElem?_set,Zl8]
 by_cases hi:i < n
 ·by_cases e:t=i
  ·subst e
   rw [if_pos rfl,if_pos h,Zlr h (s:=out) (by simp [Zm6])]
   simp
  ·have e':¬ i=t:=fun h=>e h.symm
   rw [if_neg e]
   simp [tcs,hi,Zm6,e']
 ·rw [if_neg (by omega),List.getElem?_eq_none (by rw [Zl8];omega),List.getElem?_eq_none (by rw [Zl8];omega)]
theorem Zyi {n t:Nat}(h:t < n):Zdh (dcs D n) t [.bool true]=dcs (Zpb D t) n:=by
 rw [Zs1 (by rw [Zmr];exact h)]
 apply List.ext_getElem?
 intro i
 rw [List.getElem?_set,Zmr]
 by_cases hi:i < n
 ·by_cases e:t=i
  ·subst e
   rw [if_pos rfl,if_pos h,Zz8 h]
   simp [Zpb]
  ·have e':¬ i=t:=fun h=>e h.symm
   rw [if_neg e]
   simp [dcs,hi,Zpb,e']
 ·rw [if_neg (by omega),List.getElem?_eq_none (by rw [Zmr];omega),List.getElem?_eq_none (by rw [Zmr];omega)]
theorem Z1z (n:Nat):tcs (fun _=>none) A n=List.replicate n (.slice none 0 0):=by
 simp [tcs,List.map_const']
theorem Z05 (n:Nat):dcs (fun _=>false) n=List.replicate n (.bool false):=by
 simp [dcs,List.map_const']
structure WrS (m0 m:Mem)(tb db:Nat)(p:Pr)(q:Pp)(f:Fn)(fp:Fp)(K:Kn)(D:Nat→Bool)(A:Nat→Addr × Nat):Prop where
 pr:Zmg m0 p q
 fn:Zwt m0 f fp
 k0:Zao m0 m []
 tn:m0.next≤tb
 dn:m0.next≤db
 ne:tb≠db
 ot:Own m tb (tcs K A f.code.length) 23 tb
 od:Own m db (dcs D f.code.length) 4 db
 row:∀ x s,K x=some s→Rs m (some (A x).1) s.length (ic s) 3 1 (A x).2∧(A x).2≠tb∧(A x).2≠db
 kin:∀ x,(K x).isSome=true→x < f.code.length
 kv:∀ x s,K x=some s→Val p.L s∧s.length≤60
theorem WrS.keep {m1:Mem}(h:WrS m0 m tb db p q f fp K D A)(k:Zao m m1 []):WrS m0 m1 tb db p q f fp K D A:=
 ⟨h.pr,h.fn,h.k0.trans k,h.tn,h.dn,h.ne,h.ot.keep k (by simp),h.od.keep k (by simp),fun x s e=>⟨(h.row x s e).1.keep k (by simp),(h.row x s e).2⟩,h.kin,h.kv⟩
theorem WrS.setD {m1:Mem}(h:WrS m0 m tb db p q f fp K D A){t:Nat}(ht:t < f.code.length)(o:Own m1 db (Zdh (dcs D f.code.length) t [.bool true]) 4 db)(k:Zao m m1 [db]):WrS m0 m1 tb db p q f fp K (Zpb D t) A:=by
 rw [Zyi ht] at o
 exact⟨h.pr,h.fn,h.k0.fresh k (by simp;exact h.dn),h.tn,h.dn,h.ne,h.ot.keep k (by simp;exact h.ne),o,fun x s e=>⟨(h.row x s e).1.keep k (by simp;exact (h.row x s e).2.2),(h.row x s e).2⟩,h.kin,h.kv⟩
theorem WrS.setT {m1:Mem}(h:WrS m0 m tb db p q f fp K D A){t:Nat}(ht:t < f.code.length){out:List Int}{ao:Addr}{fo:Nat}(o:Own m1 tb (Zdh (tcs K A f.code.length) t [.slice (some ao) out.length out.length]) 23 tb)(k:Zao m m1 [tb])(r:Rs m (some ao) out.length (ic out) 3 1 fo)(h1:fo≠tb)(h2:fo≠db)(hv:Val p.L out∧out.length≤60):WrS m0 m1 tb db p q f fp (Zm6 K t out) D (fun x=>if x=t then (ao,fo) else A x):=by
 rw [Zsz ht ao fo] at o
 refine⟨h.pr,h.fn,h.k0.fresh k (by simp;exact h.tn),h.tn,h.dn,h.ne,o,h.od.keep k (by simp;exact h.ne.symm),fun x s e=>?_,fun x e=>?_,fun x s e=>?_⟩
 ·by_cases hx:x=t
  ·simp only [Zm6,if_pos hx] at e
   cases e
   rw [if_pos hx]
   exact⟨r.keep k (by simp;exact h1),h1,h2⟩
  ·simp only [Zm6,if_neg hx] at e
   rw [if_neg hx]
   exact⟨(h.row x s e).1.keep k (by simp;exact (h.row x s e).2.1),(h.row x s e).2⟩
 ·by_cases hx:x=t
  ·rw [hx];exact ht
  ·simp only [Zm6,if_neg hx] at e
   exact h.kin x e
 ·by_cases hx:x=t
  ·simp only [Zm6,if_pos hx] at e
   cases e;exact hv
  ·simp only [Zm6,if_neg hx] at e
   exact h.kv x s e
theorem Rs.ldf {ao:Addr}{st:List Int}{sf:Nat}(h:Rs m (some ao) st.length (ic st) 3 1 sf):ldS m (.slice (some ao) st.length st.length) 1=some (ic st,st.length):=by
 obtain⟨ab,aof,asp⟩:=ao
 have hsp:asp=none:=(Rs.iv h).spn _ rfl
 subst hsp
 have h1:=Zlk h (Nat.le_refl st.length) rfl
 rwa [List.take_length] at h1
def WkQ (m1:Mem)(f:Fn)(r:Int × Nat × Option Kn)(v:Value):Prop:=∃ u,v=.tuple #[u,.int .i64 r.2.1,.int .i64 r.1]∧∀ K,r.2.2=some K→∃ tb A,u=.slice (some ⟨tb,0,none⟩) f.code.length f.code.length∧Own m1 tb (tcs K A f.code.length) 23 tb∧∀ x s,K x=some s→Rs m1 (some (A x).1) s.length (ic s) 3 1 (A x).2
set_option maxHeartbeats 4000000 in
theorem Zvs (hN:Nf S)(hP:Zu0 p)(h:Zmg m p q)(hf:f∈p.F)(hfn:Zwt m f fp)(hfl:f.ls.length≤1000)(hc0:0 < f.code.length)(hc:f.code.length≤4000)(hst:∀ j (hj:j < f.code.length),Zfe p f.ls.length f.code.length f.code[j] j=0) :
  ∃ v m1,Zbi Tryz.prog TT S 27 [.agg (p.row q).toArray,.agg (f.row fp).toArray] m=some (v,m1)∧WkQ m1 f (Zlg p f (f.code.length+1) K0 (fun _=>false)) v∧Zao m m1 []:=by
 obtain⟨wr,hwr⟩:∃ z,Zlg p f (f.code.length+1) K0 (fun _=>false)=z:=⟨_,rfl⟩
 rw [hwr]
 obtain⟨pb,m1,hpb,hm1,o1,k1,n1⟩:=Zke m p q
 obtain⟨o2,k2,n2⟩:=Za7 (m:=m1) (cs:=f.row fp) (e:=37) rfl
 obtain⟨gb,hgb⟩:∃ z,m1.next=z:=⟨_,rfl⟩
 rw [hgb] at o2 n2
 obtain⟨m2,hm2⟩:∃ z,m1.new (f.row fp) 37=z:=⟨_,rfl⟩
 rw [hm2] at o2 k2 n2
 have K2:=k1.trans k2
 have o12:=o1.keep k2 (by simp)
 have hz1:Zfq Tryz.prog 23 f.code.length=some (List.replicate f.code.length (.slice none 0 0)):=Zqf (by kernel_rfl:zOk Tryz.prog 23 24 (.slice none 0 0)=true) rfl rfl (by omega)
 have hz2:Zfq Tryz.prog 4 f.code.length=some (List.replicate f.code.length (.bool false)):=Zqf (by kernel_rfl:zOk Tryz.prog 4 1 (.bool false)=true) rfl rfl (by omega)
 obtain⟨o3,k3,n3⟩:=Za7 (m:=m2) (cs:=List.replicate f.code.length (.slice none 0 0)) (e:=23) rfl
 obtain⟨tb,htb⟩:∃ z,m2.next=z:=⟨_,rfl⟩
 rw [htb] at o3 n3
 obtain⟨m3,hm3⟩:∃ z,m2.new (List.replicate f.code.length (.slice none 0 0)) 23=z:=⟨_,rfl⟩
 rw [hm3] at o3 k3 n3
 obtain⟨o4,k4,n4⟩:=Za7 (m:=m3) (cs:=[]) (e:=3) rfl
 obtain⟨zb,hzb⟩:∃ z,m3.next=z:=⟨_,rfl⟩
 rw [hzb] at o4 n4
 obtain⟨m4,hm4⟩:∃ z,m3.new [] 3=z:=⟨_,rfl⟩
 rw [hm4] at o4 k4 n4
 have lcd:∀ m',Zao m2 m' []→loadRow m' ⟨gb,4,none⟩ 1=some [.slice fp.ca f.code.length f.code.length]:=fun m' k=>(o2.keep k (by simp)).load1 (off:=4) rfl
 have lp:∀ m',Zao m2 m' []→loadRow m' ⟨pb,0,none⟩ 5=some (p.row q):=fun m' k=>by
  have h9:=(o12.keep k (by simp)).load (off:=0) 5 (by simp [Pr.row])
  rw [h9];simp [Zb,Pr.row]
 have lg:∀ m',Zao m2 m' []→loadRow m' ⟨gb,0,none⟩ 5=some (f.row fp):=fun m' k=>by
  have h9:=(o2.keep k (by simp)).load (off:=0) 5 (by simp [Fn.row])
  rw [h9];simp [Zb,Fn.row]
 have c2:=lcd _ (Zaj _)
 simp only [Pr.row] at hm1 lp
 simp only [Fn.row] at hm2 lg
 have ht:∀ (ρ:Operand→Value) d ty pos af g x y yt (m':Mem) (hx:ρ x=.slice none 0 0) (hy:ρ y=.slice none 0 0),
    Z2s Tryz.prog ρ ⟨d,.binOp .eql 23 x y yt,ty,pos,af,g⟩ .eql 23 x y m'=some (.bool true,m'):=fun ρ d ty pos af g x y yt m' hx hy=>Z3r u23 x y hx hy
 refine Zey 14 [42,49,70,83,93,112] k27 hN.walk rfl ?_
 have b1:f.code.length * 24≤281474976710656:=by omega
 have b2:f.code.length≤281474976710656:=by omega
 have b3:(f.code.length:Int)≤9223372036854775807:=by omega
 simp [-Int.natCast_add,-BitVec.toNat_or,-BitVec.toNat_ofInt,-BitVec.toNat_and,Zah b45,Zah b37,Za Zbl,Zab Zde,Zac u22,Zcv u59 Zo9,Zad u23 bs3 rfl,Zaa u59 Ze2,Zaf Ze2,Zcv Zig ap4,Zab Zbe,Zdi u23,Zaa Zig sz4,Zab ld4,Zaf sz4,Zae Zbx,Zae Zby,Zaa u22 Zb8,Zae Zcb,Zac u23,Zaa u23 sz3,Zab ld3,Zam u23 sz3,Pr.row,Fn.row,hpb,hm1,hgb,hm2,c2,Zcv u59 Zo9,hz1,b1,b2,b3,htb,hm3,hzb,hm4,hc0]
 generalize hra:Za8 _ _ _=ra
 obtain⟨m5,rfl,o5,k5⟩:=Za4 hra (o3.keep k4 (by simp)) (by simp;omega) (by simp [Zbp])
 have k24:=k3.trans k4
 have k25:Zao m2 m5 []:=k24.fresh k5 (by simp;omega)
 have c5:=lcd _ k25
 obtain⟨o6,k6,n6⟩:=Za7 (m:=m5) (cs:=List.replicate f.code.length (.bool false)) (e:=4) rfl
 obtain⟨db,hdb⟩:∃ z,m5.next=z:=⟨_,rfl⟩
 rw [hdb] at o6 n6
 obtain⟨m6,hm6⟩:∃ z,m5.new (List.replicate f.code.length (.bool false)) 4=z:=⟨_,rfl⟩
 rw [hm6] at o6 k6 n6
 have hn45:m4.next≤m5.next:=k5.1
 have hW:WrS m2 m6 tb db p q f fp K0 (fun _=>false) (fun _=>(⟨zb,0,none⟩,zb)):=by
  have e1:Zdh (List.replicate f.code.length (Value.slice none 0 0)) 0 [.slice (some ⟨zb,0,none⟩) 0 0]=tcs K0 (fun _=>(⟨zb,0,none⟩,zb)) f.code.length:=by
   have h9:=Zsz (K:=fun _=>none) (A:=fun _=>(⟨zb,0,none⟩,zb)) hc0 ⟨zb,0,none⟩ zb []
   rw [Z1z] at h9
   have e2:Zm6 (fun _=>none) 0 []=K0:=by funext x;simp [Zm6,K0]
   have e3:(fun x:Nat=>if x=0 then ((⟨zb,0,none⟩:Addr),zb) else (⟨zb,0,none⟩,zb))=fun _=>(⟨zb,0,none⟩,zb):=by funext x;split <;> rfl
   rw [e2,e3] at h9
   exact h9
  refine⟨h.keep K2,hfn.keep K2,k25.trans k6,by omega,by have:=k25.1;omega,by have:=k24.1;omega,?_,?_,fun x s e=>?_,fun x e=>?_,fun x s e=>?_⟩
  ·rw [← e1];exact o5.keep k6 (by simp)
  ·rw [Z05];exact o6
  ·simp only [K0] at e
   split at e
   ·cases e
    refine⟨?_,by omega,by have:=k4.1;omega⟩
    have o46:=(o4.keep k5 (by simp;omega)).keep k6 (by simp)
    exact⟨by simp [ic],Or.inr ⟨_,rfl,by simpa [ic] using o46.rdo⟩⟩
   ·cases e
  ·simp only [K0] at e
   split at e
   ·omega
   ·cases e
  ·simp only [K0] at e
   split at e
   ·cases e;exact⟨fun t ht=>by simp at ht,by simp⟩
   ·cases e
 have hcnt0:Zyy (fun _=>false) f.code.length < f.code.length+1:=by
  unfold Zyy
  have h9:=List.length_filter_le (fun i=>!(fun _:Nat=>false) i) (List.range f.code.length)
  rw [List.length_range] at h9
  exact Nat.lt_succ_of_le h9
 simp [-Int.natCast_add,-BitVec.toNat_or,-BitVec.toNat_ofInt,-BitVec.toNat_and,Zah b45,Zah b37,Za Zbl,Zab Zde,Zac u22,Zcv u59 Zo9,Zad u23 bs3 rfl,Zaa u59 Ze2,Zaf Ze2,Zcv Zig ap4,Zab Zbe,Zdi u23,Zaa Zig sz4,Zab ld4,Zaf sz4,Zae Zbx,Zae Zby,Zaa u22 Zb8,Zae Zcb,Zac u23,Zaa u23 sz3,Zab ld3,Zam u23 sz3,c5,Zcv Zig ap4,hz2,b1,b2,b3,hdb,hm6]
 refine Zbg 14 [42,49,70,83,93,112] (fun d E mD=>∃ (n:Nat) (K:Kn) (D:Nat→Bool) (A:Nat→Addr × Nat),n=d∧Zlg p f n K D=wr∧Zyy D f.code.length < n∧WrS m2 mD tb db p q f fp K D A∧E=[(2,.pointer (some ⟨pb,0,none⟩)),(3,.pointer (some ⟨gb,0,none⟩)),(7,.slice (some ⟨tb,0,none⟩) f.code.length f.code.length),(8,.slice (some ⟨db,0,none⟩) f.code.length f.code.length)]) _ ⟨_,⟨f.code.length+1,K0,_,_,rfl,hwr,hcnt0,hW,rfl⟩,⟨by rfl,by rfl,by rfl,by rfl,trivial⟩⟩ ?_
 clear hW hcnt0 hwr
 rintro d E mD ih ⟨n,K,D,A,rfl,hwr,hcn,hW,rfl⟩
 obtain⟨n',rfl⟩:∃ n',n=n'+1:=⟨n - 1,by omega⟩
 rw [Zwi] at hwr
 have cD:=lcd _ hW.k0
 simp [-Int.natCast_add,-BitVec.toNat_or,-BitVec.toNat_ofInt,-BitVec.toNat_and,Zah b45,Zah b37,Za Zbl,Zab Zde,Zac u22,Zcv u59 Zo9,Zad u23 bs3 rfl,Zaa u59 Ze2,Zaf Ze2,Zcv Zig ap4,Zab Zbe,Zdi u23,Zaa Zig sz4,Zab ld4,Zaf sz4,Zae Zbx,Zae Zby,Zaa u22 Zb8,Zae Zcb,Zac u23,Zaa u23 sz3,Zab ld3,Zam u23 sz3]
 refine Zbg 14 [42,49,70,83,93,112] (fun d E mE=>∃ i:Nat,f.code.length - i=d∧i≤f.code.length∧(∀ j,j < i→(K j).isSome=true→D j=true)∧mE=mD∧E=[(2,.pointer (some ⟨pb,0,none⟩)),(3,.pointer (some ⟨gb,0,none⟩)),(7,.slice (some ⟨tb,0,none⟩) f.code.length f.code.length),(8,.slice (some ⟨db,0,none⟩) f.code.length f.code.length),(9,.int .i64 i)]) _ ⟨_,⟨0,rfl,by omega,fun j hj=>by omega,rfl,rfl⟩,⟨by rfl,by rfl,by rfl,by rfl,by rfl,trivial⟩⟩ ?_
 rintro d E mE ihE ⟨i,hdi,hi,hall,hmE,rfl⟩
 rw [hmE]
 by_cases hlt:i < f.code.length
 case neg =>
  have i1:¬ (i:Int) < (f.code.length:Int):=by omega
  have hie:i=f.code.length:=by omega
  have hie':(i:Int)=(f.code.length:Int):=by omega
  have hl:Ziz K D f.code.length=none:=Znw (fun y hy=>hall y (by have:=hW.kin y hy;omega) hy)
  rw [hl] at hwr
  simp only at hwr
  simp [-Int.natCast_add,-BitVec.toNat_or,-BitVec.toNat_ofInt,-BitVec.toNat_and,Zah b45,Zah b37,Za Zbl,Zab Zde,Zac u22,Zcv u59 Zo9,Zad u23 bs3 rfl,Zaa u59 Ze2,Zaf Ze2,Zcv Zig ap4,Zab Zbe,Zdi u23,Zaa Zig sz4,Zab ld4,Zaf sz4,Zae Zbx,Zae Zby,Zaa u22 Zb8,Zae Zcb,Zac u23,Zaa u23 sz3,Zab ld3,Zam u23 sz3,cD,hlt,i1,hie']
  refine⟨⟨.slice (some ⟨tb,0,none⟩) f.code.length f.code.length,by rw [← hwr];rfl,fun K2 hK2=>?_⟩,K2.trans hW.k0⟩
  rw [← hwr] at hK2
  cases hK2
  exact⟨tb,A,rfl,hW.ot,fun x s e=>(hW.row x s e).1⟩
 have i1:(i:Int) < (f.code.length:Int):=by omega
 have em:(i:Int)≤9223372036854775807:=by omega
 have wi:IntKind.i64.wrap ((i:Int)+1)=((i+1:Nat):Int):=by rw [Zbh (by omega) (by omega)];omega
 have ldD:=hW.od.load1 (Zz8 (D:=D) hlt)
 rcases hKi:K i with _ | s
 ·have ldT:=hW.ot.load1 (Ztk (A:=A) hlt hKi)
  simp [-Int.natCast_add,-BitVec.toNat_or,-BitVec.toNat_ofInt,-BitVec.toNat_and,Zah b45,Zah b37,Za Zbl,Zab Zde,Zac u22,Zcv u59 Zo9,Zad u23 bs3 rfl,Zaa u59 Ze2,Zaf Ze2,Zcv Zig ap4,Zab Zbe,Zdi u23,Zaa Zig sz4,Zab ld4,Zaf sz4,Zae Zbx,Zae Zby,Zaa u22 Zb8,Zae Zcb,Zac u23,Zaa u23 sz3,Zab ld3,Zam u23 sz3,cD,hlt,i1,em,ldT,wi]
  rw [ht _ _ _ _ _ _ _ _ _ _ rfl rfl]
  simp [-Int.natCast_add,-BitVec.toNat_or,-BitVec.toNat_ofInt,-BitVec.toNat_and,Zah b45,Zah b37,Za Zbl,Zab Zde,Zac u22,Zcv u59 Zo9,Zad u23 bs3 rfl,Zaa u59 Ze2,Zaf Ze2,Zcv Zig ap4,Zab Zbe,Zdi u23,Zaa Zig sz4,Zab ld4,Zaf sz4,Zae Zbx,Zae Zby,Zaa u22 Zb8,Zae Zcb,Zac u23,Zaa u23 sz3,Zab ld3,Zam u23 sz3,cD,hlt,i1,em,ldT,wi]
  exact ihE _ _ _ _ ⟨i+1,rfl,by omega,fun j hj hk=>by
   by_cases e:j=i
   ·rw [e,hKi] at hk;cases hk
   ·exact hall j (by omega) hk,rfl,rfl⟩ (by omega) ⟨by rfl,by rfl,by rfl,by rfl,by simp [Zcm],trivial⟩
 have ldT:=hW.ot.load1 (Zlr (A:=A) hlt hKi)
 rcases hDi:D i with _ | _
 case true =>
  rw [hDi] at ldD
  simp [-Int.natCast_add,-BitVec.toNat_or,-BitVec.toNat_ofInt,-BitVec.toNat_and,Zah b45,Zah b37,Za Zbl,Zab Zde,Zac u22,Zcv u59 Zo9,Zad u23 bs3 rfl,Zaa u59 Ze2,Zaf Ze2,Zcv Zig ap4,Zab Zbe,Zdi u23,Zaa Zig sz4,Zab ld4,Zaf sz4,Zae Zbx,Zae Zby,Zaa u22 Zb8,Zae Zcb,Zac u23,Zaa u23 sz3,Zab ld3,Zam u23 sz3,cD,hlt,i1,em,ldT,ldD,wi]
  exact ihE _ _ _ _ ⟨i+1,rfl,by omega,fun j hj hk=>by
   by_cases e:j=i
   ·rw [e];exact hDi
   ·exact hall j (by omega) hk,rfl,rfl⟩ (by omega) ⟨by rfl,by rfl,by rfl,by rfl,by simp [Zcm],trivial⟩
 clear ihE
 rw [hDi] at ldD
 have hle:Ziz K D f.code.length=some i:=Zn4 hlt (by rw [hKi];rfl) hDi (fun y hy hd=>Classical.byContradiction fun hn=>by have:=hall y (by omega) hy;rw [hd] at this;cases this)
 rw [hle] at hwr
 simp only at hwr
 have hgd:f.code.getD i (0,0,0)=f.code[i]:=by simp [List.getD_eq_getElem?_getD,hlt]
 rw [hgd,hKi,Option.getD_some] at hwr
 have hrest:=Ztj hDi hlt
 have hie:¬ i=f.code.length:=by omega
 have hie':¬ (i:Int)=(f.code.length:Int):=by omega
 simp [-Int.natCast_add,-BitVec.toNat_or,-BitVec.toNat_ofInt,-BitVec.toNat_and,Zah b45,Zah b37,Za Zbl,Zab Zde,Zac u22,Zcv u59 Zo9,Zad u23 bs3 rfl,Zaa u59 Ze2,Zaf Ze2,Zcv Zig ap4,Zab Zbe,Zdi u23,Zaa Zig sz4,Zab ld4,Zaf sz4,Zae Zbx,Zae Zby,Zaa u22 Zb8,Zae Zcb,Zac u23,Zaa u23 sz3,Zab ld3,Zam u23 sz3,cD,hlt,i1,em,ldT,ldD,hie,hie']
 generalize hrs:Za8 _ _ _=rs
 obtain⟨mS,rfl,oS,kS⟩:=Za4 hrs hW.od (by rw [Zmr];simp;omega) (by simp [Zsj])
 have hW1:=hW.setD hlt oS kS
 clear hrs oS kS
 obtain⟨hrow,hrd⟩:=hW1.row i s hKi
 obtain⟨hsv,hsl⟩:=hW1.kv i s hKi
 have hins:=Ztg (hst i hlt)
 have hjp:=Zx2 hc hlt (hst i hlt)
 have ldT1:=hW1.ot.load1 (Zlr (A:=A) hlt hKi)
 obtain⟨cb,hcb,hcl⟩:=Zih hW1.fn.code hlt
 have lcS:=hcl _ hW1.k0
 have cS:=lcd _ hW1.k0
 have pS:=lp _ hW1.k0
 have gS:=lg _ hW1.k0
 obtain⟨vd,mF,hd2,hsr,kF⟩:=Zym (m:=mS) hN hP (hW1.pr.keep hW1.k0) hf (hW1.fn.keep hW1.k0) hfl f.code[i] hins hrow hsv hsl
 have hok:=fun out (e:Zh1 p f f.code[i] s=(0,out))=>Zw0 hP hf hins hsl hsv e
 have hW2:=hW1.keep kF
 have lcF:=hcl _ hW2.k0
 have cF:=lcd _ hW2.k0
 obtain⟨vt,mG,htg,ao3,fam3,rfl,hsl3,hfr3,kG⟩:=Zyp (m:=mF) hN.tgt f.code[i].1 f.code[i].2.1 f.code[i].2.2 i
 simp only [Pr.row,Fn.row] at hd2
 obtain⟨x,hx⟩:∃ x,f.code[i]=x:=⟨_,rfl⟩
 rw [hx] at lcS lcF hd2 hsr hok hwr hjp htg hsl3
 rw [hcb] at cS cF hd2
 obtain⟨r,hr⟩:∃ r,Zh1 p f x s=r:=⟨_,rfl⟩
 rw [hr] at hsr hwr
 obtain⟨e,out⟩:=r
 rcases hsr with⟨e0,bo,fo,rfl,hro,hfo⟩ | ⟨e0,rfl⟩
 case inr =>
  simp only at e0
  rw [if_pos e0] at hwr
  simp [-Int.natCast_add,-BitVec.toNat_or,-BitVec.toNat_ofInt,-BitVec.toNat_and,Zah b45,Zah b37,Za Zbl,Zab Zde,Zac u22,Zcv u59 Zo9,Zad u23 bs3 rfl,Zaa u59 Ze2,Zaf Ze2,Zcv Zig ap4,Zab Zbe,Zdi u23,Zaa Zig sz4,Zab ld4,Zaf sz4,Zae Zbx,Zae Zby,Zaa u22 Zb8,Zae Zcb,Zac u23,Zaa u23 sz3,Zab ld3,Zam u23 sz3,hcb,cS,hlt,i1,em,pS,gS,lcS,ldT1,hd2,e0]
  exact⟨⟨.slice none 0 0,by rw [← hwr],fun K2 hK2=>by rw [← hwr] at hK2;cases hK2⟩,K2.trans hW2.k0⟩
 simp only at e0 hro
 subst e0
 have hok2:=hok out hr
 rw [if_neg (by simp)] at hwr
 simp only at hwr
 have hTl:(Zjj x.1 x.2.1 i).length≤2:=by unfold Zjj;by_cases h1:x.1=26 <;> by_cases h2:x.1=27 <;> by_cases h3:x.1=41 <;> simp [h1,h2,h3]
 have h3:Rs mG ao3 (Zjj x.1 x.2.1 i).length (ic (Zjj x.1 x.2.1 i)) 3 1 fam3:=hsl3.rs
 obtain⟨T,hT⟩:∃ z,Zjj x.1 x.2.1 i=z:=⟨_,rfl⟩
 rw [hT] at h3 hjp hwr hTl htg
 have hW3:=hW2.keep kG
 have hro3:=hro.keep kG (by simp)
 have hfo1:fo≠tb:=by have:=hW1.ot.flt;omega
 have hfo2:fo≠db:=by have:=hW1.od.flt;omega
 have hf31:fam3≠tb:=by have:=hW2.ot.flt;omega
 simp [-Int.natCast_add,-BitVec.toNat_or,-BitVec.toNat_ofInt,-BitVec.toNat_and,Zah b45,Zah b37,Za Zbl,Zab Zde,Zac u22,Zcv u59 Zo9,Zad u23 bs3 rfl,Zaa u59 Ze2,Zaf Ze2,Zcv Zig ap4,Zab Zbe,Zdi u23,Zaa Zig sz4,Zab ld4,Zaf sz4,Zae Zbx,Zae Zby,Zaa u22 Zb8,Zae Zcb,Zac u23,Zaa u23 sz3,Zab ld3,Zam u23 sz3,hcb,cS,hlt,i1,em,pS,gS,lcS,ldT1,hd2,cF,lcF,htg]
 refine Zbg 14 [42,49,70,83,93,112] (fun d E mH=>∃ (k:Nat) (K':Kn) (A':Nat→Addr × Nat),T.length - k=d∧k≤T.length∧Zko K out T=Zko K' out (T.drop k)∧WrS m2 mH tb db p q f fp K' (Zpb D i) A'∧Rs mH (some bo) out.length (ic out) 3 1 fo∧Rs mH ao3 T.length (ic T) 3 1 fam3∧E=[(2,.pointer (some ⟨pb,0,none⟩)),(3,.pointer (some ⟨gb,0,none⟩)),(7,.slice (some ⟨tb,0,none⟩) f.code.length f.code.length),(8,.slice (some ⟨db,0,none⟩) f.code.length f.code.length),(9,.int .i64 i),(10,.slice (some bo) out.length out.length),(12,.slice ao3 T.length T.length),(13,.int .i64 k)]) _ ⟨_,⟨0,K,A,rfl,by omega,rfl,hW3,hro3,h3,rfl⟩,⟨by rfl,by rfl,by rfl,by rfl,by rfl,by rfl,by rfl,by rfl,trivial⟩⟩ ?_
 rintro d E mH ihH ⟨k,K',A',hdk,hk,hg,hWH,hrH,h3H,rfl⟩
 by_cases hlk:k < T.length
 case neg =>
  have j1:¬ (k:Int) < (T.length:Int):=by omega
  rw [List.drop_eq_nil_of_le (by omega)] at hg
  have hg2:Zko K out T=some K':=hg
  rw [hg2] at hwr
  simp only at hwr
  simp [-Int.natCast_add,-BitVec.toNat_or,-BitVec.toNat_ofInt,-BitVec.toNat_and,Zah b45,Zah b37,Za Zbl,Zab Zde,Zac u22,Zcv u59 Zo9,Zad u23 bs3 rfl,Zaa u59 Ze2,Zaf Ze2,Zcv Zig ap4,Zab Zbe,Zdi u23,Zaa Zig sz4,Zab ld4,Zaf sz4,Zae Zbx,Zae Zby,Zaa u22 Zb8,Zae Zcb,Zac u23,Zaa u23 sz3,Zab ld3,Zam u23 sz3,hlk,j1]
  exact ih _ _ _ _ ⟨n',K',Zpb D i,A',rfl,hwr,by omega,hWH,rfl⟩ (by omega) ⟨by rfl,by rfl,by rfl,by rfl,trivial⟩
 have j1:(k:Int) < (T.length:Int):=by omega
 have emk:(k:Int)≤9223372036854775807:=by omega
 have wk:IntKind.i64.wrap ((k:Int)+1)=((k+1:Nat):Int):=by rw [Zbh (by omega) (by omega)];omega
 obtain⟨ab,aof,hao,_,hld⟩:=(Rs.iv h3H).load (by intro e;rw [e] at hlk;simp at hlk)
 have lt:=hld k hlk
 rw [List.drop_eq_getElem_cons hlk] at hg
 have hjk:=hjp T[k] (List.getElem_mem hlk)
 obtain⟨ti,hti⟩:∃ j:Nat,T[k]=j:=⟨T[k].toNat,by omega⟩
 rw [hti] at lt hg hjk
 rw [Zu9,Int.toNat_natCast] at hg
 have htl:ti < f.code.length:=by omega
 have emt:(ti:Int)≤9223372036854775807:=by omega
 have lt0:=lt _ (Zaj _)
 rcases hKt:K' ti with _ | u
 ·rw [hKt] at hg
  simp only at hg
  have ldTt:=hWH.ot.load1 (Ztk (A:=A') htl hKt)
  obtain⟨o7,k7,n7⟩:=Za7 (m:=mH) (cs:=[]) (e:=3) rfl
  obtain⟨eb,heb⟩:∃ z,mH.next=z:=⟨_,rfl⟩
  rw [heb] at o7 n7
  obtain⟨m7,hm7⟩:∃ z,mH.new [] 3=z:=⟨_,rfl⟩
  rw [hm7] at o7 k7 n7
  have hld7:=Rs.ldf (hrH.keep k7 (by simp))
  have lt7:=lt _ k7
  simp [-Int.natCast_add,-BitVec.toNat_or,-BitVec.toNat_ofInt,-BitVec.toNat_and,Zah b45,Zah b37,Za Zbl,Zab Zde,Zac u22,Zcv u59 Zo9,Zad u23 bs3 rfl,Zaa u59 Ze2,Zaf Ze2,Zcv Zig ap4,Zab Zbe,Zdi u23,Zaa Zig sz4,Zab ld4,Zaf sz4,Zae Zbx,Zae Zby,Zaa u22 Zb8,Zae Zcb,Zac u23,Zaa u23 sz3,Zab ld3,Zam u23 sz3,hao,hlk,j1,emk,lt0,htl,emt,ldTt]
  rw [ht _ _ _ _ _ _ _ _ _ _ rfl rfl]
  simp [-Int.natCast_add,-BitVec.toNat_or,-BitVec.toNat_ofInt,-BitVec.toNat_and,Zah b45,Zah b37,Za Zbl,Zab Zde,Zac u22,Zcv u59 Zo9,Zad u23 bs3 rfl,Zaa u59 Ze2,Zaf Ze2,Zcv Zig ap4,Zab Zbe,Zdi u23,Zaa Zig sz4,Zab ld4,Zaf sz4,Zae Zbx,Zae Zby,Zaa u22 Zb8,Zae Zcb,Zac u23,Zaa u23 sz3,Zab ld3,Zam u23 sz3,Zgn,Zgk,hao,hlk,j1,emk,lt0,htl,emt,heb,hm7,hld7]
  generalize hrb:Zcd _ _ _ _ _ _=rb
  obtain⟨m8,b8,rfl,o8,k8⟩:=Zfm hrb u23 ap3 o7 (by simp) (by simp [ic]) (by simp [ic,Zbk]) (by omega) (by omega)
  have K8:Zao mH m8 []:=k7.fresh k8 (by simp;omega)
  have hW8:=hWH.keep K8
  have hzl:0+out.length=out.length:=Nat.zero_add _
  simp [-Int.natCast_add,-BitVec.toNat_or,-BitVec.toNat_ofInt,-BitVec.toNat_and,Zah b45,Zah b37,Za Zbl,Zab Zde,Zac u22,Zcv u59 Zo9,Zad u23 bs3 rfl,Zaa u59 Ze2,Zaf Ze2,Zcv Zig ap4,Zab Zbe,Zdi u23,Zaa Zig sz4,Zab ld4,Zaf sz4,Zae Zbx,Zae Zby,Zaa u22 Zb8,Zae Zcb,Zac u23,Zaa u23 sz3,Zab ld3,Zam u23 sz3,htl,emt]
  generalize hrc:Za8 _ _ _=rc
  obtain⟨m9,rfl,o9,k9⟩:=Za4 hrc hW8.ot (by rw [Zl8];simp;omega) (by simp [Zbp])
  have hr8:Rs m8 (some ⟨b8,0,none⟩) out.length (ic out) 3 1 eb:=⟨by simp [ic],Or.inr ⟨_,rfl,by simpa using o8.rdo⟩⟩
  have hmH:tb < mH.next:=hWH.ot.flt
  have hmD:db < mH.next:=hWH.od.flt
  have hW9:=hW8.setT htl o9 k9 hr8 (by omega) (by omega) hok2
  have lt8:=lt _ K8
  simp [-Int.natCast_add,-BitVec.toNat_or,-BitVec.toNat_ofInt,-BitVec.toNat_and,Zah b45,Zah b37,Za Zbl,Zab Zde,Zac u22,Zcv u59 Zo9,Zad u23 bs3 rfl,Zaa u59 Ze2,Zaf Ze2,Zcv Zig ap4,Zab Zbe,Zdi u23,Zaa Zig sz4,Zab ld4,Zaf sz4,Zae Zbx,Zae Zby,Zaa u22 Zb8,Zae Zcb,Zac u23,Zaa u23 sz3,Zab ld3,Zam u23 sz3,wk,lt0,lt7,lt8,Zdf]
  exact ihH _ _ _ _ ⟨k+1,Zm6 K' ti out,_,rfl,by omega,hg,hW9,(hrH.keep K8 (by simp)).keep k9 (by simp;exact hfo1),(h3H.keep K8 (by simp)).keep k9 (by simp;exact hf31),rfl⟩ (by omega) ⟨by rfl,by rfl,by rfl,by rfl,by rfl,by rfl,by rw [hao];rfl,by simp [Zcm],trivial⟩
 ·rw [hKt] at hg
  simp only at hg
  have ldTt:=hWH.ot.load1 (Zlr (A:=A') htl hKt)
  obtain⟨hut,_⟩:=hWH.row ti u hKt
  have hul:=(hWH.kv ti u hKt).2
  have hol:=hok2.2
  obtain⟨_,mX,hs,rfl,hmX⟩:=Zps (m:=mH) hN.same9 hut (by omega) hrH
  rw [hmX] at hs
  by_cases e:u=out
  ·rw [if_pos e] at hg
   rw [decide_eq_true e] at hs
   simp [-Int.natCast_add,-BitVec.toNat_or,-BitVec.toNat_ofInt,-BitVec.toNat_and,Zah b45,Zah b37,Za Zbl,Zab Zde,Zac u22,Zcv u59 Zo9,Zad u23 bs3 rfl,Zaa u59 Ze2,Zaf Ze2,Zcv Zig ap4,Zab Zbe,Zdi u23,Zaa Zig sz4,Zab ld4,Zaf sz4,Zae Zbx,Zae Zby,Zaa u22 Zb8,Zae Zcb,Zac u23,Zaa u23 sz3,Zab ld3,Zam u23 sz3,hao,hlk,j1,emk,lt0,htl,emt,ldTt,hs,wk]
   exact ihH _ _ _ _ ⟨k+1,K',A',rfl,by omega,hg,hWH,hrH,h3H,rfl⟩ (by omega) ⟨by rfl,by rfl,by rfl,by rfl,by rfl,by rfl,by rw [hao];rfl,by simp [Zcm],trivial⟩
  ·rw [if_neg e] at hg
   rw [decide_eq_false e] at hs
   rw [hg] at hwr
   simp only at hwr
   simp [-Int.natCast_add,-BitVec.toNat_or,-BitVec.toNat_ofInt,-BitVec.toNat_and,Zah b45,Zah b37,Za Zbl,Zab Zde,Zac u22,Zcv u59 Zo9,Zad u23 bs3 rfl,Zaa u59 Ze2,Zaf Ze2,Zcv Zig ap4,Zab Zbe,Zdi u23,Zaa Zig sz4,Zab ld4,Zaf sz4,Zae Zbx,Zae Zby,Zaa u22 Zb8,Zae Zcb,Zac u23,Zaa u23 sz3,Zab ld3,Zam u23 sz3,hao,hlk,j1,emk,lt0,htl,emt,ldTt,hs,wk]
   exact⟨⟨.slice none 0 0,by rw [← hwr],fun K2 hK2=>by rw [← hwr] at hK2;cases hK2⟩,K2.trans hWH.k0⟩
end Go.Proofs.YtbldiceiindbdaaGreatDoor.base
