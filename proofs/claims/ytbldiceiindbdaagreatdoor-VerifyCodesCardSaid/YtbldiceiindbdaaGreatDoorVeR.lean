/- This text proves what package verify's goes does: what may come next is known from then on, and is to be done. Condition: nothing is known of the calls ahead ('S f = []') but code.Name's names. -/
import Derived.Test.YtbldiceiindbdaaGreatDoorVeQ
set_option linter.unusedVariables false
set_option linter.unusedSimpArgs false
set_option maxRecDepth 100000
namespace Go.Proofs.YtbldiceiindbdaaGreatDoor.base
open Go.Sh gen
variable {S:Zed}{m0 m:Mem}{wb mp fa:Nat}{p:Pr}{q:Pp}{f:Fn}{fp:Fp}{ta:Option Addr}{T:List Nat}{K:Kn}{D:Nat→Bool}{A:Nat→Pl}
structure Ng (S:Zed):Prop where
 goes:S 44=[]
 tgt:S 78=[]
 eq:S 39=[]
def GoR (m0 m1:Mem)(wb mp:Nat)(p:Pr)(q:Pp)(f:Fn)(fp:Fp)(D:Nat→Bool)(r:Option Kn)(v:Value):Prop:=
 (r=none∧v=.int .i64 32∧Zao m0 m1 [])∨∃ K',r=some K'∧v=.int .i64 0∧∃ ta' fa' T' A',WkS m0 m1 wb mp p q f fp ta' fa' K' D T' A'
set_option maxHeartbeats 2000000 in
theorem Zyk (hN:Ng S)(hC:Nc S)(h:WkS m0 m wb mp p q f fp ta fa K D T A)(hc:f.code.length≤4000){pc:Nat}(hpc:pc < f.code.length)(hin:∀ t∈Zjj f.code[pc].1 f.code[pc].2.1 pc,0≤t∧t < f.code.length)
  {bo:Option Addr} {fo:Nat} {out:List Int} (ho:Rs m bo out.length (ic out) 3 1 fo) (hod:out≠[]→fo≠wb∧fo≠mp∧(ta≠none→fo≠fa)) (hov:Val p.L out∧out.length≤60) :
  ∃ v m1,Zbi Tryz.prog TT S 44 [.pointer (some ⟨wb,0,none⟩),.int .i64 pc,.slice bo out.length out.length] m=some (v,m1)∧GoR m0 m1 wb mp p q f fp D (Zko K out (Zjj f.code[pc].1 f.code[pc].2.1 pc)) v:=by
 refine Zey 23 [23,41,43] k44 hN.goes rfl ?_
 have l9:=h.wa.l9
 obtain⟨cb,hcb,hcl⟩:=Zih (h.fn.keep h.k0).code hpc
 rw [hcb] at l9
 have lc:=hcl _ (Zaj _)
 have em:(pc:Int)≤9223372036854775807:=by omega
 obtain⟨x,hx⟩:∃ x,f.code[pc]=x:=⟨_,rfl⟩
 rw [hx] at lc hin ⊢
 obtain⟨op,a,b⟩:=x
 simp only at lc hin ⊢
 obtain⟨_,m1,h1,ao,tf,rfl,st,htf,k1⟩:=Z12 (m:=m) hN.tgt op a b (pc:Int)
 obtain⟨tg,htg⟩:∃ tg,Zjj op a pc=tg:=⟨_,rfl⟩
 have htl:tg.length≤2:=by
  rw [← htg];unfold Zjj
  split
  ·simp
  ·split
   ·simp
   ·split <;> simp
 rw [htg] at h1 st hin ⊢
 simp [-Int.natCast_add,-BitVec.toNat_or,-BitVec.toNat_ofInt,-BitVec.toNat_and,Za Zbm,Za Zbl,Zab Zde,Zaa u22 Zb8,Zae Zcb,Zac u23,Zaa u23 sz3,Zab ld3,Za Zef,Zab Zo8,Zds u74 u3 Zpc,Zee u74,Za Zeg,Zdm Zh0,Zdm ni3,l9,em,hpc,lc,h1]
 have st':Rs m1 ao tg.length (ic tg) 3 1 tf:=st.rs
 have hwl:=h.h.own.flt
 have hml:=h.mpo.lt
 refine Zbg 23 [23,41,43] (fun d E mC=>∃ (i:Nat) (Ki:Kn) (ta':Option Addr) (fa':Nat) (Ti:List Nat) (Ai:Nat→Pl),tg.length - i=d∧i≤tg.length∧Zko K out tg=Zko Ki out (tg.drop i)∧WkS m0 mC wb mp p q f fp ta' fa' Ki D Ti Ai∧Rs mC bo out.length (ic out) 3 1 fo∧(out≠[]→fo≠wb∧fo≠mp∧(ta'≠none→fo≠fa'))∧(tg≠[]→tf≠wb∧tf≠mp∧(ta'≠none→tf≠fa')∧tf < mC.next)∧Rs mC ao tg.length (ic tg) 3 1 tf∧
  E=[(0,.pointer (some ⟨wb,0,none⟩)),(2,.slice bo out.length out.length),(20,.slice ao tg.length tg.length),(21,.int .i64 tg.length),(22,.int .i64 i)]) _ ⟨_,⟨0,K,ta,fa,T,A,rfl,by omega,rfl,h.keep k1,ho.keep k1 (by simp),hod,fun hne=>⟨by omega,by omega,fun hn=>by have:=h.h.sl.flt hn;omega,?_⟩,st',rfl⟩,⟨by rfl,by rfl,by rfl,by rfl,by rfl,trivial⟩⟩ ?_
 ·obtain⟨_,_,r⟩:=st'.rdo (by intro e0;exact hne (List.length_eq_zero_iff.1 e0))
  exact r.flt
 rintro d E mC ih ⟨i,Ki,ta',fa',Ti,Ai,hd,hi,hgo,hW,hoC,hodC,htfd,hrt,rfl⟩
 by_cases hlt:i < tg.length
 case neg =>
  have i1:¬ (i:Int) < tg.length:=by omega
  rw [List.drop_eq_nil_of_le (by omega)] at hgo
  simp [-Int.natCast_add,-BitVec.toNat_or,-BitVec.toNat_ofInt,-BitVec.toNat_and,Za Zbm,Za Zbl,Zab Zde,Zaa u22 Zb8,Zae Zcb,Zac u23,Zaa u23 sz3,Zab ld3,Za Zef,Zab Zo8,Zds u74 u3 Zpc,Zee u74,Za Zeg,Zdm Zh0,Zdm ni3,i1]
  exact Or.inr ⟨Ki,hgo,rfl,ta',fa',Ti,Ai,hW⟩
 have i1:(i:Int) < tg.length:=by omega
 have emi:(i:Int)≤9223372036854775807:=by omega
 have wi:IntKind.i64.wrap ((i:Int)+1)=((i+1:Nat):Int):=by rw [Zbh (by omega) (by omega)];omega
 obtain⟨tb,rfl,hr⟩:=hrt.rdo (by omega)
 have lt:loadRow mC ⟨tb,i,none⟩ 1=some [.int .i64 tg[i]]:=hr.load1 (by simp [ic,hlt])
 have hti:=hin _ (List.getElem_mem hlt)
 rw [List.drop_eq_getElem_cons hlt,Zu9] at hgo
 have hne:tg≠[]:=by intro e;rw [e] at hlt;simp at hlt
 obtain⟨t,ht⟩:∃ t:Nat,tg[i]=t:=⟨(tg[i]).toNat,by omega⟩
 rw [ht] at lt hgo hti
 rw [Int.toNat_natCast] at hgo
 have htc:t < f.code.length:=by omega
 have lm:=hW.lm
 have hg:=hW.mpo.get (t:Int)
 have hgo2:gOf Ki Ai (t:Int)=(Ki t).map fun s=>.slice (Ai t).a s.length s.length:=by simp [gOf]
 rw [hgo2] at hg
 cases hk:Ki t with
 | some s =>
  rw [hk] at hgo hg
  simp only [Option.map_some] at hg
  simp only at hgo
  obtain⟨hrs,_⟩:=hW.row t s hk
  obtain⟨_,_,he,rfl,rfl⟩:=Zoz (m:=mC) hN.eq hrs (by have:=(hW.kv t s hk).2;omega) hoC
  by_cases hso:s=out
  ·rw [decide_eq_true hso] at he
   rw [if_pos hso] at hgo
   simp [-Int.natCast_add,-BitVec.toNat_or,-BitVec.toNat_ofInt,-BitVec.toNat_and,Za Zbm,Za Zbl,Zab Zde,Zaa u22 Zb8,Zae Zcb,Zac u23,Zaa u23 sz3,Zab ld3,Za Zef,Zab Zo8,Zds u74 u3 Zpc,Zee u74,Za Zeg,Zdm Zh0,Zdm ni3,i1,emi,hlt,lt,lm,hg,he,wi]
   exact ih _ _ _ _ ⟨i+1,Ki,ta',fa',Ti,Ai,rfl,by omega,hgo,hW,hoC,hodC,htfd,hrt,rfl⟩ (by omega) ⟨by rfl,by rfl,by rfl,by rfl,by simp [Zcm],trivial⟩
  ·rw [decide_eq_false hso] at he
   rw [if_neg hso] at hgo
   simp [-Int.natCast_add,-BitVec.toNat_or,-BitVec.toNat_ofInt,-BitVec.toNat_and,Za Zbm,Za Zbl,Zab Zde,Zaa u22 Zb8,Zae Zcb,Zac u23,Zaa u23 sz3,Zab ld3,Za Zef,Zab Zo8,Zds u74 u3 Zpc,Zee u74,Za Zeg,Zdm Zh0,Zdm ni3,i1,emi,hlt,lt,lm,hg,he,wi]
   exact Or.inl ⟨hgo,rfl,hW.k0⟩
 | none =>
  rw [hk] at hgo hg
  simp only [Option.map_none] at hg
  simp only at hgo
  obtain⟨m2,v2,m3,ta2,fa2,T2,hp,hl11,hc2,hW2,ho2,hod2,hnx,hoth⟩:=hW.add hC hc htc hk hoC hodC hov
  have hth:=hoth tf
  have htf2:=htfd hne
  obtain⟨h5,h6⟩:=hth htf2.2.2.2 htf2.1 htf2.2.1 htf2.2.2.1
  simp [-Int.natCast_add,-BitVec.toNat_or,-BitVec.toNat_ofInt,-BitVec.toNat_and,Za Zbm,Za Zbl,Zab Zde,Zaa u22 Zb8,Zae Zcb,Zac u23,Zaa u23 sz3,Zab ld3,Za Zef,Zab Zo8,Zds u74 u3 Zpc,Zee u74,Za Zeg,Zdm Zh0,Zdm ni3,i1,emi,hlt,lt,lm,hg,hp,hc2,wi]
  exact ih _ _ _ _ ⟨i+1,Zm6 Ki t out,ta2,fa2,T2,_,rfl,by omega,hgo,hW2,ho2,hod2,fun _=>⟨htf2.1,htf2.2.1,h5,by omega⟩,h6 _ _ _ _ _ hrt,rfl⟩ (by omega) ⟨by rfl,by rfl,by rfl,by rfl,by simp [Zcm],trivial⟩
end Go.Proofs.YtbldiceiindbdaaGreatDoor.base
