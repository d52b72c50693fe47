/- This text proves what package verify's lays and parts answer. Condition: nothing is known of the calls ahead ('S f = []') but code.Name's names. -/
import Derived.Test.YtbldiceiindbdaaGreatDoorVeD
set_option linter.unusedVariables false
set_option linter.unusedSimpArgs false
set_option maxRecDepth 100000
namespace Go.Proofs.YtbldiceiindbdaaGreatDoor.base
open Go.Sh gen
variable {S:Zed}{m:Mem}{wb:Nat}{p:Pr}{q:Pp}{f:Fn}{fp:Fp}
def Zp (F:List Fn)(a:Int):Fn:=F.getD a.toNat ⟨[],[],0,[],[]⟩
theorem Zjw {F:List Fn}{i:Nat}(hi:i < F.length):Zp F (i:Int)=F[i]:=by simp [Zp,List.getD_eq_getElem?_getD,hi]
def Zh2 (p:Pr)(x:Ix)(l:List Int):Bool:=
 if x.1=36 then decide ((Zp p.F x.2.1).res≠0) else
 if x.1=37 then (match Zh7 p.L (p.X.getD x.2.1.toNat []) (l.getD 0 0) with
  | some y=>decide (y.2.2.1≠(0:Int))
  | none=>false) else decide (0 < (Zba x.1).2.1)
structure Zlh (p:Pr)(nl:Nat)(x:Ix):Prop where
 op:1≤x.1∧x.1≤41
 loc:x.1=5∨x.1=6→0≤x.2.1∧x.2.1 < nl
 ret:x.1=41→x.2.1=0∨x.2.1=1
 ref:x.1=4→Zun p.L x.2.1=true
 st:x.1=34∨x.1=38→Zdy p.L x.2.1=5
 sl:x.1=35→Zdy p.L x.2.1=6
 prt:x.1=39→1≤x.2.1∧x.2.1≤3
 fld:x.1=28∨x.1=29→0≤x.2.1∧x.2.1 < 12
 call:x.1=36→(0≤x.2.1∧x.2.1 < p.F.length)∧x.2.2=(Zp p.F x.2.1).ps.length
 inv:x.1=37→(0≤x.2.1∧x.2.1 < p.X.length)∧1≤x.2.2∧x.2.2≤8
theorem Ztg {p:Pr}{nl nc pc:Nat}{x:Ix}(h:Zfe p nl nc x pc=0):Zlh p nl x:=by
 unfold Zfe at h
 split at h
 ·cases h
 rename_i h1
 split at h
 ·cases h
 rename_i h2
 have hop:1≤x.1∧x.1≤41:=Classical.byContradiction fun e=>h1 (Or.inl e)
 have ho:Zda p x=true:=by rcases e:Zda p x with _ | _;exact absurd (Or.inr e) h1;rfl
 obtain⟨op,a,b⟩:=x
 simp only at *
 refine⟨hop,fun e=>?_,fun e=>?_,fun e=>?_,fun e=>?_,fun e=>?_,fun e=>?_,fun e=>?_,fun e=>?_,fun e=>?_⟩
 ·simp only at e
  rcases hh:inB a nl with _ | _
  ·exact absurd ⟨e,hh⟩ h2
  ·exact of_decide_eq_true hh
 all_goals simp only at e
 all_goals first | subst e | (rcases e with e | e <;> subst e)
 all_goals simp [Zda,inB,Zl0,Zp] at ho ⊢
 all_goals first
  | exact ho
  | omega
set_option maxHeartbeats 1000000 in
theorem Zzs (hN:Nw S)(hR:Zdp p.L)(h:Wa m wb p q f fp)(hxl:p.X.length≤100000)(x:Ix){nl:Nat}(hx:Zlh p nl x){ao:Option Addr}{l:List Int}(hl:Iv m ao l)(hlv:Val p.L l)(hl1:x.1=37→1≤l.length)(hll:l.length≤1000):∃ m1,Zbi Tryz.prog TT S 77 [.pointer (some ⟨wb,0,none⟩),.agg #[.int .i64 x.1,.int .i64 x.2.1,.int .i64 x.2.2],.slice ao l.length l.length] m=some (.bool (Zh2 p x l),m1)∧Zao m m1 []:=by
 suffices hg:∃ v m1,Zbi Tryz.prog TT S 77 [.pointer (some ⟨wb,0,none⟩),.agg #[.int .i64 x.1,.int .i64 x.2.1,.int .i64 x.2.2],.slice ao l.length l.length] m=some (v,m1)∧v=.bool (Zh2 p x l)∧Zao m m1 [] by
  obtain⟨_,m1,h1,rfl,h2⟩:=hg
  exact⟨m1,h1,h2⟩
 obtain⟨op,a,b⟩:=x
 have hcall:=hx.call
 have hinv:=hx.inv
 simp only at hcall hinv hl1
 obtain⟨o1,k1,n1⟩:=Za7 (m:=m) (cs:=[.int .i64 op,.int .i64 a,.int .i64 b]) (e:=40) rfl
 obtain⟨xb,hxb⟩:∃ xb,m.next=xb:=⟨_,rfl⟩
 rw [hxb] at o1 n1
 obtain⟨m1,hm1⟩:∃ mF,m.new [.int .i64 op,.int .i64 a,.int .i64 b] 40=mF:=⟨_,rfl⟩
 rw [hm1] at o1 k1 n1
 have w:=h.keep k1
 have x0:=o1.load1 (off:=0) rfl
 have x1:=o1.load1 (off:=1) rfl
 have xa:=o1.load (off:=0) 3 (by simp)
 simp [Zb] at xa
 refine Zey 14 [14,27] k77 hN.lays rfl ?_
 simp only []
 by_cases e36:op=36
 ·subst e36
  have hin:=(hcall rfl).1
  obtain⟨i,rfl⟩:∃ i:Nat,a=i:=⟨a.toNat,by omega⟩
  have hi:i < p.F.length:=by omega
  obtain⟨fb,fq,he,hfn,hld⟩:=w.pr.fs.one hi
  have l1:=w.l1
  rw [he] at l1
  have l9:=(hld _ (Zaj _)).2.2.1
  have hle:=w.pr.fs.le
  have em:(i:Int)≤9223372036854775807:=by omega
  have e9:=Zjw hi
  simp [-Int.natCast_add,-BitVec.toNat_or,-BitVec.toNat_ofInt,-BitVec.toNat_and,Zah b40,Za Zak,Zab ld3,Za Zbt,Za Zan,Zab Zbw,Za Zal,Zaa u41 Za5,Za Zaz,Zae Zcb,Zaa u23 sz3,Zag Zcw,Zaf Zbd,Za Zap,hxb,hm1,x0,x1,l1,em,hi,l9,Zh2,e9]
  exact k1
 by_cases e37:op=37
 ·subst e37
  have hin:=(hinv rfl).1
  have hl0:=hl1 rfl
  have hl1:=hl.keep k1
  obtain⟨lb,of,rfl,_,hld⟩:=hl1.load (by intro e;rw [e] at hl0;simp at hl0)
  have t0:=hld 0 (by omega) _ (Zaj _)
  have hv0:=hlv _ (List.getElem_mem (show 0 < l.length by omega))
  have hg0:l.getD 0 0=l[0]:=by simp [List.getD_eq_getElem?_getD,show 0 < l.length by omega]
  obtain⟨c,bb,m2,h2,hM,k2⟩:=Zqw hN hR w (37,a,b) hv0 hin hxl
  have hlen:0 < l.length:=by omega
  simp only [Zh2,hg0]
  simp only at h2 hM
  simp only [Nat.add_zero] at t0
  obtain⟨t,ht⟩:∃ z,l[0]=z:=⟨_,rfl⟩
  rw [ht] at t0 h2
  simp only [ht] at hM ⊢
  rcases hmi:Zh7 p.L (p.X.getD a.toNat []) t with _ | y
  ·rw [hmi] at hM
   obtain⟨rfl,rfl⟩:=hM
   obtain⟨o3,k3,n3⟩:=Za7 (m:=m2) (cs:=[.string ⟨#[]⟩,.slice none 0 0,.int .i64 0,.int .i64 0]) (e:=30) rfl
   obtain⟨yb,hyb⟩:∃ xb,m2.next=xb:=⟨_,rfl⟩
   rw [hyb] at o3 n3
   obtain⟨m3,hm3⟩:∃ mF,m2.new [.string ⟨#[]⟩,.slice none 0 0,.int .i64 0,.int .i64 0] 30=mF:=⟨_,rfl⟩
   rw [hm3] at o3 k3 n3
   simp [-Int.natCast_add,-BitVec.toNat_or,-BitVec.toNat_ofInt,-BitVec.toNat_and,Zah b40,Za Zak,Zab ld3,Za Zbt,Za Zan,Zab Zbw,Za Zal,Zaa u41 Za5,Za Zaz,Zae Zcb,Zaa u23 sz3,Zag Zcw,Zaf Zbd,Za Zap,hxb,hm1,x0,x1,xa,t0,hlen,h2,hyb,hm3]
   generalize hra:Za8 _ _ _=ra
   obtain⟨m4,rfl,o4,k4⟩:=Za4 hra o3 (by simp) (by simp [Zbk,Zco,Zbp])
   simp [Zdh] at o4
   have K:Zao m1 m4 []:=(k2.trans k3).fresh k4 (by have:=k2.1;simp;omega)
   simp [-Int.natCast_add,-BitVec.toNat_or,-BitVec.toNat_ofInt,-BitVec.toNat_and,Zah b40,Za Zak,Zab ld3,Za Zbt,Za Zan,Zab Zbw,Za Zal,Zaa u41 Za5,Za Zaz,Zae Zcb,Zaa u23 sz3,Zag Zcw,Zaf Zbd,Za Zap,xa,t0,Zdf]
   exact k1.trans K
  ·rw [hmi] at hM
   obtain⟨po,pf,rfl,hp,rfl⟩:=hM
   obtain⟨o3,k3,n3⟩:=Za7 (m:=m2) (cs:=[.string ⟨#[]⟩,.slice none 0 0,.int .i64 0,.int .i64 0]) (e:=30) rfl
   obtain⟨yb,hyb⟩:∃ xb,m2.next=xb:=⟨_,rfl⟩
   rw [hyb] at o3 n3
   obtain⟨m3,hm3⟩:∃ mF,m2.new [.string ⟨#[]⟩,.slice none 0 0,.int .i64 0,.int .i64 0] 30=mF:=⟨_,rfl⟩
   rw [hm3] at o3 k3 n3
   simp [-Int.natCast_add,-BitVec.toNat_or,-BitVec.toNat_ofInt,-BitVec.toNat_and,Zah b40,Za Zak,Zab ld3,Za Zbt,Za Zan,Zab Zbw,Za Zal,Zaa u41 Za5,Za Zaz,Zae Zcb,Zaa u23 sz3,Zag Zcw,Zaf Zbd,Za Zap,hxb,hm1,x0,x1,xa,t0,hlen,h2,hyb,hm3]
   generalize hra:Za8 _ _ _=ra
   obtain⟨m4,rfl,o4,k4⟩:=Za4 hra o3 (by simp) (by simp [Zbk,Zco,Zbp])
   simp [Zdh] at o4
   have K:Zao m1 m4 []:=(k2.trans k3).fresh k4 (by have:=k2.1;simp;omega)
   have y2:=o4.load1 (off:=2) rfl
   simp [-Int.natCast_add,-BitVec.toNat_or,-BitVec.toNat_ofInt,-BitVec.toNat_and,Zah b40,Za Zak,Zab ld3,Za Zbt,Za Zan,Zab Zbw,Za Zal,Zaa u41 Za5,Za Zaz,Zae Zcb,Zaa u23 sz3,Zag Zcw,Zaf Zbd,Za Zap,y2,xa,t0,Zdf]
   exact k1.trans K
 have mv:=fun m'=>Zqr (m:=m') hN.moves op
 obtain⟨z,hz⟩:∃ z,Zba op=z:=⟨_,rfl⟩
 simp only [hz] at mv
 simp [-Int.natCast_add,-BitVec.toNat_or,-BitVec.toNat_ofInt,-BitVec.toNat_and,Zah b40,Za Zak,Zab ld3,Za Zbt,Za Zan,Zab Zbw,Za Zal,Zaa u41 Za5,Za Zaz,Zae Zcb,Zaa u23 sz3,Zag Zcw,Zaf Zbd,Za Zap,hxb,hm1,x0,mv,Zh2,hz,e36,e37]
 exact k1
end Go.Proofs.YtbldiceiindbdaaGreatDoor.base
