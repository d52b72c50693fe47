/- This text proves what kinds.Method, Has and Fits answer. Condition: nothing is known of the calls ahead ('S f = []'). -/
import Derived.Test.YtbldiceiindbdaaGreatDoorVkG
set_option linter.unusedVariables false
set_option linter.unusedSimpArgs false
set_option maxRecDepth 100000
namespace Go.Proofs.YtbldiceiindbdaaGreatDoor.base
open Go.Sh gen
variable {S:Zed}{m:Mem}
theorem Zfg {l c:List Value}{o n:Nat}(h:Zb l o n=c)(k z:Nat)(hk:k+z≤n):Zb l (o+k) z=(c.drop k).take z:=by
 subst h
 simp only [Zb,List.drop_take,List.take_take,List.drop_drop]
 rw [Nat.min_eq_left (by omega)]
structure Ms (m:Mem)(bo:Option Addr)(ms:List Zdz.D):Prop where
 ex:∃ (css:List (List Value)) (f:Nat),css.length=ms.length∧(∀ (i:Nat) d c,ms[i]?=some d→css[i]?=some c→At m Zdz d c)∧Rs m bo ms.length css.flatten 30 4 f
 le:ms.length≤9223372036854775807
 wf:∀ x∈ms,Zdz.wf x
theorem Ms.keep {m1:Mem}{to:Option Addr}{L:List Zdz.D}(h:Ms m to L)(k:Zao m m1 []):Ms m1 to L:=by
 obtain⟨css,f,h1,h2,h3⟩:=h.ex
 exact⟨⟨css,f,h1,fun i d c hd hc=>(h2 i d c hd hc).keep k,h3.keep k (by simp)⟩,h.le,h.wf⟩
theorem Ms.one {to:Option Addr}{L:List Zdz.D}(h:Ms m to L){i:Nat}(hi:i < L.length):∃ b po pf,to=some ⟨b,0,none⟩∧Rs m po L[i].2.1.length ((show List Int from L[i].2.1).map (Value.int .i64)) 3 1 pf∧
  ∀ m',Zao m m' []→loadRow m' ⟨b,i * 4,none⟩ 4=some [.string ⟨L[i].1.toArray⟩,.slice po L[i].2.1.length L[i].2.1.length,.int .i64 L[i].2.2.1,.int .i64 L[i].2.2.2.1]∧loadRow m' ⟨b,i * 4,none⟩ 1=some [.string ⟨L[i].1.toArray⟩]∧loadRow m' ⟨b,i * 4+1,none⟩ 1=some [.slice po L[i].2.1.length L[i].2.1.length]∧loadRow m' ⟨b,i * 4+2,none⟩ 1=some [.int .i64 L[i].2.2.1]:=by
 obtain⟨css,f,h1,h2,h3⟩:=h.ex
 obtain⟨b,rfl,hr⟩:=h3.rdo (by omega)
 obtain⟨c,hc,hw⟩:=At.elem h1 h2 hi
 obtain⟨po,pf,rfl,hp⟩:=Zfo hc
 refine⟨b,po,pf,rfl,hp,fun m' k=>?_⟩
 have hl:css.flatten.length=L.length * 4:=h3.1.symm
 have hw:Zb css.flatten (i * 4) 4=_:=hw
 have g:=hr.keep k (by simp)
 refine⟨?_,?_,?_,?_⟩
 ·rw [g.load (off:=i * 4) 4 (by rw [hl];omega),hw]
 ·rw [g.load (off:=i * 4) 1 (by rw [hl];omega)]
  exact congrArg some (Zfg hw 0 1 (by omega))
 ·rw [g.load (off:=i * 4+1) 1 (by rw [hl];omega)]
  exact congrArg some (Zfg hw 1 1 (by omega))
 ·rw [g.load (off:=i * 4+2) 1 (by rw [hl];omega)]
  exact congrArg some (Zfg hw 2 1 (by omega))
theorem Tb.meths {to:Option Addr}{L:List Zb0.D}(h:Tb m to L){i:Nat}(hi:i < L.length):∃ b bo,to=some ⟨b,0,none⟩∧Ms m bo L[i].2.2.2.2.1∧
  ∀ m',Zao m m' []→loadRow m' ⟨b,i * 5,none⟩ 1=some [.int .i64 L[i].1]∧loadRow m' ⟨b,i * 5+4,none⟩ 1=some [.slice bo L[i].2.2.2.2.1.length L[i].2.2.2.2.1.length]:=by
 obtain⟨css,f,h1,h2,h3⟩:=h.ex
 obtain⟨b,rfl,hr⟩:=h3.rdo (by omega)
 obtain⟨c,hc,hw⟩:=At.elem h1 h2 hi
 obtain⟨ao,bo,ca,cb,fa,fb,ty⟩:=Zc3 hc
 have hwf:=h.wf _ (List.getElem_mem hi)
 refine⟨b,bo,rfl,⟨⟨cb,fb,ty.ml,ty.me,ty.mr⟩,hwf.2.2.2.2.1.1,hwf.2.2.2.2.1.2⟩,fun m' k=>?_⟩
 have hl:css.flatten.length=L.length * 5:=h3.1.symm
 have hw:Zb css.flatten (i * 5) 5=_:=hw
 rw [ty.c] at hw
 have g:=hr.keep k (by simp)
 refine⟨?_,?_⟩
 ·rw [g.load (off:=i * 5) 1 (by rw [hl];omega)]
  exact congrArg some (Zfg hw 0 1 (by omega))
 ·rw [g.load (off:=i * 5+4) 1 (by rw [hl];omega)]
  exact congrArg some (Zfg hw 4 1 (by omega))
theorem Z3e (hS:S 164=[]){nb:Nat}{nm:List UInt8}{x:Zdz.D}{po:Option Addr}{n1 n2:Nat}{r f:Int}(hld:∀ m',Zao m m' []→loadRow m' ⟨nb,0,none⟩ 1=some [.string ⟨nm.toArray⟩]){s:List UInt8} :
  ∃ v m1,Zbi Tryz.prog TT S 164 [.agg #[.string ⟨s.toArray⟩,.slice po n1 n2,.int .i64 r,.int .i64 f],.pointer (some ⟨nb,0,none⟩)] m=some (v,m1)∧v=.bool (decide (s=nm))∧Zao m m1 []:=by
 refine Zey 4 [] Z70 hS rfl ?_
 obtain⟨o1,k1,n1'⟩:=Za7 (m:=m) (cs:=[.string ⟨s.toArray⟩,.slice po n1 n2,.int .i64 r,.int .i64 f]) (e:=30) rfl
 have l0:=o1.load1 (off:=0) rfl
 have l1:=hld _ k1
 simp [-Int.natCast_add,-BitVec.toNat_or,-BitVec.toNat_ofInt,-BitVec.toNat_and,Zah b30,Za Zbr,Zab ld9,l0,l1]
 exact k1
def Zd4 (nm:List UInt8):List Zdz.D→Nat→Int
 | [],_=>-1
 | x::r,i=>if x.1=nm then i else Zd4 nm r (i+1)
theorem Zxo (nm:List UInt8)(x:Zdz.D)(r:List Zdz.D)(i:Nat):Zd4 nm (x::r) i=if x.1=nm then (i:Int) else Zd4 nm r (i+1):=rfl
theorem Znn (nm:List UInt8):∀ (l:List Zdz.D) (i:Nat),Zd4 nm l i=-1∨∃ (j:Nat) (hj:j < l.length),Zd4 nm l i=((i+j:Nat):Int)
 | [],_=>Or.inl rfl
 | x::r,i=>by
  unfold Zd4
  by_cases h:x.1=nm
  ·rw [if_pos h]
   exact Or.inr ⟨0,by simp,rfl⟩
  ·rw [if_neg h]
   rcases Znn nm r (i+1) with h1 | ⟨j,hj,h1⟩
   ·exact Or.inl h1
   ·exact Or.inr ⟨j+1,by simp;omega,by rw [h1];congr 1;omega⟩
theorem Zsh (hI:S 163=[])(hS:S 164=[]){nb:Nat}{nm:List UInt8}{bo:Option Addr}{ms:List Zdz.D}(h:Ms m bo ms)(hld:∀ m',Zao m m' []→loadRow m' ⟨nb,0,none⟩ 1=some [.string ⟨nm.toArray⟩]) :
  ∃ v m1,Zbi Tryz.prog TT S 163 [.slice bo ms.length ms.length,.func (.func 164) #[] #[.pointer (some ⟨nb,0,none⟩)]] m=some (v,m1)∧v=.int .i64 (Zd4 nm ms 0)∧Zao m m1 []:=by
 refine Zey 9 [9,16] Z8c hI rfl ?_
 simp [-Int.natCast_add,-BitVec.toNat_or,-BitVec.toNat_ofInt,-BitVec.toNat_and,Zac u31,Zaa u31 Zbd,Zae Zc6]
 refine Zbg 9 [9,16] (fun dd E mC=>∃ (i:Nat),ms.length - i=dd∧i≤ms.length∧Zd4 nm ms 0=Zd4 nm (ms.drop i) i∧Zao m mC []∧
  E=[(0,.slice bo ms.length ms.length),(1,.func (.func 164) #[] #[.pointer (some ⟨nb,0,none⟩)]),(7,.int .i64 ms.length),(8,.int .i64 i)]) _ ⟨_,⟨0,rfl,by omega,rfl,Zaj _,rfl⟩,⟨by rfl,by rfl,by rfl,by rfl,trivial⟩⟩ ?_
 rintro dd E mC ih ⟨i,hdi,hi,hf,kC,rfl⟩
 by_cases hlt:i < ms.length
 ·have i1:(i:Int) < ms.length:=by omega
  have hle:=h.le
  have em:(i:Int)≤9223372036854775807:=by omega
  have wi:IntKind.i64.wrap ((i:Int)+1)=((i+1:Nat):Int):=by rw [Zbh (by omega) (by omega)];omega
  obtain⟨mb,po,pf,rfl,hp,hld1⟩:=(h.keep kC).one hlt
  have l4:=(hld1 _ (Zaj _)).1
  rw [List.drop_eq_getElem_cons hlt] at hf
  obtain⟨x,hx⟩:∃ x,ms[i]=x:=⟨_,rfl⟩
  rw [hx] at l4 hf
  obtain⟨_,mD,hs,rfl,kD⟩:=Z3e (m:=mC) hS (x:=x) (po:=po) (n1:=x.2.1.length) (n2:=x.2.1.length) (r:=x.2.2.1) (f:=x.2.2.2.1) (nm:=nm) (s:=x.1) (nb:=nb) (fun m' k=>hld m' (kC.trans k))
  rw [Zxo] at hf
  by_cases he:x.1=nm
  ·rw [decide_eq_true he] at hs
   simp [-Int.natCast_add,-BitVec.toNat_or,-BitVec.toNat_ofInt,-BitVec.toNat_and,Zac u31,Zaa u31 Zbd,Zae Zc6,i1,em,hlt,l4,hs,wi]
   rw [if_pos he] at hf
   exact⟨hf.symm,kC.trans kD⟩
  ·rw [decide_eq_false he] at hs
   simp [-Int.natCast_add,-BitVec.toNat_or,-BitVec.toNat_ofInt,-BitVec.toNat_and,Zac u31,Zaa u31 Zbd,Zae Zc6,i1,em,hlt,l4,hs,wi]
   rw [if_neg he] at hf
   exact ih _ _ _ _ ⟨i+1,rfl,by omega,hf,kC.trans kD,rfl⟩ (by omega) ⟨by rfl,by rfl,by rfl,by simp [Zcm],trivial⟩
 ·have i1:¬ (i:Int) < ms.length:=by omega
  rw [List.drop_eq_nil_of_le (by omega)] at hf
  simp [-Int.natCast_add,-BitVec.toNat_or,-BitVec.toNat_ofInt,-BitVec.toNat_and,Zac u31,Zaa u31 Zbd,Zae Zc6,i1,hf,Zd4]
  exact kC
theorem Zsp (hM:S 145=[])(hO:S 162=[])(hI:S 163=[])(hS:S 164=[]){to:Option Addr}{L:List Zb0.D}(h:Tb m to L){i:Nat}(hi:i < L.length)(nm:List UInt8) :
  ∃ v m1,Zbi Tryz.prog TT S 145 [.slice to L.length L.length,.int .i64 i,.string ⟨nm.toArray⟩] m=some (v,m1)∧((∃ (j:Nat),(L[i].1=5∨L[i].1=7)∧j < L[i].2.2.2.2.1.length∧Zd4 nm L[i].2.2.2.2.1 0=j∧v=.tuple #[.int .i64 j,.bool true])∨((¬ (L[i].1=5∨L[i].1=7)∨Zd4 nm L[i].2.2.2.2.1 0=-1)∧v=.tuple #[.int .i64 0,.bool false]))∧Zao m m1 []:=by
 refine Zey 11 [24] Z7s hM rfl ?_
 obtain⟨o1,k1,n1⟩:=Za7 (m:=m) (cs:=[.string ⟨nm.toArray⟩]) (e:=9) rfl
 obtain⟨nb,hnb⟩:∃ xb,m.next=xb:=⟨_,rfl⟩
 obtain⟨m1,hm1⟩:∃ m1,m.new [.string ⟨nm.toArray⟩] 9=m1:=⟨_,rfl⟩
 rw [hnb] at o1 n1
 rw [hm1] at o1 k1 n1
 obtain⟨_,m2,hc,hcase,k2⟩:=Zz2 hO (h.keep k1) (i:Int)
 rcases hcase with⟨i',c,hii,⟨hi',hA⟩,rfl⟩ | ⟨hno,rfl⟩
 ·obtain rfl:i=i':=by omega
  obtain⟨ao,bo,ca,cb,f,g,ty⟩:=Zc3 hA
  have hwf:=h.wf _ (List.getElem_mem hi)
  have hMs:Ms m1 bo L[i].2.2.2.2.1:=⟨⟨cb,g,ty.ml,ty.me,ty.mr⟩,hwf.2.2.2.2.1.1,hwf.2.2.2.2.1.2⟩
  rw [ty.c] at hc
  obtain⟨x,hx⟩:∃ x,L[i]=x:=⟨_,rfl⟩
  simp only [hx] at hc hMs ⊢
  obtain⟨o3,k3,n3⟩:=Za7 (m:=m2) (cs:=[Value.int .i64 0,.string ⟨#[]⟩,.int .i64 0,.slice none 0 0,.slice none 0 0]) (e:=33) rfl
  obtain⟨xb,hxb⟩:∃ xb,m2.next=xb:=⟨_,rfl⟩
  rw [hxb] at o3 n3
  simp [-Int.natCast_add,-BitVec.toNat_or,-BitVec.toNat_ofInt,-BitVec.toNat_and,Zah b9,Zag Zgb,Zaf Zbn,Za Za3,Zab ld3,Za Zaq,Zab Zb1,hnb,hm1,hc,hxb]
  generalize hra:Za8 _ _ _=ra
  obtain⟨m4,rfl,o4,k4⟩:=Za4 hra o3 (by simp) (by simp [Zbk,Zco,Zbp])
  simp [Zdh] at o4
  have l0:=o4.load1 (off:=0) rfl
  have l4:=o4.load1 (off:=4) rfl
  have k14:Zao m1 m4 []:=(k2.trans k3).fresh k4 (by have:=k2.1;simp;omega)
  by_cases h57:x.1=5∨x.1=7
  case neg =>
   have g5:¬ x.1=5:=fun e=>h57 (Or.inl e)
   have g7:¬ x.1=7:=fun e=>h57 (Or.inr e)
   simp [-Int.natCast_add,-BitVec.toNat_or,-BitVec.toNat_ofInt,-BitVec.toNat_and,Zah b9,Zag Zgb,Zaf Zbn,Za Za3,Zab ld3,Za Zaq,Zab Zb1,l0,l4,g5,g7]
   exact k1.trans k14
  rcases Znn nm x.2.2.2.2.1 0 with he | ⟨j,hj,he⟩
  ·obtain⟨_,m5,hf,rfl,k5⟩:=Zsh (m:=m4) hI hS (nb:=nb) (nm:=nm) (hMs.keep k14) (fun m' k=>(o1.keep (k14.trans k) (by simp)).load1 (off:=0) rfl)
   have K5:Zao m m5 []:=(k1.trans k14).trans k5
   rw [he] at hf ⊢
   rcases h57 with h5 | h5 <;> (rw [h5] at l0 ⊢;simp [-Int.natCast_add,-BitVec.toNat_or,-BitVec.toNat_ofInt,-BitVec.toNat_and,Zah b9,Zag Zgb,Zaf Zbn,Za Za3,Zab ld3,Za Zaq,Zab Zb1,l0,l4,hf,h5];exact K5)
  ·obtain⟨_,m5,hf,rfl,k5⟩:=Zsh (m:=m4) hI hS (nb:=nb) (nm:=nm) (hMs.keep k14) (fun m' k=>(o1.keep (k14.trans k) (by simp)).load1 (off:=0) rfl)
   have K5:Zao m m5 []:=(k1.trans k14).trans k5
   rw [Nat.zero_add] at he
   rw [he] at hf ⊢
   have j0:¬ (j:Int) < 0:=by omega
   have j1:(0:Int)≤j:=by omega
   rcases h57 with h5 | h5 <;> (rw [h5] at l0 ⊢;simp [-Int.natCast_add,-BitVec.toNat_or,-BitVec.toNat_ofInt,-BitVec.toNat_and,Zah b9,Zag Zgb,Zaf Zbn,Za Za3,Zab ld3,Za Zaq,Zab Zb1,l0,l4,hf,j0,j1,h5];exact⟨⟨j,hj,rfl⟩,K5⟩)
 ·exact absurd ⟨by omega,by omega⟩ hno
def okM (A:List Zdz.D)(x:Zdz.D):Bool:=match A[(Zd4 x.1 A 0).toNat]? with
 | some y=>decide (0≤Zd4 x.1 A 0) && decide (y.2.2.1=x.2.2.1) && decide ((show List Int from y.2.1)=x.2.1)
 | none=>false
theorem Z0f {A:List Zdz.D}{x:Zdz.D}(h:Zd4 x.1 A 0=-1):okM A x=false:=by
 unfold okM
 rw [h]
 cases A[((-1:Int)).toNat]? <;> simp
theorem Zz7 {A:List Zdz.D}{x:Zdz.D}{j:Nat}(hj:j < A.length)(h:Zd4 x.1 A 0=j):okM A x=(decide (A[j].2.2.1=x.2.2.1) && decide ((show List Int from A[j].2.1)=x.2.1)):=by
 unfold okM
 rw [h,Int.toNat_natCast,List.getElem?_eq_getElem hj]
 simp
theorem Zf1 {L:List Zb0.D}{i:Nat}(hi:i < L.length):Zdy L (i:Int)=L[i].1:=by
 unfold Zdy
 rw [dif_pos ⟨by omega,by omega⟩]
 rfl
theorem Zln {α:Type}{l:List α}{p:α→Bool}{i:Nat}(hi:i < l.length)(h:(l.take i).all p=true)(hp:p l[i]=true):(l.take (i+1)).all p=true:=by
 rw [List.take_succ_eq_append_getElem hi,List.all_append,h]
 simp [hp]
theorem Zla {α:Type}{l:List α}{p:α→Bool}{i:Nat}(hi:i < l.length)(hp:p l[i]=false):l.all p=false:=by
 rw [List.all_eq_false]
 exact⟨l[i],List.getElem_mem hi,by simp [hp]⟩
structure Nh (S:Zed):Prop where
 has:S 144=[]
 kind:S 142=[]
 meth:S 145=[]
 of:S 162=[]
 idx:S 163=[]
 is:S 164=[]
 eqI:S 39=[]
theorem Zxt (hN:Nh S){to:Option Addr}{L:List Zb0.D}(h:Tb m to L){a b:Nat}(ha:a < L.length)(hb:b < L.length) :
  ∃ v m1,Zbi Tryz.prog TT S 144 [.slice to L.length L.length,.int .i64 a,.int .i64 b] m=some (v,m1)∧v=.bool (decide (L[a].1=5) && decide (L[b].1=7) && L[b].2.2.2.2.1.all (okM L[a].2.2.2.2.1))∧Zao m m1 []:=by
 refine Zey 29 [29,41,62] Z7p hN.has rfl ?_
 obtain⟨_,m1,h1,rfl,k1⟩:=Zjz hN.kind hN.of h (a:Int)
 obtain⟨_,m2,h2,rfl,k2⟩:=Zjz hN.kind hN.of (h.keep k1) (b:Int)
 rw [Zf1 ha] at h1
 rw [Zf1 hb] at h2
 obtain⟨x,hx⟩:∃ x,L[a]=x:=⟨_,rfl⟩
 obtain⟨y,hy⟩:∃ x,L[b]=x:=⟨_,rfl⟩
 simp only [hx,hy] at h1 h2 ⊢
 by_cases e1:x.1=5
 case neg =>
  simp [-Int.natCast_add,-BitVec.toNat_or,-BitVec.toNat_ofInt,-BitVec.toNat_and,Zaa u24 Zbn,Za Zaq,Zab Zb1,Zac u31,Zaa u31 Zbd,Zae Zc6,Zag Zcw,Zaf Zbd,Za Zbr,Zab ld9,Za Zap,Zab ld3,Za Zar,Zab Zbe,h1,e1]
  exact k1
 rw [e1] at h1
 by_cases e2:y.1=7
 case neg =>
  simp [-Int.natCast_add,-BitVec.toNat_or,-BitVec.toNat_ofInt,-BitVec.toNat_and,Zaa u24 Zbn,Za Zaq,Zab Zb1,Zac u31,Zaa u31 Zbd,Zae Zc6,Zag Zcw,Zaf Zbd,Za Zbr,Zab ld9,Za Zap,Zab ld3,Za Zar,Zab Zbe,h1,h2,e1,e2]
  exact k1.trans k2
 rw [e2] at h2
 have hT:=h.keep (k1.trans k2)
 obtain⟨tb,bo,rfl,hMb,ldb⟩:=hT.meths hb
 obtain⟨_,ao,het,hMa,lda⟩:=hT.meths ha
 cases het
 rw [hx] at hMa lda
 rw [hy] at hMb ldb
 have lb:=(ldb _ (Zaj _)).2
 have hLl:=h.le
 have em:(b:Int)≤9223372036854775807:=by omega
 have ema:(a:Int)≤9223372036854775807:=by omega
 simp [-Int.natCast_add,-BitVec.toNat_or,-BitVec.toNat_ofInt,-BitVec.toNat_and,Zaa u24 Zbn,Za Zaq,Zab Zb1,Zac u31,Zaa u31 Zbd,Zae Zc6,Zag Zcw,Zaf Zbd,Za Zbr,Zab ld9,Za Zap,Zab ld3,Za Zar,Zab Zbe,h1,h2,e1,e2,em,hb,lb]
 obtain⟨A,hA⟩:∃ A,x.2.2.2.2.1=A:=⟨_,rfl⟩
 obtain⟨B,hB⟩:∃ A,y.2.2.2.2.1=A:=⟨_,rfl⟩
 simp only [hA,hB] at hMa hMb lda lb ldb ⊢
 refine Zbg 29 [29,41,62] (fun dd E mC=>∃ (i:Nat),B.length - i=dd∧i≤B.length∧(B.take i).all (okM A)=true∧Zao m2 mC []∧
  E=[(0,.slice (some ⟨tb,0,none⟩) L.length L.length),(1,.int .i64 a),(2,.int .i64 b),(26,.slice bo B.length B.length),(27,.int .i64 B.length),(28,.int .i64 i)]) _ ⟨_,⟨0,rfl,by omega,rfl,Zaj _,rfl⟩,⟨by rfl,by rfl,by rfl,by rfl,by rfl,by rfl,trivial⟩⟩ ?_
 rintro dd E mC ih ⟨i,hdi,hi,hall,kC,rfl⟩
 by_cases hlt:i < B.length
 ·have i1:(i:Int) < B.length:=by omega
  have hle:=hMb.le
  have emi:(i:Int)≤9223372036854775807:=by omega
  have wi:IntKind.i64.wrap ((i:Int)+1)=((i+1:Nat):Int):=by rw [Zbh (by omega) (by omega)];omega
  obtain⟨mb,po,pf,rfl,hp,hld1⟩:=(hMb.keep kC).one hlt
  have l4:=(hld1 _ (Zaj _)).1
  obtain⟨z,hz⟩:∃ x,B[i]=x:=⟨_,rfl⟩
  rw [hz] at l4 hp
  obtain⟨o1,j1,n1⟩:=Za7 (m:=mC) (cs:=[.string ⟨#[]⟩,.slice none 0 0,.int .i64 0,.int .i64 0]) (e:=30) rfl
  obtain⟨zb,hzb⟩:∃ xb,mC.next=xb:=⟨_,rfl⟩
  rw [hzb] at o1 n1
  obtain⟨mD,hmD⟩:∃ mD,mC.new [.string ⟨#[]⟩,.slice none 0 0,.int .i64 0,.int .i64 0] 30=mD:=⟨_,rfl⟩
  rw [hmD] at o1 j1 n1
  simp [-Int.natCast_add,-BitVec.toNat_or,-BitVec.toNat_ofInt,-BitVec.toNat_and,Zaa u24 Zbn,Za Zaq,Zab Zb1,Zac u31,Zaa u31 Zbd,Zae Zc6,Zag Zcw,Zaf Zbd,Za Zbr,Zab ld9,Za Zap,Zab ld3,Za Zar,Zab Zbe,i1,emi,hlt,l4,hzb,hmD]
  generalize hra:Za8 _ _ _=ra
  obtain⟨mE,rfl,o2,j2⟩:=Za4 hra o1 (by simp) (by simp [Zbk,Zco,Zbp])
  simp [Zdh] at o2
  have kE:Zao mC mE []:=j1.fresh j2 (by simp;omega)
  have l0:=o2.load1 (off:=0) rfl
  have hxk:L[a].1=5:=by rw [hx];exact e1
  obtain⟨v,mF,hmt,hcase,kF⟩:=Zsp hN.meth hN.of hN.idx hN.is (hT.keep (kC.trans kE)) ha z.1
  rw [hx,hA] at hcase
  have KF:=(kC.trans kE).trans kF
  rcases hcase with⟨j,_,hj,hfj,rfl⟩ | ⟨hfn,rfl⟩
  case inr =>
   have hfn:Zd4 z.1 A 0=-1:=hfn.resolve_left (fun h=>h (Or.inl e1))
   have hno:B.all (okM A)=false:=Zla hlt (by rw [hz];exact Z0f hfn)
   simp [-Int.natCast_add,-BitVec.toNat_or,-BitVec.toNat_ofInt,-BitVec.toNat_and,Zaa u24 Zbn,Za Zaq,Zab Zb1,Zac u31,Zaa u31 Zbd,Zae Zc6,Zag Zcw,Zaf Zbd,Za Zbr,Zab ld9,Za Zap,Zab ld3,Za Zar,Zab Zbe,l0,hmt,hno]
   exact (k1.trans k2).trans KF
  have l1F:=(o2.keep kF (by simp)).load1 (off:=1) rfl
  have l2F:=(o2.keep kF (by simp)).load1 (off:=2) rfl
  have la:=(lda _ KF).2
  have emj:(j:Int)≤9223372036854775807:=by have:=hMa.le;omega
  obtain⟨ma,qo,qf,rfl,hq,hld2⟩:=(hMa.keep KF).one hj
  have q4:=(hld2 _ (Zaj _)).1
  have hok:=Zz7 hj hfj
  obtain⟨u,hu⟩:∃ x,A[j]=x:=⟨_,rfl⟩
  rw [hu] at q4 hq hok
  obtain⟨p1,i2,n2⟩:=Za7 (m:=mF) (cs:=[.string ⟨#[]⟩,.slice none 0 0,.int .i64 0,.int .i64 0]) (e:=30) rfl
  obtain⟨ub,hub⟩:∃ xb,mF.next=xb:=⟨_,rfl⟩
  rw [hub] at p1 n2
  obtain⟨mG,hmG⟩:∃ mD,mF.new [.string ⟨#[]⟩,.slice none 0 0,.int .i64 0,.int .i64 0] 30=mD:=⟨_,rfl⟩
  rw [hmG] at p1 i2 n2
  simp [-Int.natCast_add,-BitVec.toNat_or,-BitVec.toNat_ofInt,-BitVec.toNat_and,Zaa u24 Zbn,Za Zaq,Zab Zb1,Zac u31,Zaa u31 Zbd,Zae Zc6,Zag Zcw,Zaf Zbd,Za Zbr,Zab ld9,Za Zap,Zab ld3,Za Zar,Zab Zbe,l0,hmt,ema,ha,la,emj,hj,q4,hub,hmG]
  generalize hrb:Za8 _ _ _=rb
  obtain⟨mH,rfl,p2,i3⟩:=Za4 hrb p1 (by simp) (by simp [Zbk,Zco,Zbp])
  simp [Zdh] at p2
  have kH:Zao mF mH []:=i2.fresh i3 (by simp;omega)
  have g2:=p2.load1 (off:=2) rfl
  have g1:=p2.load1 (off:=1) rfl
  have f2:=((o2.keep kF (by simp)).keep kH (by simp)).load1 (off:=2) rfl
  have f1:=((o2.keep kF (by simp)).keep kH (by simp)).load1 (off:=1) rfl
  have KH:=KF.trans kH
  by_cases er:u.2.2.1=z.2.2.1
  case neg =>
   have hno:B.all (okM A)=false:=Zla hlt (by rw [hz,hok];simp [er])
   simp [-Int.natCast_add,-BitVec.toNat_or,-BitVec.toNat_ofInt,-BitVec.toNat_and,Zaa u24 Zbn,Za Zaq,Zab Zb1,Zac u31,Zaa u31 Zbd,Zae Zc6,Zag Zcw,Zaf Zbd,Za Zbr,Zab ld9,Za Zap,Zab ld3,Za Zar,Zab Zbe,g1,g2,f1,f2,er,hno]
   exact (k1.trans k2).trans KH
  have hwu:=(hMa.wf _ (List.getElem_mem hj)).2.1.1
  rw [hu] at hwu
  obtain⟨_,_,he,rfl,rfl⟩:=Zoz (m:=mH) hN.eqI (hq.keep kH (by simp)) hwu ((hp.keep (kE.trans (kF.trans kH)) (by simp)))
  by_cases ep:(show List Int from u.2.1)=z.2.1
  case neg =>
   have hno:B.all (okM A)=false:=Zla hlt (by rw [hz,hok];simp [ep])
   rw [decide_eq_false ep] at he
   simp [-Int.natCast_add,-BitVec.toNat_or,-BitVec.toNat_ofInt,-BitVec.toNat_and,Zaa u24 Zbn,Za Zaq,Zab Zb1,Zac u31,Zaa u31 Zbd,Zae Zc6,Zag Zcw,Zaf Zbd,Za Zbr,Zab ld9,Za Zap,Zab ld3,Za Zar,Zab Zbe,g1,g2,f1,f2,er,he,hno]
   exact (k1.trans k2).trans KH
  have hyes:okM A B[i]=true:=by rw [hz,hok];simp [er,ep]
  rw [decide_eq_true ep] at he
  simp [-Int.natCast_add,-BitVec.toNat_or,-BitVec.toNat_ofInt,-BitVec.toNat_and,Zaa u24 Zbn,Za Zaq,Zab Zb1,Zac u31,Zaa u31 Zbd,Zae Zc6,Zag Zcw,Zaf Zbd,Za Zbr,Zab ld9,Za Zap,Zab ld3,Za Zar,Zab Zbe,g1,g2,f1,f2,er,he,wi]
  exact ih _ _ _ _ ⟨i+1,rfl,by omega,Zln hlt hall hyes,KH,rfl⟩ (by omega) ⟨by rfl,by rfl,by rfl,by rfl,by rfl,by simp [Zcm],trivial⟩
 ·have i1:¬ (i:Int) < B.length:=by omega
  rw [List.take_of_length_le (by omega)] at hall
  simp [-Int.natCast_add,-BitVec.toNat_or,-BitVec.toNat_ofInt,-BitVec.toNat_and,Zaa u24 Zbn,Za Zaq,Zab Zb1,Zac u31,Zaa u31 Zbd,Zae Zc6,Zag Zcw,Zaf Zbd,Za Zbr,Zab ld9,Za Zap,Zab ld3,Za Zar,Zab Zbe,i1,hall]
  exact (k1.trans k2).trans kC
def Zn6 (L:List Zb0.D)(a b:Nat)(x y:Zb0.D):Bool:=
 if a=b then decide (x.1≠0∧x.1≠4) else if x.1=4 then decide (y.1=5∨y.1=6∨y.1=7) else decide (x.1=5) && decide (y.1=7) && y.2.2.2.2.1.all (okM x.2.2.2.2.1)
theorem Zzx (hN:Nh S)(hF:S 143=[]){to:Option Addr}{L:List Zb0.D}(h:Tb m to L){a b:Nat}(ha:a < L.length)(hb:b < L.length)(pa:(0:Int)≤L[a].1)(pb:(0:Int)≤L[b].1) :
  ∃ v m1,Zbi Tryz.prog TT S 143 [.slice to L.length L.length,.int .i64 a,.int .i64 b] m=some (v,m1)∧v=.bool (Zn6 L a b L[a] L[b])∧Zao m m1 []:=by
 refine Zey 9 [15,22,32] Z7k hF rfl ?_
 obtain⟨_,m1,h1,rfl,k1⟩:=Zjz hN.kind hN.of h (a:Int)
 obtain⟨_,m2,h2,rfl,k2⟩:=Zjz hN.kind hN.of (h.keep k1) (b:Int)
 obtain⟨_,m3,h3,rfl,k3⟩:=Zxt hN (h.keep (k1.trans k2)) ha hb
 rw [Zf1 ha] at h1
 rw [Zf1 hb] at h2
 obtain⟨x,hx⟩:∃ x,L[a]=x:=⟨_,rfl⟩
 obtain⟨y,hy⟩:∃ x,L[b]=x:=⟨_,rfl⟩
 simp only [hx,hy] at h1 h2 h3 pa pb ⊢
 have q1:¬ @LT.lt Int _ x.1 0:=Int.not_lt.2 pa
 have q2:¬ @LT.lt Int _ y.1 0:=Int.not_lt.2 pb
 by_cases e1:a=b
 ·subst e1
  by_cases e2:x.1=0 <;> by_cases e3:x.1=4 <;> simp [-Int.natCast_add,-BitVec.toNat_or,-BitVec.toNat_ofInt,-BitVec.toNat_and,id,h1,h2,q1,q2,e2,e3,Zn6] <;> exact k1.trans k2
 ·have e1':¬ (a:Int)=b:=by omega
  by_cases e2:x.1=4
  ·rw [e2] at h1
   by_cases e3:y.1=5
   ·simp [-Int.natCast_add,-BitVec.toNat_or,-BitVec.toNat_ofInt,-BitVec.toNat_and,id,h1,h2,q2,e1,e1',e2,e3,Zn6]
    exact k1.trans k2
   ·by_cases e4:y.1=6
    ·simp [-Int.natCast_add,-BitVec.toNat_or,-BitVec.toNat_ofInt,-BitVec.toNat_and,id,h1,h2,q2,e1,e1',e2,e3,e4,Zn6]
     exact k1.trans k2
    ·by_cases e5:y.1=7 <;> simp [-Int.natCast_add,-BitVec.toNat_or,-BitVec.toNat_ofInt,-BitVec.toNat_and,id,h1,h2,q2,e1,e1',e2,e3,e4,e5,Zn6] <;> exact k1.trans k2
  ·simp [-Int.natCast_add,-BitVec.toNat_or,-BitVec.toNat_ofInt,-BitVec.toNat_and,id,h1,h2,h3,q1,q2,e1,e1',e2,Zn6]
   exact (k1.trans k2).trans k3
end Go.Proofs.YtbldiceiindbdaaGreatDoor.base
