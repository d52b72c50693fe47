/- This text proves what the document's small functions of types answer: has, Value, IsRef, Method, Has, Fits. Condition: nothing is known of the calls ahead ('S f = []'). -/
import Derived.Test.YtbldiceiindbdaaGreatDoorVkF
set_option linter.unusedVariables false
set_option linter.unusedSimpArgs false
set_option maxRecDepth 100000
namespace Go.Proofs.YtbldiceiindbdaaGreatDoor.base
open Go.Sh gen
variable {S:Zed}{m:Mem}
theorem Z0g {fs:List Ze8.D}:∀ {ca:List (List Value)},ca.length=fs.length→(∀ (i:Nat) (d:Ze8.D) c,fs[i]?=some d→ca[i]?=some c→At m Ze8 d c)→ca.flatten=fs.flatMap Zkm:=by
 induction fs with
 | nil=>intro ca h _;cases ca <;> simp at h ⊢
 | cons x fs ih =>
  intro ca h hA
  cases ca with
  | nil=>simp at h
  | cons c ca =>
   have h0:=Zfp (hA 0 x c rfl rfl)
   have h1:=ih (ca:=ca) (by simpa using h) (fun i d c hd hc=>hA (i+1) d c hd hc)
   rw [List.flatten_cons,List.flatMap_cons,h1,h0]
   rfl
theorem Zw7 {fs:List Ze8.D}{i:Nat}(h:i < fs.length):Zb (fs.flatMap Zkm) (i * 2) 2=Zkm fs[i]:=by
 induction fs generalizing i with
 | nil=>simp at h
 | cons a l ih =>
  cases i with
  | zero=>simp [Zb,Zkm]
  | succ i =>
   have:=ih (i:=i) (by simpa using h)
   simp only [Zb,List.flatMap_cons] at this ⊢
   rw [show (i+1) * 2=i * 2+2 by omega]
   simpa [Zkm] using this
theorem Zwb (fs:List Ze8.D):(fs.flatMap Zkm).length=fs.length * 2:=by
 induction fs with
 | nil=>rfl
 | cons a l ih=>simp only [List.flatMap_cons,List.length_append,List.length_cons,ih,Zkm,List.length_nil];omega
theorem Zik {ao:Option Addr}{fs:List Ze8.D}{f:Nat}(h:Rs m ao fs.length (fs.flatMap Zkm) 27 2 f){i:Nat}(hi:i < fs.length):∃ b,ao=some ⟨b,0,none⟩∧∀ m',Zao m m' []→
  loadRow m' ⟨b,i * 2,none⟩ 1=some [.string ⟨fs[i].1.toArray⟩]∧loadRow m' ⟨b,i * 2+1,none⟩ 1=some [.int .i64 fs[i].2.1]:=by
 obtain⟨b,rfl,hr⟩:=h.rdo (by omega)
 refine⟨b,rfl,fun m' k=>?_⟩
 have hl:=Zwb fs
 have hw:=Zw7 hi
 have g:=hr.keep k (by simp)
 refine⟨?_,?_⟩
 ·rw [g.load (off:=i * 2) 1 (by rw [hl];omega)]
  exact congrArg some (Zfg hw 0 1 (by omega))
 ·rw [g.load (off:=i * 2+1) 1 (by rw [hl];omega)]
  exact congrArg some (Zfg hw 1 1 (by omega))
structure TyL (m:Mem)(b i:Nat)(x:Zb0.D)(ao:Option Addr)(f:Nat)(bo:Option Addr):Prop where
 fs:Rs m ao (tF x).length ((tF x).flatMap Zkm) 27 2 f
 ms:Ms m bo (tM x)
 fle:(tF x).length≤9223372036854775807
 l:∀ m',Zao m m' []→loadRow m' ⟨b,i * 5,none⟩ 5=some [.int .i64 x.1,.string ⟨x.2.1.toArray⟩,.int .i64 x.2.2.1,.slice ao (tF x).length (tF x).length,.slice bo (tM x).length (tM x).length]
 l0:∀ m',Zao m m' []→loadRow m' ⟨b,i * 5,none⟩ 1=some [.int .i64 x.1]
 l2:∀ m',Zao m m' []→loadRow m' ⟨b,i * 5+2,none⟩ 1=some [.int .i64 x.2.2.1]
 l3:∀ m',Zao m m' []→loadRow m' ⟨b,i * 5+3,none⟩ 1=some [.slice ao (tF x).length (tF x).length]
 l4:∀ m',Zao m m' []→loadRow m' ⟨b,i * 5+4,none⟩ 1=some [.slice bo (tM x).length (tM x).length]
theorem Tb.ty {to:Option Addr}{L:List Zb0.D}(h:Tb m to L){i:Nat}(hi:i < L.length):∃ b ao f bo,to=some ⟨b,0,none⟩∧TyL m b i L[i] ao f bo:=by
 obtain⟨css,f,h1,h2,h3⟩:=h.ex
 obtain⟨b,rfl,hr⟩:=h3.rdo (by omega)
 obtain⟨c,hc,hw⟩:=At.elem h1 h2 hi
 obtain⟨ao,bo,ca,cb,fa,fb,ty⟩:=Zc3 hc
 have hwf:=h.wf _ (List.getElem_mem hi)
 have hl:css.flatten.length=L.length * 5:=h3.1.symm
 have hw:Zb css.flatten (i * 5) 5=_:=hw
 rw [ty.c] at hw
 have hfr:=ty.fr
 rw [Z0g ty.fl ty.fe] at hfr
 refine⟨b,ao,fa,bo,rfl,hfr,⟨⟨cb,fb,ty.ml,ty.me,ty.mr⟩,hwf.2.2.2.2.1.1,hwf.2.2.2.2.1.2⟩,hwf.2.2.2.1.1,fun m' k=>?_,fun m' k=>?_,fun m' k=>?_,fun m' k=>?_,fun m' k=>?_⟩
 ·rw [(hr.keep k (by simp)).load (off:=i * 5) 5 (by rw [hl];omega)];exact congrArg some hw
 ·rw [(hr.keep k (by simp)).load (off:=i * 5) 1 (by rw [hl];omega)];exact congrArg some (Zfg hw 0 1 (by omega))
 ·rw [(hr.keep k (by simp)).load (off:=i * 5+2) 1 (by rw [hl];omega)];exact congrArg some (Zfg hw 2 1 (by omega))
 ·rw [(hr.keep k (by simp)).load (off:=i * 5+3) 1 (by rw [hl];omega)];exact congrArg some (Zfg hw 3 1 (by omega))
 ·rw [(hr.keep k (by simp)).load (off:=i * 5+4) 1 (by rw [hl];omega)];exact congrArg some (Zfg hw 4 1 (by omega))
theorem Zku (hS:S 88=[]){to:Option Addr}{n:Nat}(t:Int):Zbi Tryz.prog TT S 88 [.slice to n n,.int .i64 t] m=some (.bool (decide (0≤t∧t < n)),m):=by
 refine Zgh 5 [] k88 hS rfl ?_
 by_cases h1:0≤t
 ·simp [-Int.natCast_add,-BitVec.toNat_or,-BitVec.toNat_ofInt,-BitVec.toNat_and,Zac u24,h1]
 ·simp [-Int.natCast_add,-BitVec.toNat_or,-BitVec.toNat_ofInt,-BitVec.toNat_and,Zac u24,h1]
theorem Znu (hS:S 87=[]){to:Option Addr}{n:Nat}(hn:5≤n)(t:Int):Zbi Tryz.prog TT S 87 [.slice to n n,.int .i64 t] m=some (.bool (decide (Zgc n t)),m):=by
 refine Zgh 5 [] k87 hS rfl ?_
 by_cases h1:1≤t
 ·by_cases h3:t≤3
  ·have e:decide (Zgc n t)=true:=decide_eq_true ⟨h1,by omega,by omega⟩
   simp [-Int.natCast_add,-BitVec.toNat_or,-BitVec.toNat_ofInt,-BitVec.toNat_and,Zac u24,h1,h3,e]
  ·by_cases h5:5≤t
   ·have e:decide (Zgc n t)=decide (t < (n:Int)):=by congr 1;exact propext ⟨fun h=>h.2.1,fun h=>⟨h1,h,by omega⟩⟩
    simp [-Int.natCast_add,-BitVec.toNat_or,-BitVec.toNat_ofInt,-BitVec.toNat_and,Zac u24,h1,h3,h5,e]
   ·have e:decide (Zgc n t)=false:=decide_eq_false (fun h=>by have:=h.2.2;omega)
    simp [-Int.natCast_add,-BitVec.toNat_or,-BitVec.toNat_ofInt,-BitVec.toNat_and,Zac u24,h1,h3,h5,e]
 ·have h5:¬ 5≤t:=by omega
  have e:decide (Zgc n t)=false:=decide_eq_false (fun h=>h1 h.1)
  simp [-Int.natCast_add,-BitVec.toNat_or,-BitVec.toNat_ofInt,-BitVec.toNat_and,Zac u24,h1,h5,e]
def Zun (L:List Zb0.D)(t:Int):Bool:=decide (Zdy L t=3∨Zdy L t=5∨Zdy L t=6∨Zdy L t=7)
theorem Zv3 (hS:S 113=[])(hK:S 142=[])(hO:S 162=[]){to:Option Addr}{L:List Zb0.D}(h:Tb m to L)(t:Int) :
  ∃ v m1,Zbi Tryz.prog TT S 113 [.slice to L.length L.length,.int .i64 t] m=some (v,m1)∧v=.bool (Zun L t)∧Zao m m1 []:=by
 refine Zey 8 [8,8,8,8] Z8s hS rfl ?_
 obtain⟨_,m1,h1,rfl,k1⟩:=Zjz hK hO h t
 unfold Zun
 obtain⟨q,hq⟩:∃ q,Zdy L t=q:=⟨_,rfl⟩
 rw [hq] at h1 ⊢
 by_cases e3:q=3
 ·subst e3;simp [-Int.natCast_add,-BitVec.toNat_or,-BitVec.toNat_ofInt,-BitVec.toNat_and,id,h1];exact k1
 by_cases e5:q=5
 ·subst e5;simp [-Int.natCast_add,-BitVec.toNat_or,-BitVec.toNat_ofInt,-BitVec.toNat_and,id,h1];exact k1
 by_cases e6:q=6
 ·subst e6;simp [-Int.natCast_add,-BitVec.toNat_or,-BitVec.toNat_ofInt,-BitVec.toNat_and,id,h1];exact k1
 by_cases e7:q=7
 ·subst e7;simp [-Int.natCast_add,-BitVec.toNat_or,-BitVec.toNat_ofInt,-BitVec.toNat_and,id,h1];exact k1
 simp [-Int.natCast_add,-BitVec.toNat_or,-BitVec.toNat_ofInt,-BitVec.toNat_and,id,h1,e3,e5,e6,e7];exact k1
theorem Zil {L:List Zb0.D}{t:Int}(h:¬ (0≤t∧t < L.length)):Zdy L t=-1:=by unfold Zdy;rw [dif_neg h]
theorem Zue (hS:S 51=[])(hH:S 88=[]){to:Option Addr}{L:List Zb0.D}(h:Tb m to L)(t:Int) :
  Zbi Tryz.prog TT S 51 [.slice to L.length L.length,.int .i64 t] m=some (.bool (Zun L t),m):=by
 have h1:=fun m'=>Zku (m:=m') hH (to:=to) (n:=L.length) t
 refine Zgh 5 [] k51 hS rfl ?_
 by_cases hin:0≤t∧t < L.length
 ·rw [decide_eq_true hin] at h1
  obtain⟨i,rfl⟩:∃ i:Nat,t=i:=⟨t.toNat,by omega⟩
  have hi:i < L.length:=by omega
  obtain⟨b,ao,f,bo,rfl,ty⟩:=h.ty hi
  have ld:=ty.l0 _ (Zaj _)
  have hLl:=h.le
  have em:(i:Int)≤9223372036854775807:=by omega
  unfold Zun
  rw [Zf1 hi]
  obtain⟨x,hx⟩:∃ x,L[i].1=x:=⟨_,rfl⟩
  rw [hx] at ld ⊢
  by_cases e5:x=5
  ·subst e5;simp [-Int.natCast_add,-BitVec.toNat_or,-BitVec.toNat_ofInt,-BitVec.toNat_and,Zaa u24 Zbn,Za Za3,Zab ld3,h1,em,hi,ld]
  by_cases e6:x=6
  ·subst e6;simp [-Int.natCast_add,-BitVec.toNat_or,-BitVec.toNat_ofInt,-BitVec.toNat_and,Zaa u24 Zbn,Za Za3,Zab ld3,h1,em,hi,ld]
  by_cases e7:x=7
  ·subst e7;simp [-Int.natCast_add,-BitVec.toNat_or,-BitVec.toNat_ofInt,-BitVec.toNat_and,Zaa u24 Zbn,Za Za3,Zab ld3,h1,em,hi,ld]
  simp [-Int.natCast_add,-BitVec.toNat_or,-BitVec.toNat_ofInt,-BitVec.toNat_and,Zaa u24 Zbn,Za Za3,Zab ld3,h1,em,hi,ld,e5,e6,e7]
 ·rw [decide_eq_false hin] at h1
  have e:Zun L t=false:=by unfold Zun;rw [Zil hin];decide
  simp [-Int.natCast_add,-BitVec.toNat_or,-BitVec.toNat_ofInt,-BitVec.toNat_and,Zaa u24 Zbn,Za Za3,Zab ld3,h1,e]
theorem Zpp (hM:S 83=[])(hH:S 88=[]){to:Option Addr}{L:List Zb0.D}(h:Tb m to L){i:Nat}(hi:i < L.length)(nm:List UInt8) :
  ∃ v m1,Zbi Tryz.prog TT S 83 [.slice to L.length L.length,.int .i64 i,.string ⟨nm.toArray⟩] m=some (v,m1)∧((∃ (j:Nat),(L[i].1=5∨L[i].1=7)∧j < L[i].2.2.2.2.1.length∧Zd4 nm L[i].2.2.2.2.1 0=j∧v=.tuple #[.int .i64 j,.bool true])∨((¬ (L[i].1=5∨L[i].1=7)∨Zd4 nm L[i].2.2.2.2.1 0=-1)∧v=.tuple #[.int .i64 0,.bool false]))∧m1=m:=by
 have h1:=fun m'=>Zku (m:=m') hH (to:=to) (n:=L.length) (i:Int)
 rw [decide_eq_true ⟨by omega,by omega⟩] at h1
 refine Zey 9 [28,36,49] k83 hM rfl ?_
 obtain⟨b,ao,f,bo,rfl,ty⟩:=h.ty hi
 have ld:=ty.l0 _ (Zaj _)
 have ld4:=ty.l4 _ (Zaj _)
 have hms:=ty.ms
 have hLl:=h.le
 have em:(i:Int)≤9223372036854775807:=by omega
 obtain⟨x,hx⟩:∃ x,L[i]=x:=⟨_,rfl⟩
 rw [hx] at ld ld4 hms ⊢
 by_cases h57:x.1=5∨x.1=7
 case neg =>
  have g5:¬ x.1=5:=fun e=>h57 (Or.inl e)
  have g7:¬ x.1=7:=fun e=>h57 (Or.inr e)
  simp [-Int.natCast_add,-BitVec.toNat_or,-BitVec.toNat_ofInt,-BitVec.toNat_and,Zaa u24 Zbn,Za Za3,Zab ld3,Za Zaq,Zab Zb1,Zac u31,Zaa u31 Zbd,Za Zbr,Zab ld9,h1,em,hi,ld,g5,g7]
 apply Z2
 case main =>
  rcases h57 with h5 | h5
  ·rw [h5] at ld
   intro meth
   simp [-Int.natCast_add,-BitVec.toNat_or,-BitVec.toNat_ofInt,-BitVec.toNat_and,Zaa u24 Zbn,Za Za3,Zab ld3,Za Zaq,Zab Zb1,Zac u31,Zaa u31 Zbd,Za Zbr,Zab ld9,h1,em,hi,ld]
   exact Zei (E:=[(0,.slice (some ⟨b,0,none⟩) L.length L.length),(1,.int .i64 i),(2,.string ⟨nm.toArray⟩),(8,.int .i64 0)]) meth ⟨by rfl,by rfl,by rfl,by rfl,trivial⟩
  ·rw [h5] at ld
   intro meth
   simp [-Int.natCast_add,-BitVec.toNat_or,-BitVec.toNat_ofInt,-BitVec.toNat_and,Zaa u24 Zbn,Za Za3,Zab ld3,Za Zaq,Zab Zb1,Zac u31,Zaa u31 Zbd,Za Zbr,Zab ld9,h1,em,hi,ld]
   exact Zei (E:=[(0,.slice (some ⟨b,0,none⟩) L.length L.length),(1,.int .i64 i),(2,.string ⟨nm.toArray⟩),(8,.int .i64 0)]) meth ⟨by rfl,by rfl,by rfl,by rfl,trivial⟩
 obtain⟨B,hB⟩:∃ A,x.2.2.2.2.1=A:=⟨_,rfl⟩
 simp only [tM,hB] at hms ld4 ⊢
 refine Zbg 9 [28,36,49] (fun dd E mC=>∃ (j:Nat),B.length - j=dd∧j≤B.length∧Zd4 nm B 0=Zd4 nm (B.drop j) j∧mC=m∧
  E=[(0,.slice (some ⟨b,0,none⟩) L.length L.length),(1,.int .i64 i),(2,.string ⟨nm.toArray⟩),(8,.int .i64 j)]) _ ⟨_,⟨0,rfl,by omega,rfl,rfl,rfl⟩,⟨by rfl,by rfl,by rfl,by rfl,trivial⟩⟩ ?_
 rintro dd E mC ih ⟨j,hdj,hj,hf,rfl,rfl⟩
 by_cases hlt:j < B.length
 ·have i1:(j:Int) < B.length:=by omega
  have emj:(j:Int)≤9223372036854775807:=by have:=hms.le;omega
  have wi:IntKind.i64.wrap ((j:Int)+1)=((j+1:Nat):Int):=by rw [Zbh (by omega) (by have:=hms.le;omega)];omega
  obtain⟨mb,po,pf,rfl,hp,hld1⟩:=hms.one hlt
  have l4:=(hld1 _ (Zaj _)).2.1
  rw [List.drop_eq_getElem_cons hlt] at hf
  obtain⟨z,hz⟩:∃ x,B[j]=x:=⟨_,rfl⟩
  rw [hz] at l4 hf
  rw [Zxo] at hf
  by_cases he:z.1=nm
  ·rw [if_pos he] at hf
   rw [he] at l4
   simp [-Int.natCast_add,-BitVec.toNat_or,-BitVec.toNat_ofInt,-BitVec.toNat_and,Zaa u24 Zbn,Za Za3,Zab ld3,Za Zaq,Zab Zb1,Zac u31,Zaa u31 Zbd,Za Zbr,Zab ld9,em,hi,ld4,i1,emj,hlt,l4]
   exact⟨h57,j,hlt,hf,rfl⟩
  ·rw [if_neg he] at hf
   simp [-Int.natCast_add,-BitVec.toNat_or,-BitVec.toNat_ofInt,-BitVec.toNat_and,Zaa u24 Zbn,Za Za3,Zab ld3,Za Zaq,Zab Zb1,Zac u31,Zaa u31 Zbd,Za Zbr,Zab ld9,em,hi,ld4,i1,emj,hlt,l4,he,wi]
   exact ih _ _ _ _ ⟨j+1,rfl,by omega,hf,rfl,rfl⟩ (by omega) ⟨by rfl,by rfl,by rfl,by simp [Zcm],trivial⟩
 ·have i1:¬ (j:Int) < B.length:=by omega
  rw [List.drop_eq_nil_of_le (by omega)] at hf
  have hf':Zd4 nm B 0=-1:=hf
  simp [-Int.natCast_add,-BitVec.toNat_or,-BitVec.toNat_ofInt,-BitVec.toNat_and,Zaa u24 Zbn,Za Za3,Zab ld3,Za Zaq,Zab Zb1,Zac u31,Zaa u31 Zbd,Za Zbr,Zab ld9,em,hi,ld4,i1,hf']
structure Nr (S:Zed):Prop where
 has:S 84=[]
 inn:S 88=[]
 meth:S 83=[]
 same:S 123=[]
 fits:S 122=[]
def Zy8 (L:List Zb0.D)(a b:Nat):Bool:=match L[a]?,L[b]? with
 | some x,some y=>decide (x.1=5) && decide (y.1=7) && y.2.2.2.2.1.all (okM x.2.2.2.2.1)
 | _,_=>false
set_option maxHeartbeats 1000000 in
theorem Zsn (hN:Nr S){to:Option Addr}{L:List Zb0.D}(h:Tb m to L){a b:Nat}(ha:a < L.length)(hb:b < L.length) :
  ∃ v m1,Zbi Tryz.prog TT S 84 [.slice to L.length L.length,.int .i64 a,.int .i64 b] m=some (v,m1)∧v=.bool (Zy8 L a b)∧Zao m m1 []:=by
 have h1:=fun m'=>Zku (m:=m') hN.inn (to:=to) (n:=L.length) (a:Int)
 have h2:=fun m'=>Zku (m:=m') hN.inn (to:=to) (n:=L.length) (b:Int)
 rw [decide_eq_true ⟨by omega,by omega⟩] at h1 h2
 refine Zey 11 [36,44,93] k84 hN.has rfl ?_
 unfold Zy8
 rw [List.getElem?_eq_getElem ha,List.getElem?_eq_getElem hb]
 simp only
 obtain⟨tb,ao,fa,bo,rfl,tya⟩:=h.ty ha
 obtain⟨_,ao',fb,bo',het,tyb⟩:=h.ty hb
 cases het
 have lda:=tya.l0
 have ldb:=tyb.l0
 have ld4a:=tya.l4
 have ld4b:=tyb.l4
 have hMa:=tya.ms
 have hMb:=tyb.ms
 have hLl:=h.le
 have ema:(a:Int)≤9223372036854775807:=by omega
 have emb:(b:Int)≤9223372036854775807:=by omega
 have hmt:=fun m' (k:Zao m m' []) nm=>Zpp (m:=m') hN.meth hN.inn (h.keep k) ha nm
 obtain⟨x,hx⟩:∃ x,L[a]=x:=⟨_,rfl⟩
 obtain⟨y,hy⟩:∃ x,L[b]=x:=⟨_,rfl⟩
 rw [hx] at lda ld4a hMa hmt
 rw [hy] at ldb ld4b hMb
 rw [hx,hy]
 have la:=lda _ (Zaj _)
 have lb:=ldb _ (Zaj _)
 by_cases e1:x.1=5
 case neg =>
  simp [-Int.natCast_add,-BitVec.toNat_or,-BitVec.toNat_ofInt,-BitVec.toNat_and,Zaa u24 Zbn,Za Za3,Zab ld3,Za Zaq,Zab Zb1,Zac u31,Zaa u31 Zbd,Zae Zc6,Zag Zcw,Zaf Zbd,Za Zbr,Zab ld9,Za Zap,Za Zar,Zab Zbe,h1,h2,ema,emb,ha,hb,la,e1]
  exact Zaj _
 rw [e1] at la
 by_cases e2:y.1=7
 case neg =>
  simp [-Int.natCast_add,-BitVec.toNat_or,-BitVec.toNat_ofInt,-BitVec.toNat_and,Zaa u24 Zbn,Za Za3,Zab ld3,Za Zaq,Zab Zb1,Zac u31,Zaa u31 Zbd,Zae Zc6,Zag Zcw,Zaf Zbd,Za Zbr,Zab ld9,Za Zap,Za Zar,Zab Zbe,h1,h2,ema,emb,ha,hb,la,lb,e1,e2]
  exact Zaj _
 rw [e2] at lb
 simp [-Int.natCast_add,-BitVec.toNat_or,-BitVec.toNat_ofInt,-BitVec.toNat_and,Zaa u24 Zbn,Za Za3,Zab ld3,Za Zaq,Zab Zb1,Zac u31,Zaa u31 Zbd,Zae Zc6,Zag Zcw,Zaf Zbd,Za Zbr,Zab ld9,Za Zap,Za Zar,Zab Zbe,h1,h2,ema,emb,ha,hb,la,lb,e1,e2]
 obtain⟨A,hA⟩:∃ A,x.2.2.2.2.1=A:=⟨_,rfl⟩
 obtain⟨B,hB⟩:∃ A,y.2.2.2.2.1=A:=⟨_,rfl⟩
 simp only [tM,hA,hB] at hMa hMb ld4a ld4b hmt ⊢
 refine Zbg 11 [36,44,93] (fun dd E mC=>∃ (i:Nat),B.length - i=dd∧i≤B.length∧(B.take i).all (okM A)=true∧Zao m mC []∧
  E=[(0,.slice (some ⟨tb,0,none⟩) L.length L.length),(1,.int .i64 a),(2,.int .i64 b),(7,.int .i64 i)]) _ ⟨_,⟨0,rfl,by omega,rfl,Zaj _,rfl⟩,⟨by rfl,by rfl,by rfl,by rfl,trivial⟩⟩ ?_
 rintro dd E mC ih ⟨i,hdi,hi,hall,kC,rfl⟩
 have l4b:=ld4b _ kC
 by_cases hlt:i < B.length
 ·have i1:(i:Int) < B.length:=by omega
  have hle:=hMb.le
  have emi:(i:Int)≤9223372036854775807:=by omega
  have wi:IntKind.i64.wrap ((i:Int)+1)=((i+1:Nat):Int):=by rw [Zbh (by omega) (by omega)];omega
  obtain⟨mb,po,pf,rfl,hp,hld1⟩:=(hMb.keep kC).one hlt
  have l4:=(hld1 _ (Zaj _)).1
  obtain⟨z,hz⟩:∃ x,B[i]=x:=⟨_,rfl⟩
  rw [hz] at l4 hp
  obtain⟨o1,j1,n1⟩:=Za7 (m:=mC) (cs:=[.string ⟨#[]⟩,.slice none 0 0,.int .i64 0,.int .i64 0]) (e:=30) rfl
  obtain⟨zb,hzb⟩:∃ xb,mC.next=xb:=⟨_,rfl⟩
  rw [hzb] at o1 n1
  obtain⟨mD,hmD⟩:∃ mD,mC.new [.string ⟨#[]⟩,.slice none 0 0,.int .i64 0,.int .i64 0] 30=mD:=⟨_,rfl⟩
  rw [hmD] at o1 j1 n1
  simp [-Int.natCast_add,-BitVec.toNat_or,-BitVec.toNat_ofInt,-BitVec.toNat_and,Zaa u24 Zbn,Za Za3,Zab ld3,Za Zaq,Zab Zb1,Zac u31,Zaa u31 Zbd,Zae Zc6,Zag Zcw,Zaf Zbd,Za Zbr,Zab ld9,Za Zap,Za Zar,Zab Zbe,emb,hb,l4b,i1,emi,hlt,l4,hzb,hmD]
  generalize hra:Za8 _ _ _=ra
  obtain⟨mE,rfl,o2,j2⟩:=Za4 hra o1 (by simp) (by simp [Zbk,Zco,Zbp])
  simp [Zdh] at o2
  have kE:Zao mC mE []:=j1.fresh j2 (by simp;omega)
  have l0:=o2.load1 (off:=0) rfl
  have l1:=o2.load1 (off:=1) rfl
  have l2:=o2.load1 (off:=2) rfl
  have KE:=kC.trans kE
  obtain⟨v,mF,hm1,hcase,rfl⟩:=hmt mE KE z.1
  rcases hcase with⟨j,_,hj,hfj,rfl⟩ | ⟨hfn,rfl⟩
  case inr =>
   have hfn:Zd4 z.1 A 0=-1:=hfn.resolve_left (fun h=>h (Or.inl e1))
   have hno:B.all (okM A)=false:=Zla hlt (by rw [hz];exact Z0f hfn)
   simp [-Int.natCast_add,-BitVec.toNat_or,-BitVec.toNat_ofInt,-BitVec.toNat_and,Zaa u24 Zbn,Za Za3,Zab ld3,Za Zaq,Zab Zb1,Zac u31,Zaa u31 Zbd,Zae Zc6,Zag Zcw,Zaf Zbd,Za Zbr,Zab ld9,Za Zap,Za Zar,Zab Zbe,l0,hm1,hno]
   exact KE
  have l4a:=ld4a _ KE
  have emj:(j:Int)≤9223372036854775807:=by have:=hMa.le;omega
  obtain⟨ma,qo,qf,rfl,hq,hld2⟩:=(hMa.keep KE).one hj
  have q1:=(hld2 _ (Zaj _)).2.2.1
  have q2:=(hld2 _ (Zaj _)).2.2.2
  have hok:=Zz7 hj hfj
  obtain⟨u,hu⟩:∃ x,A[j]=x:=⟨_,rfl⟩
  rw [hu] at q1 q2 hq hok
  by_cases er:u.2.2.1=z.2.2.1
  case neg =>
   have hno:B.all (okM A)=false:=Zla hlt (by rw [hz,hok];simp [er])
   simp [-Int.natCast_add,-BitVec.toNat_or,-BitVec.toNat_ofInt,-BitVec.toNat_and,Zaa u24 Zbn,Za Za3,Zab ld3,Za Zaq,Zab Zb1,Zac u31,Zaa u31 Zbd,Zae Zc6,Zag Zcw,Zaf Zbd,Za Zbr,Zab ld9,Za Zap,Za Zar,Zab Zbe,l0,l1,l2,hm1,ema,ha,l4a,emj,hj,q1,q2,er,hno]
   exact KE
  have hwu:=(hMa.wf _ (List.getElem_mem hj)).2.1.1
  rw [hu] at hwu
  obtain⟨_,_,he,rfl,rfl⟩:=Zqc (m:=mF) hN.same hq hwu (hp.keep kE (by simp))
  by_cases ep:(show List Int from u.2.1)=z.2.1
  case neg =>
   have hno:B.all (okM A)=false:=Zla hlt (by rw [hz,hok];simp [ep])
   rw [decide_eq_false ep] at he
   simp [-Int.natCast_add,-BitVec.toNat_or,-BitVec.toNat_ofInt,-BitVec.toNat_and,Zaa u24 Zbn,Za Za3,Zab ld3,Za Zaq,Zab Zb1,Zac u31,Zaa u31 Zbd,Zae Zc6,Zag Zcw,Zaf Zbd,Za Zbr,Zab ld9,Za Zap,Za Zar,Zab Zbe,l0,l1,l2,hm1,ema,ha,l4a,emj,hj,q1,q2,er,he,hno]
   exact KE
  have hyes:okM A B[i]=true:=by rw [hz,hok];simp [er,ep]
  rw [decide_eq_true ep] at he
  simp [-Int.natCast_add,-BitVec.toNat_or,-BitVec.toNat_ofInt,-BitVec.toNat_and,Zaa u24 Zbn,Za Za3,Zab ld3,Za Zaq,Zab Zb1,Zac u31,Zaa u31 Zbd,Zae Zc6,Zag Zcw,Zaf Zbd,Za Zbr,Zab ld9,Za Zap,Za Zar,Zab Zbe,l0,l1,l2,hm1,ema,ha,l4a,emj,hj,q1,q2,er,he,wi]
  exact ih _ _ _ _ ⟨i+1,rfl,by omega,Zln hlt hall hyes,KE,rfl⟩ (by omega) ⟨by rfl,by rfl,by rfl,by simp [Zcm],trivial⟩
 ·have i1:¬ (i:Int) < B.length:=by omega
  rw [List.take_of_length_le (by omega)] at hall
  simp [-Int.natCast_add,-BitVec.toNat_or,-BitVec.toNat_ofInt,-BitVec.toNat_and,Zaa u24 Zbn,Za Za3,Zab ld3,Za Zaq,Zab Zb1,Zac u31,Zaa u31 Zbd,Zae Zc6,Zag Zcw,Zaf Zbd,Za Zbr,Zab ld9,Za Zap,Za Zar,Zab Zbe,emb,hb,l4b,i1,hall]
  exact kC
theorem Zq9 {L:List Zb0.D}{a b:Nat}(ha:a < L.length)(hb:b < L.length):Zn6 L a b L[a] L[b]=if a=b then decide (L[a].1≠0∧L[a].1≠4) else if L[a].1=4 then decide (L[b].1=5∨L[b].1=6∨L[b].1=7) else Zy8 L a b:=by
 unfold Zn6 Zy8
 rw [List.getElem?_eq_getElem ha,List.getElem?_eq_getElem hb]
theorem Zwa (hN:Nr S){to:Option Addr}{L:List Zb0.D}(h:Tb m to L){a b:Nat}(ha:a < L.length)(hb:b < L.length)(ha4:L[a].1≠4) :
  ∃ v m1,Zbi Tryz.prog TT S 122 [.slice to L.length L.length,.int .i64 a,.int .i64 b] m=some (v,m1)∧v=.bool (Zn6 L a b L[a] L[b])∧Zao m m1 []:=by
 have h1:=fun m'=>Zku (m:=m') hN.inn (to:=to) (n:=L.length) (a:Int)
 have h2:=fun m'=>Zku (m:=m') hN.inn (to:=to) (n:=L.length) (b:Int)
 rw [decide_eq_true ⟨by omega,by omega⟩] at h1 h2
 obtain⟨_,m3,h3,rfl,k3⟩:=Zsn hN h ha hb
 rw [Zq9 ha hb]
 refine Zey 8 [17,28] Z79 hN.fits rfl ?_
 obtain⟨tb,ao,fa,bo,rfl,tya⟩:=h.ty ha
 obtain⟨_,ao',fb,bo',het,tyb⟩:=h.ty hb
 cases het
 have la:=tya.l0 _ (Zaj _)
 have lb:=tyb.l0 _ (Zaj _)
 have hLl:=h.le
 have ema:(a:Int)≤9223372036854775807:=by omega
 have emb:(b:Int)≤9223372036854775807:=by omega
 have hab:a=b→L[a].1=L[b].1:=by rintro rfl;rfl
 obtain⟨x,hx⟩:∃ x,L[a].1=x:=⟨_,rfl⟩
 obtain⟨y,hy⟩:∃ x,L[b].1=x:=⟨_,rfl⟩
 rw [hx] at la ha4 hab
 rw [hy] at lb hab
 rw [hx,hy]
 by_cases e1:a=b
 ·have e:=hab e1
  subst e1 e
  rcases hh:Zy8 L a a with _ | _
  ·rw [hh] at h3
   by_cases e2:x=0 <;> simp [-Int.natCast_add,-BitVec.toNat_or,-BitVec.toNat_ofInt,-BitVec.toNat_and,Zaa u24 Zbn,Za Za3,Zab ld3,h1,h2,h3,ema,ha,la,ha4,e2]
   all_goals first
    | exact k3
    | exact Zaj _
  ·exfalso
   unfold Zy8 at hh
   rw [List.getElem?_eq_getElem ha] at hh
   simp only [Bool.and_eq_true,decide_eq_true_eq] at hh
   exact absurd (hh.1.1.symm.trans hh.1.2) (by decide)
 ·have e1':¬ (a:Int)=b:=by omega
  simp [-Int.natCast_add,-BitVec.toNat_or,-BitVec.toNat_ofInt,-BitVec.toNat_and,Zaa u24 Zbn,Za Za3,Zab ld3,h1,h2,h3,ema,emb,ha,hb,la,lb,ha4,e1,e1']
  exact k3
end Go.Proofs.YtbldiceiindbdaaGreatDoor.base
