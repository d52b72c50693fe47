/- This text proves what the document's step answers: the stack of types behind an instruction, or what is wrong. Condition: nothing is known of the calls ahead ('S f = []'). -/
import Derived.Test.YtbldiceiindbdaaGreatDoorVrB
set_option linter.unusedVariables false
set_option linter.unusedSimpArgs false
set_option maxRecDepth 100000
namespace Go.Proofs.YtbldiceiindbdaaGreatDoor.base
open Go.Sh gen
variable {S:Zed}{m:Mem}{p:Pr}{q:Pp}{f:Fn}{fp:Fp}
theorem Zx3 {op:Int}(h:1≤op∧op≤41)(h1:¬ op=36)(h2:¬ op=37)(h3:¬ op=41):(Zba op).2.2=true:=by
 rcases Zhq op with (rfl | rfl | rfl | rfl | rfl | rfl | rfl | rfl | rfl | rfl | rfl | rfl | rfl | rfl | rfl | rfl | rfl | rfl | rfl | rfl | rfl | rfl | rfl | rfl | rfl | rfl | rfl | rfl | rfl | rfl | rfl | rfl | rfl | rfl | rfl | rfl | rfl | rfl | rfl | rfl | rfl) | hne
 all_goals first
  | omega
  | (simp [Zba];done)
theorem Zot (L:List Zb0.D)(u t:Int):Zhd L [u] [t]=Zmj L u t:=by simp [Zhd]
theorem Zs3 {l:List Int}(h:l.length=1):l=[l.getD 0 0]:=by
 match l,h with
 | [x],_=>rfl
theorem Z4m {l:List Int}(h:l.length=1)(t:Int):Zg1 l t=decide (l.getD 0 0=t):=by
 match l,h with
 | [x],_=>simp [Zg1]
theorem Z24 {l:List Int}(h:l.length=2)(t:Int):Zg1 l t=(decide (l.getD 0 0=t) && decide (l.getD 1 0=t)):=by
 match l,h with
 | [x,y],_=>simp [Zg1]
def Zti (L:List Zb0.D)(l to:List Int)(i:Nat):Bool:=((l.zip to).take i).all fun q=>Zmj L q.1 q.2
theorem Zz1 (L:List Zb0.D)(l to:List Int):Zti L l to 0=true:=by simp [Zti]
theorem Z0c (L:List Zb0.D){l to:List Int}{i:Nat}(h1:i < l.length)(h2:i < to.length):Zti L l to (i+1)=(Zti L l to i && Zmj L (l.getD i 0) (to.getD i 0)):=by
 have hz:i < (l.zip to).length:=by simp;omega
 unfold Zti
 rw [List.take_succ_eq_append_getElem hz,List.all_append,gd h1,gd h2]
 simp
theorem Z0a (L:List Zb0.D){l to:List Int}(h:l.length=to.length):Zti L l to to.length=Zhd L l to:=by
 unfold Zti Zhd
 rw [List.take_of_length_le (by simp;omega),h]
 simp
theorem Z2e (L:List Zb0.D){l to:List Int}{i:Nat}(h:Zti L l to i=false):Zhd L l to=false:=by
 unfold Zti at h
 unfold Zhd
 rw [Bool.eq_false_iff] at h ⊢
 intro h2
 refine h ?_
 rw [Bool.and_eq_true] at h2
 rw [List.all_eq_true] at h2 ⊢
 exact fun x hx=>h2.2 x (List.mem_of_mem_take hx)
theorem Zzn (L:List Zb0.D){l to:List Int}(h:¬ l.length=to.length):Zhd L l to=false:=by simp [Zhd,h]
theorem Z2z {l:List Int}(h:l.length=2):l.drop 1=[l.getD 1 0]:=by
 match l,h with
 | [x,y],_=>rfl
theorem Z3d {l:List Int}(h:l.length=3):l.drop 2=[l.getD 2 0]:=by
 match l,h with
 | [x,y,z],_=>rfl
theorem Ztn (l:List Int)(i:Nat):(l.drop 1).getD i 0=l.getD (i+1) 0:=by
 simp [List.getD_eq_getElem?_getD,Nat.add_comm]
set_option maxHeartbeats 20000000 in
theorem Zym (hN:Nf S)(hP:Zu0 p)(h:Zmg m p q)(hf:f∈p.F)(hfn:Zwt m f fp)(hfl:f.ls.length≤1000)(x:Ix)(hx:Zlh p f.ls.length x){ao:Option Addr}{st:List Int}{sf:Nat}(hst:Rs m ao st.length (ic st) 3 1 sf)(hsv:Val p.L st)(hsl:st.length≤60) :
  ∃ v m1,Zbi Tryz.prog TT S 46 [.agg (p.row q).toArray,.agg (f.row fp).toArray,.agg #[.int .i64 x.1,.int .i64 x.2.1,.int .i64 x.2.2],.slice ao st.length st.length] m=some (v,m1)∧Z4s m m1 (Zh1 p f x st) v∧Zao m m1 []:=by
 have hR:=hP.L
 have hnn:=Zn9 hx
 obtain⟨tn,htn⟩:∃ n:Nat,Zcp x=n:=⟨(Zcp x).toNat,by omega⟩
 have hdr:=Zsq hP hf hx hsl htn
 obtain⟨R,hRR⟩:∃ R,Zh1 p f x st=R:=⟨_,rfl⟩
 rw [hRR] at hdr ⊢
 have hop:=hx.op
 have hcall:=hx.call
 have hinv:=hx.inv
 have hfld:=hx.fld
 have hret:=hx.ret
 have hst5:=hx.st
 have hloc:=hx.loc
 have hpv:=fun l=>Zmn hP hf hx l
 obtain⟨op,a,b⟩:=x
 simp only at hop hcall hinv hfld hret hst5 hloc
 obtain⟨pb,m1,hpb,hm1,o1,k1,n1⟩:=Zke m p q
 obtain⟨o2,k2,n2⟩:=Za7 (m:=m1) (cs:=f.row fp) (e:=37) rfl
 obtain⟨gb,hgb⟩:∃ z,m1.next=z:=⟨_,rfl⟩
 rw [hgb] at o2 n2
 obtain⟨m2,hm2⟩:∃ z,m1.new (f.row fp) 37=z:=⟨_,rfl⟩
 rw [hm2] at o2 k2 n2
 obtain⟨o3,k3,n3⟩:=Za7 (m:=m2) (cs:=[.int .i64 op,.int .i64 a,.int .i64 b]) (e:=40) rfl
 obtain⟨xb,hxb⟩:∃ z,m2.next=z:=⟨_,rfl⟩
 rw [hxb] at o3 n3
 obtain⟨m3,hm3⟩:∃ z,m2.new [.int .i64 op,.int .i64 a,.int .i64 b] 40=z:=⟨_,rfl⟩
 rw [hm3] at o3 k3 n3
 have K3:=(k1.trans k2).trans k3
 have o13:=(o1.keep k2 (by simp)).keep k3 (by simp)
 have o23:=o2.keep k3 (by simp)
 have x0:=o3.load1 (off:=0) rfl
 have x1:=o3.load1 (off:=1) rfl
 have x2:=o3.load1 (off:=2) rfl
 have mv:=fun m'=>Zua (m:=m') hN.moves op
 simp only [Pr.row,Fn.row] at hm1 hm2
 refine Zey 64 [64,64,67,69,71,75,83,93,95,95,95,95,95,111,117,123,123,134,134,134,134,149,161,161,161,161,176,178,184,184,210,227,241,241,258,272,283,295,306,310,318,330,346,349,396,429,440,452,460,485,487,489,496] k46 hN.step rfl ?_
 simp only []
 apply Z2
 case main =>
  by_cases e36:op=36
  ·have ht:b=(tn:Int):=by have:=htn;rw [e36] at this;simpa [Zcp] using this
   have em:Zba 36=(0,0,false):=by simp [Zba]
   have x0':=x0
   have mv':=mv
   have hm3':=hm3
   have ld':=x2
   rw [e36] at x0' mv' hm3'
   rw [em] at mv'
   rw [ht] at ld'
   intro meth
   simp [-Int.natCast_add,-w46_6,-BitVec.toNat_or,-BitVec.toNat_ofInt,-BitVec.toNat_and,Zah b45,Zah b37,Zah b40,Za Zak,Zab ld3,Za Za0,Za Zal,Zac u23,Zad u23 bs3 rfl,Za1 u23 sz3,Zam u23 sz3,Zae Zbx,Zai Zck,Zag Zci,Zaf Zch,Za Zat,Zab Zbe,Zaa u23 sz3,Zae Zcj,Za Zas,Zab Zb2,Zaa u24 Zbn,Za Zay,Zab Zce,Zac u28,Zaa u28 Zcc,Za Za9,Za Zau,Za Zan,Zab Zbw,Zaa u41 Za5,Zae Zby,Zag Zb4,Zaf Za5,Za Zav,Za Zaz,Za Za2,Zab Zcr,Zaa u42 sz9,Zab ld9,Za Zaq,Zab Zb1,Zaa u31 Zbd,Za Zar,Za Zap,Zaw u4 .eql (Or.inl rfl),Pr.row,Fn.row,hpb,hm1,hgb,hm2,hxb,hm3',e36,x0',ld',mv']
   exact Zcq (E:=[(3,.slice ao st.length st.length),(4,.pointer (some ⟨pb,0,none⟩)),(5,.pointer (some ⟨gb,0,none⟩)),(6,.pointer (some ⟨xb,0,none⟩)),(10,.int .i64 tn)]) meth ⟨by rfl,by rfl,by rfl,by rfl,by rfl,trivial⟩
  by_cases e37:op=37
  ·have ht:b=(tn:Int):=by have:=htn;rw [e37] at this;simpa [Zcp] using this
   have em:Zba 37=(0,0,false):=by simp [Zba]
   have x0':=x0
   have mv':=mv
   have hm3':=hm3
   have ld':=x2
   rw [e37] at x0' mv' hm3'
   rw [em] at mv'
   rw [ht] at ld'
   intro meth
   simp [-Int.natCast_add,-w46_6,-BitVec.toNat_or,-BitVec.toNat_ofInt,-BitVec.toNat_and,Zah b45,Zah b37,Zah b40,Za Zak,Zab ld3,Za Za0,Za Zal,Zac u23,Zad u23 bs3 rfl,Za1 u23 sz3,Zam u23 sz3,Zae Zbx,Zai Zck,Zag Zci,Zaf Zch,Za Zat,Zab Zbe,Zaa u23 sz3,Zae Zcj,Za Zas,Zab Zb2,Zaa u24 Zbn,Za Zay,Zab Zce,Zac u28,Zaa u28 Zcc,Za Za9,Za Zau,Za Zan,Zab Zbw,Zaa u41 Za5,Zae Zby,Zag Zb4,Zaf Za5,Za Zav,Za Zaz,Za Za2,Zab Zcr,Zaa u42 sz9,Zab ld9,Za Zaq,Zab Zb1,Zaa u31 Zbd,Za Zar,Za Zap,Zaw u4 .eql (Or.inl rfl),Pr.row,Fn.row,hpb,hm1,hgb,hm2,hxb,hm3',e37,x0',ld',mv']
   exact Zcq (E:=[(3,.slice ao st.length st.length),(4,.pointer (some ⟨pb,0,none⟩)),(5,.pointer (some ⟨gb,0,none⟩)),(6,.pointer (some ⟨xb,0,none⟩)),(10,.int .i64 tn)]) meth ⟨by rfl,by rfl,by rfl,by rfl,by rfl,trivial⟩
  by_cases e41:op=41
  ·have ht:a=(tn:Int):=by have:=htn;rw [e41] at this;simpa [Zcp] using this
   have em:Zba 41=(0,0,false):=by simp [Zba]
   have x0':=x0
   have mv':=mv
   have hm3':=hm3
   have ld':=x1
   rw [e41] at x0' mv' hm3'
   rw [em] at mv'
   rw [ht] at ld'
   intro meth
   simp [-Int.natCast_add,-w46_6,-BitVec.toNat_or,-BitVec.toNat_ofInt,-BitVec.toNat_and,Zah b45,Zah b37,Zah b40,Za Zak,Zab ld3,Za Za0,Za Zal,Zac u23,Zad u23 bs3 rfl,Za1 u23 sz3,Zam u23 sz3,Zae Zbx,Zai Zck,Zag Zci,Zaf Zch,Za Zat,Zab Zbe,Zaa u23 sz3,Zae Zcj,Za Zas,Zab Zb2,Zaa u24 Zbn,Za Zay,Zab Zce,Zac u28,Zaa u28 Zcc,Za Za9,Za Zau,Za Zan,Zab Zbw,Zaa u41 Za5,Zae Zby,Zag Zb4,Zaf Za5,Za Zav,Za Zaz,Za Za2,Zab Zcr,Zaa u42 sz9,Zab ld9,Za Zaq,Zab Zb1,Zaa u31 Zbd,Za Zar,Za Zap,Zaw u4 .eql (Or.inl rfl),Pr.row,Fn.row,hpb,hm1,hgb,hm2,hxb,hm3',e41,x0',x2,ld',mv']
   exact Zcq (E:=[(3,.slice ao st.length st.length),(4,.pointer (some ⟨pb,0,none⟩)),(5,.pointer (some ⟨gb,0,none⟩)),(6,.pointer (some ⟨xb,0,none⟩)),(10,.int .i64 tn)]) meth ⟨by rfl,by rfl,by rfl,by rfl,by rfl,trivial⟩
  have hfx:=Zx3 hop e36 e37 e41
  have ht:(Zba op).1=(tn:Int):=by have:=htn;unfold Zcp at this;rw [if_neg (by rintro (h | h);exact e36 h;exact e37 h),if_neg e41] at this;exact this
  have mv':=mv
  rw [hfx,ht] at mv'
  intro meth
  simp [-Int.natCast_add,-w46_6,-BitVec.toNat_or,-BitVec.toNat_ofInt,-BitVec.toNat_and,Zah b45,Zah b37,Zah b40,Za Zak,Zab ld3,Za Za0,Za Zal,Zac u23,Zad u23 bs3 rfl,Za1 u23 sz3,Zam u23 sz3,Zae Zbx,Zai Zck,Zag Zci,Zaf Zch,Za Zat,Zab Zbe,Zaa u23 sz3,Zae Zcj,Za Zas,Zab Zb2,Zaa u24 Zbn,Za Zay,Zab Zce,Zac u28,Zaa u28 Zcc,Za Za9,Za Zau,Za Zan,Zab Zbw,Zaa u41 Za5,Zae Zby,Zag Zb4,Zaf Za5,Za Zav,Za Zaz,Za Za2,Zab Zcr,Zaa u42 sz9,Zab ld9,Za Zaq,Zab Zb1,Zaa u31 Zbd,Za Zar,Za Zap,Zaw u4 .eql (Or.inl rfl),Pr.row,Fn.row,hpb,hm1,hgb,hm2,hxb,hm3,x0,mv']
  exact Zcq (E:=[(3,.slice ao st.length st.length),(4,.pointer (some ⟨pb,0,none⟩)),(5,.pointer (some ⟨gb,0,none⟩)),(6,.pointer (some ⟨xb,0,none⟩)),(10,.int .i64 tn)]) meth ⟨by rfl,by rfl,by rfl,by rfl,by rfl,trivial⟩
 by_cases hlt:st.length < tn
 ·have hlt':(st.length:Int) < (tn:Int):=by omega
  rw [if_pos hlt] at hdr
  rw [hdr]
  simp [-Int.natCast_add,-BitVec.toNat_or,-BitVec.toNat_ofInt,-BitVec.toNat_and,Zah b45,Zah b37,Zah b40,Za Zak,Zab ld3,Za Za0,Za Zal,Zac u23,Zad u23 bs3 rfl,Za1 u23 sz3,Zam u23 sz3,Zae Zbx,Zai Zck,Zag Zci,Zaf Zch,Za Zat,Zab Zbe,Zaa u23 sz3,Zae Zcj,Za Zas,Zab Zb2,Zaa u24 Zbn,Za Zay,Zab Zce,Zac u28,Zaa u28 Zcc,Za Za9,Za Zau,Za Zan,Zab Zbw,Zaa u41 Za5,Zae Zby,Zag Zb4,Zaf Za5,Za Zav,Za Zaz,Za Za2,Zab Zcr,Zaa u42 sz9,Zab ld9,Za Zaq,Zab Zb1,Zaa u31 Zbd,Za Zar,Za Zap,Zaw u4 .eql (Or.inl rfl),hlt,hlt']
  exact⟨Or.inr ⟨by simp,rfl⟩,K3⟩
 rw [if_neg hlt] at hdr
 have hlt':¬ (st.length:Int) < (tn:Int):=by omega
 obtain⟨k,hk⟩:∃ k,st.length - tn=k:=⟨_,rfl⟩
 have hkl:k≤st.length:=by omega
 have wk:IntKind.i64.wrap ((st.length:Int) - (tn:Int))=(k:Int):=by rw [Zbh (by omega) (by omega)];omega
 have hst3:=hst.keep K3 (by simp)
 have hdl:(st.drop k).length=tn:=by simp;omega
 have htl:(st.take k).length=k:=by simp;omega
 have hsub:st.length - k=tn:=by omega
 have emk:(k:Int)≤9223372036854775807:=by omega
 rw [hk] at hdr
 obtain⟨ro,lo,hrl,hlo,_⟩:=Zse hst3 hkl
 rw [hsub] at hrl
 obtain⟨o4,k4,n4⟩:=Za7 (m:=m3) (cs:=[]) (e:=3) rfl
 obtain⟨eb,heb⟩:∃ z,m3.next=z:=⟨_,rfl⟩
 rw [heb] at o4 n4
 obtain⟨m4,hm4⟩:∃ z,m3.new [] 3=z:=⟨_,rfl⟩
 rw [hm4] at o4 k4 n4
 have s14:=(hrl m4 k4).1
 have lr4:=(hrl m4 k4).2.2
 obtain⟨Rs0,hRs⟩:∃ Q,st.take k=Q:=⟨_,rfl⟩
 obtain⟨Dd,hD⟩:∃ Q,st.drop k=Q:=⟨_,rfl⟩
 rw [hRs] at lr4 htl hdr
 rw [hD] at hlo hdl hdr
 have hDv:Val p.L Dd:=hD ▸ hsv.drop k
 simp [-Int.natCast_add,-BitVec.toNat_or,-BitVec.toNat_ofInt,-BitVec.toNat_and,Zah b45,Zah b37,Zah b40,Za Zak,Zab ld3,Za Za0,Za Zal,Zac u23,Zad u23 bs3 rfl,Za1 u23 sz3,Zam u23 sz3,Zae Zbx,Zai Zck,Zag Zci,Zaf Zch,Za Zat,Zab Zbe,Zaa u23 sz3,Zae Zcj,Za Zas,Zab Zb2,Zaa u24 Zbn,Za Zay,Zab Zce,Zac u28,Zaa u28 Zcc,Za Za9,Za Zau,Za Zan,Zab Zbw,Zaa u41 Za5,Zae Zby,Zag Zb4,Zaf Za5,Za Zav,Za Zaz,Za Za2,Zab Zcr,Zaa u42 sz9,Zab ld9,Za Zaq,Zab Zb1,Zaa u31 Zbd,Za Zar,Za Zap,Zaw u4 .eql (Or.inl rfl),Zgn,Zgk,hlt,hlt',wk,emk,heb,hm4,s14,lr4]
 generalize hra:Zcd _ _ _ _ _ _=ra
 obtain⟨m5,bo,rfl,o5,k5⟩:=Zfm hra u23 ap3 o4 (by simp) (by simp [ic,htl]) (by simp [ic,Zbk]) (by omega) (by omega)
 have k35:Zao m3 m5 []:=k4.fresh k5 (by simp;omega)
 have hic:[]++ic Rs0=ic Rs0:=List.nil_append _
 rw [hic] at o5
 have s25:=(hrl m5 k35).2.1
 have p5:=(o13.keep k35 (by simp)).load (off:=0) 5 (by simp [Pr.row])
 simp only [Pr.row] at p5
 simp [Zb] at p5
 obtain⟨o6,k6,n6⟩:=Za7 (m:=m5) (cs:=[.slice none 0 0,.slice none 0 0,.int .i64 0,.slice none 0 0,.slice none 0 0,.slice none 0 0]) (e:=156) rfl
 obtain⟨tb,htb⟩:∃ z,m5.next=z:=⟨_,rfl⟩
 rw [htb] at o6 n6
 obtain⟨m6,hm6⟩:∃ z,m5.new [.slice none 0 0,.slice none 0 0,.int .i64 0,.slice none 0 0,.slice none 0 0,.slice none 0 0] 156=z:=⟨_,rfl⟩
 rw [hm6] at o6 k6 n6
 simp [-Int.natCast_add,-w46_13,-BitVec.toNat_or,-BitVec.toNat_ofInt,-BitVec.toNat_and,Zah b45,Zah b37,Zah b40,Za Zak,Zab ld3,Za Za0,Za Zal,Zac u23,Zad u23 bs3 rfl,Za1 u23 sz3,Zam u23 sz3,Zae Zbx,Zai Zck,Zag Zci,Zaf Zch,Za Zat,Zab Zbe,Zaa u23 sz3,Zae Zcj,Za Zas,Zab Zb2,Zaa u24 Zbn,Za Zay,Zab Zce,Zac u28,Zaa u28 Zcc,Za Za9,Za Zau,Za Zan,Zab Zbw,Zaa u41 Za5,Zae Zby,Zag Zb4,Zaf Za5,Za Zav,Za Zaz,Za Za2,Zab Zcr,Zaa u42 sz9,Zab ld9,Za Zaq,Zab Zb1,Zaa u31 Zbd,Za Zar,Za Zap,Zaw u4 .eql (Or.inl rfl),Zgn,Zgk,wk,emk,s25,p5,htb,hm6]
 generalize hrb:Za8 _ _ _=rb
 obtain⟨m7,rfl,o7,k7⟩:=Za4 hrb o6 (by simp) (by simp [Zbk,Zbp])
 simp [Zdh] at o7
 have k57:Zao m5 m7 []:=k6.fresh k7 (by simp;omega)
 have k37:=k35.trans k57
 have K7:=K3.trans k37
 have o57:=o5.keep k57 (by simp)
 simp [-Int.natCast_add,-w46_13,-BitVec.toNat_or,-BitVec.toNat_ofInt,-BitVec.toNat_and,Zah b45,Zah b37,Zah b40,Za Zak,Zab ld3,Za Za0,Za Zal,Zac u23,Zad u23 bs3 rfl,Za1 u23 sz3,Zam u23 sz3,Zae Zbx,Zai Zck,Zag Zci,Zaf Zch,Za Zat,Zab Zbe,Zaa u23 sz3,Zae Zcj,Za Zas,Zab Zb2,Zaa u24 Zbn,Za Zay,Zab Zce,Zac u28,Zaa u28 Zcc,Za Za9,Za Zau,Za Zan,Zab Zbw,Zaa u41 Za5,Zae Zby,Zag Zb4,Zaf Za5,Za Zav,Za Zaz,Za Za2,Zab Zcr,Zaa u42 sz9,Zab ld9,Za Zaq,Zab Zb1,Zaa u31 Zbd,Za Zar,Za Zap,Zaw u4 .eql (Or.inl rfl)]
 have hp7:=h.keep K7
 have hlo7:=hlo.keep k37
 have X0:=(o3.keep k37 (by simp)).load1 (off:=0) rfl
 have X1:=(o3.keep k37 (by simp)).load1 (off:=1) rfl
 have X2:=(o3.keep k37 (by simp)).load1 (off:=2) rfl
 have P0:=(o13.keep k37 (by simp)).load1 (off:=0) rfl
 have P1:=(o13.keep k37 (by simp)).load1 (off:=1) rfl
 have P3:=(o13.keep k37 (by simp)).load1 (off:=3) rfl
 have pl7:=(o13.keep k37 (by simp)).load (off:=0) 5 (by simp [Pr.row])
 simp only [Pr.row] at pl7
 simp [Zb] at pl7
 have F2:=(o23.keep k37 (by simp)).load1 (off:=2) rfl
 have F3:=(o23.keep k37 (by simp)).load1 (off:=3) rfl
 have tkl:=o7.load (off:=0) 6 (by simp)
 simp [Zb] at tkl
 have hLl:=hp7.tb.le
 obtain⟨GV,hGV⟩:∃ z,Za6 p f (op,a,b) Dd=z:=⟨_,rfl⟩
 rw [hGV] at hdr
 obtain⟨gt,gok⟩:=GV
 simp only at hdr
 have hgv0:=hpv Dd
 rw [hGV] at hgv0
 simp only at hgv0
 have hnz4:op=4→¬ a=0:=by
  intro e e0
  have:=hx.ref e
  simp only [e0] at this
  unfold Zun at this
  have:=hR.val_of (of_decide_eq_true this)
  exact absurd this.1 (by decide)
 have hnz34:op=34→¬ a=0:=by
  intro e e0
  have:=hst5 (Or.inl e)
  have:=(hR.val_of (Or.inr (Or.inl this))).1
  omega
 have hnz35:op=35→¬ a=0:=by
  intro e e0
  have:=(hR.val_of (Or.inr (Or.inr (Or.inl (hx.sl e))))).1
  simp only at this
  omega
 have loc:0≤a∧a < f.ls.length→∃ (i lb:Nat),a=i∧i < f.ls.length∧fp.la=some ⟨lb,0,none⟩∧loadRow m7 ⟨lb,i,none⟩ 1=some [.int .i64 (f.ls.getD i 0)]∧Zgc p.L.length (f.ls.getD i 0):=by
  intro hin
  obtain⟨i,hai⟩:∃ i:Nat,a=i:=⟨a.toNat,by omega⟩
  have hi:i < f.ls.length:=by omega
  obtain⟨lb,he,hr⟩:=(hfn.keep K7).ls.rdo (by omega)
  refine⟨i,lb,hai,hi,he,?_,by rw [gd hi];exact hP.ls f hf _ (List.getElem_mem hi)⟩
  rw [gd hi]
  exact hr.load1 (by simp [ic,hi])
 have fitsH:∀ (lo2:Option Addr),lo=lo2→∀ (mC:Mem),Zao m7 mC []→∀ (k2:Nat) (c2:Int),c2=(k2:Int)→k2 < tn→∀ (t:Int),Zgc p.L.length t→∃ m8,Zbi Tryz.prog TT S 80 [.agg #[.slice q.ta p.L.length p.L.length,.slice q.fa p.F.length p.F.length,.int .i64 p.main,.slice q.xa p.X.length p.X.length,.slice q.na p.nN p.nN,.slice lo2 tn tn],.int .i64 c2,.int .i64 t] mC=some (.bool (Zmj p.L (Dd.getD k2 0) t),m8)∧Zao mC m8 []:=by
  rintro lo2 rfl mC kC k2 c2 rfl hk2 t ht
  have h8:=Zxd (m:=mC) (q:=q) hN hR (hp7.keep kC) (hlo7.keep kC) hDv (by omega) (k:=k2) (by omega) ht
  simp only [Zkh,hdl] at h8
  exact h8
 have kindH:∀ (lo2:Option Addr),lo=lo2→∀ (mC:Mem),Zao m7 mC []→0 < tn→∃ m8,Zbi Tryz.prog TT S 82 [.agg #[.slice q.ta p.L.length p.L.length,.slice q.fa p.F.length p.F.length,.int .i64 p.main,.slice q.xa p.X.length p.X.length,.slice q.na p.nN p.nN,.slice lo2 tn tn],.int .i64 0] mC=some (.int .i64 (Zdy p.L (Dd.getD 0 0)),m8)∧Zao mC m8 []:=by
  rintro lo2 rfl mC kC hk2
  have h8:=Zw8 (m:=mC) (q:=q) hN hR (hp7.keep kC) (hlo7.keep kC) hDv (by omega) (k:=0) (by omega)
  simp only [Zkh,hdl] at h8
  exact h8
 have first:0 < tn→∃ (lb of i:Nat) (kk:Int) (hi:i < p.L.length),lo=some ⟨lb,of,none⟩∧Dd.getD 0 0=(i:Int)∧p.L[i].1=kk∧Zgc p.L.length (i:Int)∧(∀ m',Zao m7 m' []→loadRow m' ⟨lb,of,none⟩ 1=some [.int .i64 i])∧(∀ mC,Zao m7 mC []→∃ m8,Zbi Tryz.prog TT S 82 [.agg #[.slice q.ta p.L.length p.L.length,.slice q.fa p.F.length p.F.length,.int .i64 p.main,.slice q.xa p.X.length p.X.length,.slice q.na p.nN p.nN,.slice (some ⟨lb,of,none⟩) tn tn],.int .i64 0] mC=some (.int .i64 kk,m8)∧Zao mC m8 []):=by
  intro hp
  obtain⟨lb,of,hlb,_,hld⟩:=hlo7.load (by intro e;rw [e] at hdl;simp at hdl;omega)
  have hv:=hDv _ (List.getElem_mem (show 0 < Dd.length by omega))
  obtain⟨i,hi,kk,ei,ek,_⟩:=hR.kv hv
  have e0:Dd.getD 0 0=(i:Int):=by rw [gd (by omega),ei]
  refine⟨lb,of,i,kk,hi,hlb,e0,ek,ei ▸ hv,fun m' k'=>?_,fun mC kC=>?_⟩
  ·have:=hld 0 (by omega) m' k'
   rw [ei] at this
   simpa using this
  ·have:=kindH _ hlb mC kC hp
   rw [e0,Zf1 hi,ek] at this
   exact this
 have mkH:∀ (mX:Mem) (g:Int) (ok:Bool) (v:Int × Bool),Zao m7 mX []→Za6 p f (op,a,b) Dd=v→ok=v.2→(v.2=true→g=if v.1=0 then -1 else v.1)→op≠41→(Zao m7 mX []∧ok=gok∧(ok=true→g=if gt=0 then -1 else gt)∧¬ (op=41∧ok=true∧0 < k)):=by
  intro mX g ok v kk hv ho hg h41
  rw [hGV] at hv
  subst hv
  exact⟨kk,ho,fun h=>hg (ho ▸ h),fun h=>h41 h.1⟩
 apply Z4n (fun (mX:Mem) (g:Int) (ok:Bool)=>Zao m7 mX []∧ok=gok∧(ok=true→g=if gt=0 then -1 else gt)∧¬ (op=41∧ok=true∧0 < k))
 case main =>
  by_cases d1:op=1
  ·have e:=d1
   have X0':=X0
   rw [e] at X0'
   obtain⟨mX,hmX⟩:∃ z,m7=z:=⟨_,rfl⟩
   obtain⟨g',hg'⟩:∃ z:Int,1=z:=⟨_,rfl⟩
   obtain⟨ok',hok'⟩:∃ z,true=z:=⟨_,rfl⟩
   rw [hmX] at X0'
   have hH:=mkH mX g' ok' (1,true) (by rw [hmX];exact Zaj _) (by rw [e];simp [Za6]) hok'.symm (fun _=>by rw [← hg'];simp) (by omega)
   intro meth
   simp [-Int.natCast_add,-w46_116,-BitVec.toNat_or,-BitVec.toNat_ofInt,-BitVec.toNat_and,Zah b45,Zah b37,Zah b40,Za Zak,Zab ld3,Za Za0,Za Zal,Zac u23,Zad u23 bs3 rfl,Za1 u23 sz3,Zam u23 sz3,Zae Zbx,Zai Zck,Zag Zci,Zaf Zch,Za Zat,Zab Zbe,Zaa u23 sz3,Zae Zcj,Za Zas,Zab Zb2,Zaa u24 Zbn,Za Zay,Zab Zce,Zac u28,Zaa u28 Zcc,Za Za9,Za Zau,Za Zan,Zab Zbw,Zaa u41 Za5,Zae Zby,Zag Zb4,Zaf Za5,Za Zav,Za Zaz,Za Za2,Zab Zcr,Zaa u42 sz9,Zab ld9,Za Zaq,Zab Zb1,Zaa u31 Zbd,Za Zar,Za Zap,Zaw u4 .eql (Or.inl rfl),X0',e,hmX]
   exact Zcq (E:=[(13,.slice (some ⟨bo,0,none⟩) k k),(16,.int .i64 g'),(17,.bool ok')]) (meth mX g' ok' hH) ⟨by rfl,by rw [← hg'];rfl,by rw [← hok'];rfl,trivial⟩
  by_cases d40:op=40
  ·have e:=d40
   all_goals
    have X0':=X0
    rw [e] at X0'
    intro meth
    simp [-Int.natCast_add,-w46_116,-BitVec.toNat_or,-BitVec.toNat_ofInt,-BitVec.toNat_and,Zah b45,Zah b37,Zah b40,Za Zak,Zab ld3,Za Za0,Za Zal,Zac u23,Zad u23 bs3 rfl,Za1 u23 sz3,Zam u23 sz3,Zae Zbx,Zai Zck,Zag Zci,Zaf Zch,Za Zat,Zab Zbe,Zaa u23 sz3,Zae Zcj,Za Zas,Zab Zb2,Zaa u24 Zbn,Za Zay,Zab Zce,Zac u28,Zaa u28 Zcc,Za Za9,Za Zau,Za Zan,Zab Zbw,Zaa u41 Za5,Zae Zby,Zag Zb4,Zaf Za5,Za Zav,Za Zaz,Za Za2,Zab Zcr,Zaa u42 sz9,Zab ld9,Za Zaq,Zab Zb1,Zaa u31 Zbd,Za Zar,Za Zap,Zaw u4 .eql (Or.inl rfl),X0',e]
    exact Zcq (E:=[(13,.slice (some ⟨bo,0,none⟩) k k),(16,.int .i64 (1)),(17,.bool true)]) (meth m7 (1) true (mkH _ _ _ (1,true) (Zaj _) (by rw [e];simp [Za6]) rfl (fun hvv=>by simp) (by omega))) ⟨by rfl,by rfl,by rfl,trivial⟩
  by_cases d2:op=2
  ·have e:=d2
   all_goals
    have X0':=X0
    rw [e] at X0'
    intro meth
    simp [-Int.natCast_add,-w46_116,-BitVec.toNat_or,-BitVec.toNat_ofInt,-BitVec.toNat_and,Zah b45,Zah b37,Zah b40,Za Zak,Zab ld3,Za Za0,Za Zal,Zac u23,Zad u23 bs3 rfl,Za1 u23 sz3,Zam u23 sz3,Zae Zbx,Zai Zck,Zag Zci,Zaf Zch,Za Zat,Zab Zbe,Zaa u23 sz3,Zae Zcj,Za Zas,Zab Zb2,Zaa u24 Zbn,Za Zay,Zab Zce,Zac u28,Zaa u28 Zcc,Za Za9,Za Zau,Za Zan,Zab Zbw,Zaa u41 Za5,Zae Zby,Zag Zb4,Zaf Za5,Za Zav,Za Zaz,Za Za2,Zab Zcr,Zaa u42 sz9,Zab ld9,Za Zaq,Zab Zb1,Zaa u31 Zbd,Za Zar,Za Zap,Zaw u4 .eql (Or.inl rfl),X0',e]
    exact Zcq (E:=[(13,.slice (some ⟨bo,0,none⟩) k k),(16,.int .i64 (2)),(17,.bool true)]) (meth m7 (2) true (mkH _ _ _ (2,true) (Zaj _) (by rw [e];simp [Za6]) rfl (fun hvv=>by simp) (by omega))) ⟨by rfl,by rfl,by rfl,trivial⟩
  by_cases d3:op=3
  ·have e:=d3
   all_goals
    have X0':=X0
    rw [e] at X0'
    intro meth
    simp [-Int.natCast_add,-w46_116,-BitVec.toNat_or,-BitVec.toNat_ofInt,-BitVec.toNat_and,Zah b45,Zah b37,Zah b40,Za Zak,Zab ld3,Za Za0,Za Zal,Zac u23,Zad u23 bs3 rfl,Za1 u23 sz3,Zam u23 sz3,Zae Zbx,Zai Zck,Zag Zci,Zaf Zch,Za Zat,Zab Zbe,Zaa u23 sz3,Zae Zcj,Za Zas,Zab Zb2,Zaa u24 Zbn,Za Zay,Zab Zce,Zac u28,Zaa u28 Zcc,Za Za9,Za Zau,Za Zan,Zab Zbw,Zaa u41 Za5,Zae Zby,Zag Zb4,Zaf Za5,Za Zav,Za Zaz,Za Za2,Zab Zcr,Zaa u42 sz9,Zab ld9,Za Zaq,Zab Zb1,Zaa u31 Zbd,Za Zar,Za Zap,Zaw u4 .eql (Or.inl rfl),X0',e]
    exact Zcq (E:=[(13,.slice (some ⟨bo,0,none⟩) k k),(16,.int .i64 (3)),(17,.bool true)]) (meth m7 (3) true (mkH _ _ _ (3,true) (Zaj _) (by rw [e];simp [Za6]) rfl (fun hvv=>by simp) (by omega))) ⟨by rfl,by rfl,by rfl,trivial⟩
  by_cases d7:op=7∨op=26
  ·rcases d7 with e | e
   all_goals
    have X0':=X0
    rw [e] at X0'
    intro meth
    simp [-Int.natCast_add,-w46_116,-BitVec.toNat_or,-BitVec.toNat_ofInt,-BitVec.toNat_and,Zah b45,Zah b37,Zah b40,Za Zak,Zab ld3,Za Za0,Za Zal,Zac u23,Zad u23 bs3 rfl,Za1 u23 sz3,Zam u23 sz3,Zae Zbx,Zai Zck,Zag Zci,Zaf Zch,Za Zat,Zab Zbe,Zaa u23 sz3,Zae Zcj,Za Zas,Zab Zb2,Zaa u24 Zbn,Za Zay,Zab Zce,Zac u28,Zaa u28 Zcc,Za Za9,Za Zau,Za Zan,Zab Zbw,Zaa u41 Za5,Zae Zby,Zag Zb4,Zaf Za5,Za Zav,Za Zaz,Za Za2,Zab Zcr,Zaa u42 sz9,Zab ld9,Za Zaq,Zab Zb1,Zaa u31 Zbd,Za Zar,Za Zap,Zaw u4 .eql (Or.inl rfl),X0',e]
    exact Zcq (E:=[(13,.slice (some ⟨bo,0,none⟩) k k),(16,.int .i64 (-1)),(17,.bool true)]) (meth m7 (-1) true (mkH _ _ _ (0,true) (Zaj _) (by rw [e];simp [Za6]) rfl (fun hvv=>by simp) (by omega))) ⟨by rfl,by rfl,by rfl,trivial⟩
  by_cases d4:op=4
  ·have e:=d4
   have X0':=X0
   rw [e] at X0'
   have hv:Za6 p f (op,a,b) Dd=(a,true):=by rw [e];simp [Za6]
   have hva:¬ a=0:=by have h9:=hpv Dd;have h8:=hnz4 e;exact h8
   intro meth
   simp [-Int.natCast_add,-w46_116,-BitVec.toNat_or,-BitVec.toNat_ofInt,-BitVec.toNat_and,Zah b45,Zah b37,Zah b40,Za Zak,Zab ld3,Za Za0,Za Zal,Zac u23,Zad u23 bs3 rfl,Za1 u23 sz3,Zam u23 sz3,Zae Zbx,Zai Zck,Zag Zci,Zaf Zch,Za Zat,Zab Zbe,Zaa u23 sz3,Zae Zcj,Za Zas,Zab Zb2,Zaa u24 Zbn,Za Zay,Zab Zce,Zac u28,Zaa u28 Zcc,Za Za9,Za Zau,Za Zan,Zab Zbw,Zaa u41 Za5,Zae Zby,Zag Zb4,Zaf Za5,Za Zav,Za Zaz,Za Za2,Zab Zcr,Zaa u42 sz9,Zab ld9,Za Zaq,Zab Zb1,Zaa u31 Zbd,Za Zar,Za Zap,Zaw u4 .eql (Or.inl rfl),X0',X1,e]
   exact Zcq (E:=[(13,.slice (some ⟨bo,0,none⟩) k k),(16,.int .i64 (a)),(17,.bool true)]) (meth m7 (a) true (mkH _ _ _ (a,true) (Zaj _) (hv) rfl (fun hvv=>by simp [hva]) (by omega))) ⟨by rfl,by rfl,by rfl,trivial⟩
  by_cases d34:op=34
  ·have e:=d34
   have X0':=X0
   rw [e] at X0'
   have hv:Za6 p f (op,a,b) Dd=(a,true):=by rw [e];simp [Za6]
   have hva:¬ a=0:=by have h9:=hpv Dd;have h8:=hnz34 e;exact h8
   intro meth
   simp [-Int.natCast_add,-w46_116,-BitVec.toNat_or,-BitVec.toNat_ofInt,-BitVec.toNat_and,Zah b45,Zah b37,Zah b40,Za Zak,Zab ld3,Za Za0,Za Zal,Zac u23,Zad u23 bs3 rfl,Za1 u23 sz3,Zam u23 sz3,Zae Zbx,Zai Zck,Zag Zci,Zaf Zch,Za Zat,Zab Zbe,Zaa u23 sz3,Zae Zcj,Za Zas,Zab Zb2,Zaa u24 Zbn,Za Zay,Zab Zce,Zac u28,Zaa u28 Zcc,Za Za9,Za Zau,Za Zan,Zab Zbw,Zaa u41 Za5,Zae Zby,Zag Zb4,Zaf Za5,Za Zav,Za Zaz,Za Za2,Zab Zcr,Zaa u42 sz9,Zab ld9,Za Zaq,Zab Zb1,Zaa u31 Zbd,Za Zar,Za Zap,Zaw u4 .eql (Or.inl rfl),X0',X1,e]
   exact Zcq (E:=[(13,.slice (some ⟨bo,0,none⟩) k k),(16,.int .i64 (a)),(17,.bool true)]) (meth m7 (a) true (mkH _ _ _ (a,true) (Zaj _) (hv) rfl (fun hvv=>by simp [hva]) (by omega))) ⟨by rfl,by rfl,by rfl,trivial⟩
  by_cases d5:op=5
  ·have e:=d5
   have X0':=X0
   rw [e] at X0'
   obtain⟨i,lb,hai,hi,hla,ld,hvt⟩:=loc (hloc (Or.inl e))
   have hv:Za6 p f (op,a,b) Dd=(f.ls.getD i 0,true):=by rw [e,hai];simp [Za6]
   have hnz:¬ f.ls.getD i 0=0:=by have:=hvt.1;omega
   have emi:(i:Int)≤9223372036854775807:=by omega
   generalize f.ls.getD i 0=t at ld hvt hv hnz
   intro meth
   simp [-Int.natCast_add,-w46_116,-BitVec.toNat_or,-BitVec.toNat_ofInt,-BitVec.toNat_and,Zah b45,Zah b37,Zah b40,Za Zak,Zab ld3,Za Za0,Za Zal,Zac u23,Zad u23 bs3 rfl,Za1 u23 sz3,Zam u23 sz3,Zae Zbx,Zai Zck,Zag Zci,Zaf Zch,Za Zat,Zab Zbe,Zaa u23 sz3,Zae Zcj,Za Zas,Zab Zb2,Zaa u24 Zbn,Za Zay,Zab Zce,Zac u28,Zaa u28 Zcc,Za Za9,Za Zau,Za Zan,Zab Zbw,Zaa u41 Za5,Zae Zby,Zag Zb4,Zaf Za5,Za Zav,Za Zaz,Za Za2,Zab Zcr,Zaa u42 sz9,Zab ld9,Za Zaq,Zab Zb1,Zaa u31 Zbd,Za Zar,Za Zap,Zaw u4 .eql (Or.inl rfl),X0',X1,F3,hai,hla,emi,hi,ld,e]
   exact Zcq (E:=[(13,.slice (some ⟨bo,0,none⟩) k k),(16,.int .i64 (t)),(17,.bool true)]) (meth m7 (t) true (mkH _ _ _ (t,true) (Zaj _) (hv) rfl (fun hvv=>by simp [hnz]) (by omega))) ⟨by rfl,by rfl,by rfl,trivial⟩
  by_cases d6:op=6
  ·have e:=d6
   have X0':=X0
   rw [e] at X0'
   have htv:tn=1:=by have:=htn;rw [e] at this;simp [Zcp,Zba] at this;omega
   obtain⟨i,lb,hai,hi,hla,ld,hvt⟩:=loc (hloc (Or.inr e))
   obtain⟨m8,h8,k8⟩:=fitsH lo rfl m7 (Zaj _) 0 0 rfl (by omega) _ hvt
   have hv:Za6 p f (op,a,b) Dd=(0,Zmj p.L (Dd.getD 0 0) (f.ls.getD i 0)):=by
    have h9:Za6 p f (6,(i:Int),b) Dd=(0,Zhd p.L Dd [f.ls.getD i 0]):=by simp [Za6]
    rw [e,hai,h9,← Zot,← Zs3 (by omega)]
   have emi:(i:Int)≤9223372036854775807:=by omega
   generalize f.ls.getD i 0=t at ld hvt hv h8
   generalize Zmj p.L (Dd.getD 0 0) t=fb at hv h8
   intro meth
   simp [-Int.natCast_add,-w46_116,-BitVec.toNat_or,-BitVec.toNat_ofInt,-BitVec.toNat_and,Zah b45,Zah b37,Zah b40,Za Zak,Zab ld3,Za Za0,Za Zal,Zac u23,Zad u23 bs3 rfl,Za1 u23 sz3,Zam u23 sz3,Zae Zbx,Zai Zck,Zag Zci,Zaf Zch,Za Zat,Zab Zbe,Zaa u23 sz3,Zae Zcj,Za Zas,Zab Zb2,Zaa u24 Zbn,Za Zay,Zab Zce,Zac u28,Zaa u28 Zcc,Za Za9,Za Zau,Za Zan,Zab Zbw,Zaa u41 Za5,Zae Zby,Zag Zb4,Zaf Za5,Za Zav,Za Zaz,Za Za2,Zab Zcr,Zaa u42 sz9,Zab ld9,Za Zaq,Zab Zb1,Zaa u31 Zbd,Za Zar,Za Zap,Zaw u4 .eql (Or.inl rfl),X0',X1,F3,hai,hla,emi,hi,ld,e,tkl,h8]
   exact Zcq (E:=[(13,.slice (some ⟨bo,0,none⟩) k k),(16,.int .i64 (-1)),(17,.bool fb)]) (meth m8 (-1) fb (mkH _ _ _ (0,fb) (k8) (hv) rfl (fun hvv=>by simp) (by omega))) ⟨by rfl,by rfl,by rfl,trivial⟩
  by_cases d8:op=8∨op=9∨op=10∨op=11∨op=12
  ·rcases d8 with e | e | e | e | e
   all_goals
    have X0':=X0
    rw [e] at X0'
    have htv:tn=2:=by have:=htn;rw [e] at this;simp [Zcp,Zba] at this;omega
    have hv:Za6 p f (op,a,b) Dd=(1,decide (Dd.getD 0 0=1) && decide (Dd.getD 1 0=1)):=by rw [e];simp [Za6,Z24 (l:=Dd) (by omega),Bool.decide_and]
    obtain⟨lb,of,hlb,_,_⟩:=hlo7.load (by intro e;rw [e] at hdl;simp at hdl;omega)
    rw [hlb] at hlo7
    have t0:=hlo7.at_ (i:=0) (by omega) _ (Zaj _)
    have t1:=hlo7.at_ (i:=1) (by omega) _ (Zaj _)
    simp only [Nat.add_zero] at t0
    generalize Dd.getD 0 0=u0 at t0 hv
    generalize Dd.getD 1 0=u1 at t1 hv
    by_cases c0:u0=1
    ·by_cases c1:u1=1
     ·rw [c0] at t0
      rw [c1] at t1
      intro meth
      simp [-Int.natCast_add,-w46_116,-BitVec.toNat_or,-BitVec.toNat_ofInt,-BitVec.toNat_and,Zah b45,Zah b37,Zah b40,Za Zak,Zab ld3,Za Za0,Za Zal,Zac u23,Zad u23 bs3 rfl,Za1 u23 sz3,Zam u23 sz3,Zae Zbx,Zai Zck,Zag Zci,Zaf Zch,Za Zat,Zab Zbe,Zaa u23 sz3,Zae Zcj,Za Zas,Zab Zb2,Zaa u24 Zbn,Za Zay,Zab Zce,Zac u28,Zaa u28 Zcc,Za Za9,Za Zau,Za Zan,Zab Zbw,Zaa u41 Za5,Zae Zby,Zag Zb4,Zaf Za5,Za Zav,Za Zaz,Za Za2,Zab Zcr,Zaa u42 sz9,Zab ld9,Za Zaq,Zab Zb1,Zaa u31 Zbd,Za Zar,Za Zap,Zaw u4 .eql (Or.inl rfl),X0',e,htv,hlb,t0,t1]
      exact Zcq (E:=[(13,.slice (some ⟨bo,0,none⟩) k k),(16,.int .i64 (1)),(17,.bool true)]) (meth m7 (1) true (mkH _ _ _ (1,true) (Zaj _) (by rw [hv,c0,c1];simp) rfl (fun hvv=>by simp) (by omega))) ⟨by rfl,by rfl,by rfl,trivial⟩
     ·rw [c0] at t0
      intro meth
      simp [-Int.natCast_add,-w46_116,-BitVec.toNat_or,-BitVec.toNat_ofInt,-BitVec.toNat_and,Zah b45,Zah b37,Zah b40,Za Zak,Zab ld3,Za Za0,Za Zal,Zac u23,Zad u23 bs3 rfl,Za1 u23 sz3,Zam u23 sz3,Zae Zbx,Zai Zck,Zag Zci,Zaf Zch,Za Zat,Zab Zbe,Zaa u23 sz3,Zae Zcj,Za Zas,Zab Zb2,Zaa u24 Zbn,Za Zay,Zab Zce,Zac u28,Zaa u28 Zcc,Za Za9,Za Zau,Za Zan,Zab Zbw,Zaa u41 Za5,Zae Zby,Zag Zb4,Zaf Za5,Za Zav,Za Zaz,Za Za2,Zab Zcr,Zaa u42 sz9,Zab ld9,Za Zaq,Zab Zb1,Zaa u31 Zbd,Za Zar,Za Zap,Zaw u4 .eql (Or.inl rfl),X0',e,htv,hlb,t0,t1,c1]
      exact Zcq (E:=[(13,.slice (some ⟨bo,0,none⟩) k k),(16,.int .i64 (1)),(17,.bool false)]) (meth m7 (1) false (mkH _ _ _ (1,false) (Zaj _) (by rw [hv,c0];simp [c1]) rfl (fun hvv=>by simp) (by omega))) ⟨by rfl,by rfl,by rfl,trivial⟩
    ·intro meth
     simp [-Int.natCast_add,-w46_116,-BitVec.toNat_or,-BitVec.toNat_ofInt,-BitVec.toNat_and,Zah b45,Zah b37,Zah b40,Za Zak,Zab ld3,Za Za0,Za Zal,Zac u23,Zad u23 bs3 rfl,Za1 u23 sz3,Zam u23 sz3,Zae Zbx,Zai Zck,Zag Zci,Zaf Zch,Za Zat,Zab Zbe,Zaa u23 sz3,Zae Zcj,Za Zas,Zab Zb2,Zaa u24 Zbn,Za Zay,Zab Zce,Zac u28,Zaa u28 Zcc,Za Za9,Za Zau,Za Zan,Zab Zbw,Zaa u41 Za5,Zae Zby,Zag Zb4,Zaf Za5,Za Zav,Za Zaz,Za Za2,Zab Zcr,Zaa u42 sz9,Zab ld9,Za Zaq,Zab Zb1,Zaa u31 Zbd,Za Zar,Za Zap,Zaw u4 .eql (Or.inl rfl),X0',e,htv,hlb,t0,t1,c0]
     exact Zcq (E:=[(13,.slice (some ⟨bo,0,none⟩) k k),(16,.int .i64 (1)),(17,.bool false)]) (meth m7 (1) false (mkH _ _ _ (1,false) (Zaj _) (by rw [hv];simp [c0]) rfl (fun hvv=>by simp) (by omega))) ⟨by rfl,by rfl,by rfl,trivial⟩
  by_cases d17:op=17∨op=18∨op=19∨op=20
  ·rcases d17 with e | e | e | e
   all_goals
    have X0':=X0
    rw [e] at X0'
    have htv:tn=2:=by have:=htn;rw [e] at this;simp [Zcp,Zba] at this;omega
    have hv:Za6 p f (op,a,b) Dd=(2,decide (Dd.getD 0 0=1) && decide (Dd.getD 1 0=1)):=by rw [e];simp [Za6,Z24 (l:=Dd) (by omega),Bool.decide_and]
    obtain⟨lb,of,hlb,_,_⟩:=hlo7.load (by intro e;rw [e] at hdl;simp at hdl;omega)
    rw [hlb] at hlo7
    have t0:=hlo7.at_ (i:=0) (by omega) _ (Zaj _)
    have t1:=hlo7.at_ (i:=1) (by omega) _ (Zaj _)
    simp only [Nat.add_zero] at t0
    generalize Dd.getD 0 0=u0 at t0 hv
    generalize Dd.getD 1 0=u1 at t1 hv
    by_cases c0:u0=1
    ·by_cases c1:u1=1
     ·rw [c0] at t0
      rw [c1] at t1
      intro meth
      simp [-Int.natCast_add,-w46_116,-BitVec.toNat_or,-BitVec.toNat_ofInt,-BitVec.toNat_and,Zah b45,Zah b37,Zah b40,Za Zak,Zab ld3,Za Za0,Za Zal,Zac u23,Zad u23 bs3 rfl,Za1 u23 sz3,Zam u23 sz3,Zae Zbx,Zai Zck,Zag Zci,Zaf Zch,Za Zat,Zab Zbe,Zaa u23 sz3,Zae Zcj,Za Zas,Zab Zb2,Zaa u24 Zbn,Za Zay,Zab Zce,Zac u28,Zaa u28 Zcc,Za Za9,Za Zau,Za Zan,Zab Zbw,Zaa u41 Za5,Zae Zby,Zag Zb4,Zaf Za5,Za Zav,Za Zaz,Za Za2,Zab Zcr,Zaa u42 sz9,Zab ld9,Za Zaq,Zab Zb1,Zaa u31 Zbd,Za Zar,Za Zap,Zaw u4 .eql (Or.inl rfl),X0',e,htv,hlb,t0,t1]
      exact Zcq (E:=[(13,.slice (some ⟨bo,0,none⟩) k k),(16,.int .i64 (2)),(17,.bool true)]) (meth m7 (2) true (mkH _ _ _ (2,true) (Zaj _) (by rw [hv,c0,c1];simp) rfl (fun hvv=>by simp) (by omega))) ⟨by rfl,by rfl,by rfl,trivial⟩
     ·rw [c0] at t0
      intro meth
      simp [-Int.natCast_add,-w46_116,-BitVec.toNat_or,-BitVec.toNat_ofInt,-BitVec.toNat_and,Zah b45,Zah b37,Zah b40,Za Zak,Zab ld3,Za Za0,Za Zal,Zac u23,Zad u23 bs3 rfl,Za1 u23 sz3,Zam u23 sz3,Zae Zbx,Zai Zck,Zag Zci,Zaf Zch,Za Zat,Zab Zbe,Zaa u23 sz3,Zae Zcj,Za Zas,Zab Zb2,Zaa u24 Zbn,Za Zay,Zab Zce,Zac u28,Zaa u28 Zcc,Za Za9,Za Zau,Za Zan,Zab Zbw,Zaa u41 Za5,Zae Zby,Zag Zb4,Zaf Za5,Za Zav,Za Zaz,Za Za2,Zab Zcr,Zaa u42 sz9,Zab ld9,Za Zaq,Zab Zb1,Zaa u31 Zbd,Za Zar,Za Zap,Zaw u4 .eql (Or.inl rfl),X0',e,htv,hlb,t0,t1,c1]
      exact Zcq (E:=[(13,.slice (some ⟨bo,0,none⟩) k k),(16,.int .i64 (2)),(17,.bool false)]) (meth m7 (2) false (mkH _ _ _ (2,false) (Zaj _) (by rw [hv,c0];simp [c1]) rfl (fun hvv=>by simp) (by omega))) ⟨by rfl,by rfl,by rfl,trivial⟩
    ·intro meth
     simp [-Int.natCast_add,-w46_116,-BitVec.toNat_or,-BitVec.toNat_ofInt,-BitVec.toNat_and,Zah b45,Zah b37,Zah b40,Za Zak,Zab ld3,Za Za0,Za Zal,Zac u23,Zad u23 bs3 rfl,Za1 u23 sz3,Zam u23 sz3,Zae Zbx,Zai Zck,Zag Zci,Zaf Zch,Za Zat,Zab Zbe,Zaa u23 sz3,Zae Zcj,Za Zas,Zab Zb2,Zaa u24 Zbn,Za Zay,Zab Zce,Zac u28,Zaa u28 Zcc,Za Za9,Za Zau,Za Zan,Zab Zbw,Zaa u41 Za5,Zae Zby,Zag Zb4,Zaf Za5,Za Zav,Za Zaz,Za Za2,Zab Zcr,Zaa u42 sz9,Zab ld9,Za Zaq,Zab Zb1,Zaa u31 Zbd,Za Zar,Za Zap,Zaw u4 .eql (Or.inl rfl),X0',e,htv,hlb,t0,t1,c0]
     exact Zcq (E:=[(13,.slice (some ⟨bo,0,none⟩) k k),(16,.int .i64 (2)),(17,.bool false)]) (meth m7 (2) false (mkH _ _ _ (2,false) (Zaj _) (by rw [hv];simp [c0]) rfl (fun hvv=>by simp) (by omega))) ⟨by rfl,by rfl,by rfl,trivial⟩
  by_cases d21:op=21
  ·have e:=d21
   all_goals
    have X0':=X0
    rw [e] at X0'
    have htv:tn=2:=by have:=htn;rw [e] at this;simp [Zcp,Zba] at this;omega
    have hv:Za6 p f (op,a,b) Dd=(3,decide (Dd.getD 0 0=3) && decide (Dd.getD 1 0=3)):=by rw [e];simp [Za6,Z24 (l:=Dd) (by omega),Bool.decide_and]
    obtain⟨lb,of,hlb,_,_⟩:=hlo7.load (by intro e;rw [e] at hdl;simp at hdl;omega)
    rw [hlb] at hlo7
    have t0:=hlo7.at_ (i:=0) (by omega) _ (Zaj _)
    have t1:=hlo7.at_ (i:=1) (by omega) _ (Zaj _)
    simp only [Nat.add_zero] at t0
    generalize Dd.getD 0 0=u0 at t0 hv
    generalize Dd.getD 1 0=u1 at t1 hv
    by_cases c0:u0=3
    ·by_cases c1:u1=3
     ·rw [c0] at t0
      rw [c1] at t1
      intro meth
      simp [-Int.natCast_add,-w46_116,-BitVec.toNat_or,-BitVec.toNat_ofInt,-BitVec.toNat_and,Zah b45,Zah b37,Zah b40,Za Zak,Zab ld3,Za Za0,Za Zal,Zac u23,Zad u23 bs3 rfl,Za1 u23 sz3,Zam u23 sz3,Zae Zbx,Zai Zck,Zag Zci,Zaf Zch,Za Zat,Zab Zbe,Zaa u23 sz3,Zae Zcj,Za Zas,Zab Zb2,Zaa u24 Zbn,Za Zay,Zab Zce,Zac u28,Zaa u28 Zcc,Za Za9,Za Zau,Za Zan,Zab Zbw,Zaa u41 Za5,Zae Zby,Zag Zb4,Zaf Za5,Za Zav,Za Zaz,Za Za2,Zab Zcr,Zaa u42 sz9,Zab ld9,Za Zaq,Zab Zb1,Zaa u31 Zbd,Za Zar,Za Zap,Zaw u4 .eql (Or.inl rfl),X0',e,htv,hlb,t0,t1]
      exact Zcq (E:=[(13,.slice (some ⟨bo,0,none⟩) k k),(16,.int .i64 (3)),(17,.bool true)]) (meth m7 (3) true (mkH _ _ _ (3,true) (Zaj _) (by rw [hv,c0,c1];simp) rfl (fun hvv=>by simp) (by omega))) ⟨by rfl,by rfl,by rfl,trivial⟩
     ·rw [c0] at t0
      intro meth
      simp [-Int.natCast_add,-w46_116,-BitVec.toNat_or,-BitVec.toNat_ofInt,-BitVec.toNat_and,Zah b45,Zah b37,Zah b40,Za Zak,Zab ld3,Za Za0,Za Zal,Zac u23,Zad u23 bs3 rfl,Za1 u23 sz3,Zam u23 sz3,Zae Zbx,Zai Zck,Zag Zci,Zaf Zch,Za Zat,Zab Zbe,Zaa u23 sz3,Zae Zcj,Za Zas,Zab Zb2,Zaa u24 Zbn,Za Zay,Zab Zce,Zac u28,Zaa u28 Zcc,Za Za9,Za Zau,Za Zan,Zab Zbw,Zaa u41 Za5,Zae Zby,Zag Zb4,Zaf Za5,Za Zav,Za Zaz,Za Za2,Zab Zcr,Zaa u42 sz9,Zab ld9,Za Zaq,Zab Zb1,Zaa u31 Zbd,Za Zar,Za Zap,Zaw u4 .eql (Or.inl rfl),X0',e,htv,hlb,t0,t1,c1]
      exact Zcq (E:=[(13,.slice (some ⟨bo,0,none⟩) k k),(16,.int .i64 (3)),(17,.bool false)]) (meth m7 (3) false (mkH _ _ _ (3,false) (Zaj _) (by rw [hv,c0];simp [c1]) rfl (fun hvv=>by simp) (by omega))) ⟨by rfl,by rfl,by rfl,trivial⟩
    ·intro meth
     simp [-Int.natCast_add,-w46_116,-BitVec.toNat_or,-BitVec.toNat_ofInt,-BitVec.toNat_and,Zah b45,Zah b37,Zah b40,Za Zak,Zab ld3,Za Za0,Za Zal,Zac u23,Zad u23 bs3 rfl,Za1 u23 sz3,Zam u23 sz3,Zae Zbx,Zai Zck,Zag Zci,Zaf Zch,Za Zat,Zab Zbe,Zaa u23 sz3,Zae Zcj,Za Zas,Zab Zb2,Zaa u24 Zbn,Za Zay,Zab Zce,Zac u28,Zaa u28 Zcc,Za Za9,Za Zau,Za Zan,Zab Zbw,Zaa u41 Za5,Zae Zby,Zag Zb4,Zaf Za5,Za Zav,Za Zaz,Za Za2,Zab Zcr,Zaa u42 sz9,Zab ld9,Za Zaq,Zab Zb1,Zaa u31 Zbd,Za Zar,Za Zap,Zaw u4 .eql (Or.inl rfl),X0',e,htv,hlb,t0,t1,c0]
     exact Zcq (E:=[(13,.slice (some ⟨bo,0,none⟩) k k),(16,.int .i64 (3)),(17,.bool false)]) (meth m7 (3) false (mkH _ _ _ (3,false) (Zaj _) (by rw [hv];simp [c0]) rfl (fun hvv=>by simp) (by omega))) ⟨by rfl,by rfl,by rfl,trivial⟩
  by_cases d22:op=22∨op=23∨op=24∨op=25
  ·rcases d22 with e | e | e | e
   all_goals
    have X0':=X0
    rw [e] at X0'
    have htv:tn=2:=by have:=htn;rw [e] at this;simp [Zcp,Zba] at this;omega
    have hv:Za6 p f (op,a,b) Dd=(2,decide (Dd.getD 0 0=3) && decide (Dd.getD 1 0=3)):=by rw [e];simp [Za6,Z24 (l:=Dd) (by omega),Bool.decide_and]
    obtain⟨lb,of,hlb,_,_⟩:=hlo7.load (by intro e;rw [e] at hdl;simp at hdl;omega)
    rw [hlb] at hlo7
    have t0:=hlo7.at_ (i:=0) (by omega) _ (Zaj _)
    have t1:=hlo7.at_ (i:=1) (by omega) _ (Zaj _)
    simp only [Nat.add_zero] at t0
    generalize Dd.getD 0 0=u0 at t0 hv
    generalize Dd.getD 1 0=u1 at t1 hv
    by_cases c0:u0=3
    ·by_cases c1:u1=3
     ·rw [c0] at t0
      rw [c1] at t1
      intro meth
      simp [-Int.natCast_add,-w46_116,-BitVec.toNat_or,-BitVec.toNat_ofInt,-BitVec.toNat_and,Zah b45,Zah b37,Zah b40,Za Zak,Zab ld3,Za Za0,Za Zal,Zac u23,Zad u23 bs3 rfl,Za1 u23 sz3,Zam u23 sz3,Zae Zbx,Zai Zck,Zag Zci,Zaf Zch,Za Zat,Zab Zbe,Zaa u23 sz3,Zae Zcj,Za Zas,Zab Zb2,Zaa u24 Zbn,Za Zay,Zab Zce,Zac u28,Zaa u28 Zcc,Za Za9,Za Zau,Za Zan,Zab Zbw,Zaa u41 Za5,Zae Zby,Zag Zb4,Zaf Za5,Za Zav,Za Zaz,Za Za2,Zab Zcr,Zaa u42 sz9,Zab ld9,Za Zaq,Zab Zb1,Zaa u31 Zbd,Za Zar,Za Zap,Zaw u4 .eql (Or.inl rfl),X0',e,htv,hlb,t0,t1]
      exact Zcq (E:=[(13,.slice (some ⟨bo,0,none⟩) k k),(16,.int .i64 (2)),(17,.bool true)]) (meth m7 (2) true (mkH _ _ _ (2,true) (Zaj _) (by rw [hv,c0,c1];simp) rfl (fun hvv=>by simp) (by omega))) ⟨by rfl,by rfl,by rfl,trivial⟩
     ·rw [c0] at t0
      intro meth
      simp [-Int.natCast_add,-w46_116,-BitVec.toNat_or,-BitVec.toNat_ofInt,-BitVec.toNat_and,Zah b45,Zah b37,Zah b40,Za Zak,Zab ld3,Za Za0,Za Zal,Zac u23,Zad u23 bs3 rfl,Za1 u23 sz3,Zam u23 sz3,Zae Zbx,Zai Zck,Zag Zci,Zaf Zch,Za Zat,Zab Zbe,Zaa u23 sz3,Zae Zcj,Za Zas,Zab Zb2,Zaa u24 Zbn,Za Zay,Zab Zce,Zac u28,Zaa u28 Zcc,Za Za9,Za Zau,Za Zan,Zab Zbw,Zaa u41 Za5,Zae Zby,Zag Zb4,Zaf Za5,Za Zav,Za Zaz,Za Za2,Zab Zcr,Zaa u42 sz9,Zab ld9,Za Zaq,Zab Zb1,Zaa u31 Zbd,Za Zar,Za Zap,Zaw u4 .eql (Or.inl rfl),X0',e,htv,hlb,t0,t1,c1]
      exact Zcq (E:=[(13,.slice (some ⟨bo,0,none⟩) k k),(16,.int .i64 (2)),(17,.bool false)]) (meth m7 (2) false (mkH _ _ _ (2,false) (Zaj _) (by rw [hv,c0];simp [c1]) rfl (fun hvv=>by simp) (by omega))) ⟨by rfl,by rfl,by rfl,trivial⟩
    ·intro meth
     simp [-Int.natCast_add,-w46_116,-BitVec.toNat_or,-BitVec.toNat_ofInt,-BitVec.toNat_and,Zah b45,Zah b37,Zah b40,Za Zak,Zab ld3,Za Za0,Za Zal,Zac u23,Zad u23 bs3 rfl,Za1 u23 sz3,Zam u23 sz3,Zae Zbx,Zai Zck,Zag Zci,Zaf Zch,Za Zat,Zab Zbe,Zaa u23 sz3,Zae Zcj,Za Zas,Zab Zb2,Zaa u24 Zbn,Za Zay,Zab Zce,Zac u28,Zaa u28 Zcc,Za Za9,Za Zau,Za Zan,Zab Zbw,Zaa u41 Za5,Zae Zby,Zag Zb4,Zaf Za5,Za Zav,Za Zaz,Za Za2,Zab Zcr,Zaa u42 sz9,Zab ld9,Za Zaq,Zab Zb1,Zaa u31 Zbd,Za Zar,Za Zap,Zaw u4 .eql (Or.inl rfl),X0',e,htv,hlb,t0,t1,c0]
     exact Zcq (E:=[(13,.slice (some ⟨bo,0,none⟩) k k),(16,.int .i64 (2)),(17,.bool false)]) (meth m7 (2) false (mkH _ _ _ (2,false) (Zaj _) (by rw [hv];simp [c0]) rfl (fun hvv=>by simp) (by omega))) ⟨by rfl,by rfl,by rfl,trivial⟩
  by_cases d32:op=32
  ·have e:=d32
   all_goals
    have X0':=X0
    rw [e] at X0'
    have htv:tn=2:=by have:=htn;rw [e] at this;simp [Zcp,Zba] at this;omega
    have hv:Za6 p f (op,a,b) Dd=(1,decide (Dd.getD 0 0=3) && decide (Dd.getD 1 0=1)):=by rw [e];simp [Za6,Z24 (l:=Dd) (by omega),Bool.decide_and]
    obtain⟨lb,of,hlb,_,_⟩:=hlo7.load (by intro e;rw [e] at hdl;simp at hdl;omega)
    rw [hlb] at hlo7
    have t0:=hlo7.at_ (i:=0) (by omega) _ (Zaj _)
    have t1:=hlo7.at_ (i:=1) (by omega) _ (Zaj _)
    simp only [Nat.add_zero] at t0
    generalize Dd.getD 0 0=u0 at t0 hv
    generalize Dd.getD 1 0=u1 at t1 hv
    by_cases c0:u0=3
    ·by_cases c1:u1=1
     ·rw [c0] at t0
      rw [c1] at t1
      intro meth
      simp [-Int.natCast_add,-w46_116,-BitVec.toNat_or,-BitVec.toNat_ofInt,-BitVec.toNat_and,Zah b45,Zah b37,Zah b40,Za Zak,Zab ld3,Za Za0,Za Zal,Zac u23,Zad u23 bs3 rfl,Za1 u23 sz3,Zam u23 sz3,Zae Zbx,Zai Zck,Zag Zci,Zaf Zch,Za Zat,Zab Zbe,Zaa u23 sz3,Zae Zcj,Za Zas,Zab Zb2,Zaa u24 Zbn,Za Zay,Zab Zce,Zac u28,Zaa u28 Zcc,Za Za9,Za Zau,Za Zan,Zab Zbw,Zaa u41 Za5,Zae Zby,Zag Zb4,Zaf Za5,Za Zav,Za Zaz,Za Za2,Zab Zcr,Zaa u42 sz9,Zab ld9,Za Zaq,Zab Zb1,Zaa u31 Zbd,Za Zar,Za Zap,Zaw u4 .eql (Or.inl rfl),X0',e,htv,hlb,t0,t1]
      exact Zcq (E:=[(13,.slice (some ⟨bo,0,none⟩) k k),(16,.int .i64 (1)),(17,.bool true)]) (meth m7 (1) true (mkH _ _ _ (1,true) (Zaj _) (by rw [hv,c0,c1];simp) rfl (fun hvv=>by simp) (by omega))) ⟨by rfl,by rfl,by rfl,trivial⟩
     ·rw [c0] at t0
      intro meth
      simp [-Int.natCast_add,-w46_116,-BitVec.toNat_or,-BitVec.toNat_ofInt,-BitVec.toNat_and,Zah b45,Zah b37,Zah b40,Za Zak,Zab ld3,Za Za0,Za Zal,Zac u23,Zad u23 bs3 rfl,Za1 u23 sz3,Zam u23 sz3,Zae Zbx,Zai Zck,Zag Zci,Zaf Zch,Za Zat,Zab Zbe,Zaa u23 sz3,Zae Zcj,Za Zas,Zab Zb2,Zaa u24 Zbn,Za Zay,Zab Zce,Zac u28,Zaa u28 Zcc,Za Za9,Za Zau,Za Zan,Zab Zbw,Zaa u41 Za5,Zae Zby,Zag Zb4,Zaf Za5,Za Zav,Za Zaz,Za Za2,Zab Zcr,Zaa u42 sz9,Zab ld9,Za Zaq,Zab Zb1,Zaa u31 Zbd,Za Zar,Za Zap,Zaw u4 .eql (Or.inl rfl),X0',e,htv,hlb,t0,t1,c1]
      exact Zcq (E:=[(13,.slice (some ⟨bo,0,none⟩) k k),(16,.int .i64 (1)),(17,.bool false)]) (meth m7 (1) false (mkH _ _ _ (1,false) (Zaj _) (by rw [hv,c0];simp [c1]) rfl (fun hvv=>by simp) (by omega))) ⟨by rfl,by rfl,by rfl,trivial⟩
    ·intro meth
     simp [-Int.natCast_add,-w46_116,-BitVec.toNat_or,-BitVec.toNat_ofInt,-BitVec.toNat_and,Zah b45,Zah b37,Zah b40,Za Zak,Zab ld3,Za Za0,Za Zal,Zac u23,Zad u23 bs3 rfl,Za1 u23 sz3,Zam u23 sz3,Zae Zbx,Zai Zck,Zag Zci,Zaf Zch,Za Zat,Zab Zbe,Zaa u23 sz3,Zae Zcj,Za Zas,Zab Zb2,Zaa u24 Zbn,Za Zay,Zab Zce,Zac u28,Zaa u28 Zcc,Za Za9,Za Zau,Za Zan,Zab Zbw,Zaa u41 Za5,Zae Zby,Zag Zb4,Zaf Za5,Za Zav,Za Zaz,Za Za2,Zab Zcr,Zaa u42 sz9,Zab ld9,Za Zaq,Zab Zb1,Zaa u31 Zbd,Za Zar,Za Zap,Zaw u4 .eql (Or.inl rfl),X0',e,htv,hlb,t0,t1,c0]
     exact Zcq (E:=[(13,.slice (some ⟨bo,0,none⟩) k k),(16,.int .i64 (1)),(17,.bool false)]) (meth m7 (1) false (mkH _ _ _ (1,false) (Zaj _) (by rw [hv];simp [c0]) rfl (fun hvv=>by simp) (by omega))) ⟨by rfl,by rfl,by rfl,trivial⟩
  by_cases d13:op=13
  ·have e:=d13
   have X0':=X0
   rw [e] at X0'
   have htv:tn=1:=by have:=htn;rw [e] at this;simp [Zcp,Zba] at this;omega
   have hv:Za6 p f (op,a,b) Dd=(1,decide (Dd.getD 0 0=1)):=by rw [e];simp [Za6,Z4m (l:=Dd) (by omega)]
   obtain⟨lb,of,hlb,_,_⟩:=hlo7.load (by intro e;rw [e] at hdl;simp at hdl;omega)
   rw [hlb] at hlo7
   have t0:=hlo7.at_ (i:=0) (by omega) _ (Zaj _)
   simp only [Nat.add_zero] at t0
   generalize Dd.getD 0 0=u0 at t0 hv
   by_cases c0:u0=1
   ·rw [c0] at t0
    intro meth
    simp [-Int.natCast_add,-w46_116,-BitVec.toNat_or,-BitVec.toNat_ofInt,-BitVec.toNat_and,Zah b45,Zah b37,Zah b40,Za Zak,Zab ld3,Za Za0,Za Zal,Zac u23,Zad u23 bs3 rfl,Za1 u23 sz3,Zam u23 sz3,Zae Zbx,Zai Zck,Zag Zci,Zaf Zch,Za Zat,Zab Zbe,Zaa u23 sz3,Zae Zcj,Za Zas,Zab Zb2,Zaa u24 Zbn,Za Zay,Zab Zce,Zac u28,Zaa u28 Zcc,Za Za9,Za Zau,Za Zan,Zab Zbw,Zaa u41 Za5,Zae Zby,Zag Zb4,Zaf Za5,Za Zav,Za Zaz,Za Za2,Zab Zcr,Zaa u42 sz9,Zab ld9,Za Zaq,Zab Zb1,Zaa u31 Zbd,Za Zar,Za Zap,Zaw u4 .eql (Or.inl rfl),X0',e,htv,hlb,t0]
    exact Zcq (E:=[(13,.slice (some ⟨bo,0,none⟩) k k),(16,.int .i64 (1)),(17,.bool true)]) (meth m7 (1) true (mkH _ _ _ (1,true) (Zaj _) (by rw [hv,c0];simp) rfl (fun hvv=>by simp) (by omega))) ⟨by rfl,by rfl,by rfl,trivial⟩
   ·intro meth
    simp [-Int.natCast_add,-w46_116,-BitVec.toNat_or,-BitVec.toNat_ofInt,-BitVec.toNat_and,Zah b45,Zah b37,Zah b40,Za Zak,Zab ld3,Za Za0,Za Zal,Zac u23,Zad u23 bs3 rfl,Za1 u23 sz3,Zam u23 sz3,Zae Zbx,Zai Zck,Zag Zci,Zaf Zch,Za Zat,Zab Zbe,Zaa u23 sz3,Zae Zcj,Za Zas,Zab Zb2,Zaa u24 Zbn,Za Zay,Zab Zce,Zac u28,Zaa u28 Zcc,Za Za9,Za Zau,Za Zan,Zab Zbw,Zaa u41 Za5,Zae Zby,Zag Zb4,Zaf Za5,Za Zav,Za Zaz,Za Za2,Zab Zcr,Zaa u42 sz9,Zab ld9,Za Zaq,Zab Zb1,Zaa u31 Zbd,Za Zar,Za Zap,Zaw u4 .eql (Or.inl rfl),X0',e,htv,hlb,t0,c0]
    exact Zcq (E:=[(13,.slice (some ⟨bo,0,none⟩) k k),(16,.int .i64 (1)),(17,.bool false)]) (meth m7 (1) false (mkH _ _ _ (1,false) (Zaj _) (by rw [hv];simp [c0]) rfl (fun hvv=>by simp) (by omega))) ⟨by rfl,by rfl,by rfl,trivial⟩
  by_cases d14:op=14
  ·have e:=d14
   have X0':=X0
   rw [e] at X0'
   have htv:tn=1:=by have:=htn;rw [e] at this;simp [Zcp,Zba] at this;omega
   have hv:Za6 p f (op,a,b) Dd=(2,decide (Dd.getD 0 0=2)):=by rw [e];simp [Za6,Z4m (l:=Dd) (by omega)]
   obtain⟨lb,of,hlb,_,_⟩:=hlo7.load (by intro e;rw [e] at hdl;simp at hdl;omega)
   rw [hlb] at hlo7
   have t0:=hlo7.at_ (i:=0) (by omega) _ (Zaj _)
   simp only [Nat.add_zero] at t0
   generalize Dd.getD 0 0=u0 at t0 hv
   by_cases c0:u0=2
   ·rw [c0] at t0
    intro meth
    simp [-Int.natCast_add,-w46_116,-BitVec.toNat_or,-BitVec.toNat_ofInt,-BitVec.toNat_and,Zah b45,Zah b37,Zah b40,Za Zak,Zab ld3,Za Za0,Za Zal,Zac u23,Zad u23 bs3 rfl,Za1 u23 sz3,Zam u23 sz3,Zae Zbx,Zai Zck,Zag Zci,Zaf Zch,Za Zat,Zab Zbe,Zaa u23 sz3,Zae Zcj,Za Zas,Zab Zb2,Zaa u24 Zbn,Za Zay,Zab Zce,Zac u28,Zaa u28 Zcc,Za Za9,Za Zau,Za Zan,Zab Zbw,Zaa u41 Za5,Zae Zby,Zag Zb4,Zaf Za5,Za Zav,Za Zaz,Za Za2,Zab Zcr,Zaa u42 sz9,Zab ld9,Za Zaq,Zab Zb1,Zaa u31 Zbd,Za Zar,Za Zap,Zaw u4 .eql (Or.inl rfl),X0',e,htv,hlb,t0]
    exact Zcq (E:=[(13,.slice (some ⟨bo,0,none⟩) k k),(16,.int .i64 (2)),(17,.bool true)]) (meth m7 (2) true (mkH _ _ _ (2,true) (Zaj _) (by rw [hv,c0];simp) rfl (fun hvv=>by simp) (by omega))) ⟨by rfl,by rfl,by rfl,trivial⟩
   ·intro meth
    simp [-Int.natCast_add,-w46_116,-BitVec.toNat_or,-BitVec.toNat_ofInt,-BitVec.toNat_and,Zah b45,Zah b37,Zah b40,Za Zak,Zab ld3,Za Za0,Za Zal,Zac u23,Zad u23 bs3 rfl,Za1 u23 sz3,Zam u23 sz3,Zae Zbx,Zai Zck,Zag Zci,Zaf Zch,Za Zat,Zab Zbe,Zaa u23 sz3,Zae Zcj,Za Zas,Zab Zb2,Zaa u24 Zbn,Za Zay,Zab Zce,Zac u28,Zaa u28 Zcc,Za Za9,Za Zau,Za Zan,Zab Zbw,Zaa u41 Za5,Zae Zby,Zag Zb4,Zaf Za5,Za Zav,Za Zaz,Za Za2,Zab Zcr,Zaa u42 sz9,Zab ld9,Za Zaq,Zab Zb1,Zaa u31 Zbd,Za Zar,Za Zap,Zaw u4 .eql (Or.inl rfl),X0',e,htv,hlb,t0,c0]
    exact Zcq (E:=[(13,.slice (some ⟨bo,0,none⟩) k k),(16,.int .i64 (2)),(17,.bool false)]) (meth m7 (2) false (mkH _ _ _ (2,false) (Zaj _) (by rw [hv];simp [c0]) rfl (fun hvv=>by simp) (by omega))) ⟨by rfl,by rfl,by rfl,trivial⟩
  by_cases d27:op=27
  ·have e:=d27
   have X0':=X0
   rw [e] at X0'
   have htv:tn=1:=by have:=htn;rw [e] at this;simp [Zcp,Zba] at this;omega
   have hv:Za6 p f (op,a,b) Dd=(0,decide (Dd.getD 0 0=2)):=by rw [e];simp [Za6,Z4m (l:=Dd) (by omega)]
   obtain⟨lb,of,hlb,_,_⟩:=hlo7.load (by intro e;rw [e] at hdl;simp at hdl;omega)
   rw [hlb] at hlo7
   have t0:=hlo7.at_ (i:=0) (by omega) _ (Zaj _)
   simp only [Nat.add_zero] at t0
   generalize Dd.getD 0 0=u0 at t0 hv
   by_cases c0:u0=2
   ·rw [c0] at t0
    intro meth
    simp [-Int.natCast_add,-w46_116,-BitVec.toNat_or,-BitVec.toNat_ofInt,-BitVec.toNat_and,Zah b45,Zah b37,Zah b40,Za Zak,Zab ld3,Za Za0,Za Zal,Zac u23,Zad u23 bs3 rfl,Za1 u23 sz3,Zam u23 sz3,Zae Zbx,Zai Zck,Zag Zci,Zaf Zch,Za Zat,Zab Zbe,Zaa u23 sz3,Zae Zcj,Za Zas,Zab Zb2,Zaa u24 Zbn,Za Zay,Zab Zce,Zac u28,Zaa u28 Zcc,Za Za9,Za Zau,Za Zan,Zab Zbw,Zaa u41 Za5,Zae Zby,Zag Zb4,Zaf Za5,Za Zav,Za Zaz,Za Za2,Zab Zcr,Zaa u42 sz9,Zab ld9,Za Zaq,Zab Zb1,Zaa u31 Zbd,Za Zar,Za Zap,Zaw u4 .eql (Or.inl rfl),X0',e,htv,hlb,t0]
    exact Zcq (E:=[(13,.slice (some ⟨bo,0,none⟩) k k),(16,.int .i64 (-1)),(17,.bool true)]) (meth m7 (-1) true (mkH _ _ _ (0,true) (Zaj _) (by rw [hv,c0];simp) rfl (fun hvv=>by simp) (by omega))) ⟨by rfl,by rfl,by rfl,trivial⟩
   ·intro meth
    simp [-Int.natCast_add,-w46_116,-BitVec.toNat_or,-BitVec.toNat_ofInt,-BitVec.toNat_and,Zah b45,Zah b37,Zah b40,Za Zak,Zab ld3,Za Za0,Za Zal,Zac u23,Zad u23 bs3 rfl,Za1 u23 sz3,Zam u23 sz3,Zae Zbx,Zai Zck,Zag Zci,Zaf Zch,Za Zat,Zab Zbe,Zaa u23 sz3,Zae Zcj,Za Zas,Zab Zb2,Zaa u24 Zbn,Za Zay,Zab Zce,Zac u28,Zaa u28 Zcc,Za Za9,Za Zau,Za Zan,Zab Zbw,Zaa u41 Za5,Zae Zby,Zag Zb4,Zaf Za5,Za Zav,Za Zaz,Za Za2,Zab Zcr,Zaa u42 sz9,Zab ld9,Za Zaq,Zab Zb1,Zaa u31 Zbd,Za Zar,Za Zap,Zaw u4 .eql (Or.inl rfl),X0',e,htv,hlb,t0,c0]
    exact Zcq (E:=[(13,.slice (some ⟨bo,0,none⟩) k k),(16,.int .i64 (-1)),(17,.bool false)]) (meth m7 (-1) false (mkH _ _ _ (0,false) (Zaj _) (by rw [hv];simp [c0]) rfl (fun hvv=>by simp) (by omega))) ⟨by rfl,by rfl,by rfl,trivial⟩
  by_cases d39:op=39
  ·have e:=d39
   have X0':=X0
   rw [e] at X0'
   have htv:tn=1:=by have:=htn;rw [e] at this;simp [Zcp,Zba] at this;omega
   have hv:Za6 p f (op,a,b) Dd=(0,decide (Dd.getD 0 0=a)):=by rw [e];simp [Za6,Z4m (l:=Dd) (by omega)]
   have hva:=trivial
   obtain⟨lb,of,hlb,_,_⟩:=hlo7.load (by intro e;rw [e] at hdl;simp at hdl;omega)
   rw [hlb] at hlo7
   have t0:=hlo7.at_ (i:=0) (by omega) _ (Zaj _)
   simp only [Nat.add_zero] at t0
   generalize Dd.getD 0 0=u0 at t0 hv
   by_cases c0:u0=a
   ·rw [c0] at t0
    intro meth
    simp [-Int.natCast_add,-w46_116,-BitVec.toNat_or,-BitVec.toNat_ofInt,-BitVec.toNat_and,Zah b45,Zah b37,Zah b40,Za Zak,Zab ld3,Za Za0,Za Zal,Zac u23,Zad u23 bs3 rfl,Za1 u23 sz3,Zam u23 sz3,Zae Zbx,Zai Zck,Zag Zci,Zaf Zch,Za Zat,Zab Zbe,Zaa u23 sz3,Zae Zcj,Za Zas,Zab Zb2,Zaa u24 Zbn,Za Zay,Zab Zce,Zac u28,Zaa u28 Zcc,Za Za9,Za Zau,Za Zan,Zab Zbw,Zaa u41 Za5,Zae Zby,Zag Zb4,Zaf Za5,Za Zav,Za Zaz,Za Za2,Zab Zcr,Zaa u42 sz9,Zab ld9,Za Zaq,Zab Zb1,Zaa u31 Zbd,Za Zar,Za Zap,Zaw u4 .eql (Or.inl rfl),X0',e,htv,hlb,t0,X1]
    exact Zcq (E:=[(13,.slice (some ⟨bo,0,none⟩) k k),(16,.int .i64 (-1)),(17,.bool true)]) (meth m7 (-1) true (mkH _ _ _ (0,true) (Zaj _) (by rw [hv,c0];simp) rfl (fun hvv=>by simp [hva]) (by omega))) ⟨by rfl,by rfl,by rfl,trivial⟩
   ·intro meth
    simp [-Int.natCast_add,-w46_116,-BitVec.toNat_or,-BitVec.toNat_ofInt,-BitVec.toNat_and,Zah b45,Zah b37,Zah b40,Za Zak,Zab ld3,Za Za0,Za Zal,Zac u23,Zad u23 bs3 rfl,Za1 u23 sz3,Zam u23 sz3,Zae Zbx,Zai Zck,Zag Zci,Zaf Zch,Za Zat,Zab Zbe,Zaa u23 sz3,Zae Zcj,Za Zas,Zab Zb2,Zaa u24 Zbn,Za Zay,Zab Zce,Zac u28,Zaa u28 Zcc,Za Za9,Za Zau,Za Zan,Zab Zbw,Zaa u41 Za5,Zae Zby,Zag Zb4,Zaf Za5,Za Zav,Za Zaz,Za Za2,Zab Zcr,Zaa u42 sz9,Zab ld9,Za Zaq,Zab Zb1,Zaa u31 Zbd,Za Zar,Za Zap,Zaw u4 .eql (Or.inl rfl),X0',e,htv,hlb,t0,c0,X1]
    exact Zcq (E:=[(13,.slice (some ⟨bo,0,none⟩) k k),(16,.int .i64 (-1)),(17,.bool false)]) (meth m7 (-1) false (mkH _ _ _ (0,false) (Zaj _) (by rw [hv];simp [c0]) rfl (fun hvv=>by simp [hva]) (by omega))) ⟨by rfl,by rfl,by rfl,trivial⟩
  by_cases d35:op=35
  ·have e:=d35
   have X0':=X0
   rw [e] at X0'
   have htv:tn=1:=by have:=htn;rw [e] at this;simp [Zcp,Zba] at this;omega
   have hv:Za6 p f (op,a,b) Dd=(a,decide (Dd.getD 0 0=1)):=by rw [e];simp [Za6,Z4m (l:=Dd) (by omega)]
   have hva:¬ a=0:=hnz35 e
   obtain⟨lb,of,hlb,_,_⟩:=hlo7.load (by intro e;rw [e] at hdl;simp at hdl;omega)
   rw [hlb] at hlo7
   have t0:=hlo7.at_ (i:=0) (by omega) _ (Zaj _)
   simp only [Nat.add_zero] at t0
   generalize Dd.getD 0 0=u0 at t0 hv
   by_cases c0:u0=1
   ·rw [c0] at t0
    intro meth
    simp [-Int.natCast_add,-w46_116,-BitVec.toNat_or,-BitVec.toNat_ofInt,-BitVec.toNat_and,Zah b45,Zah b37,Zah b40,Za Zak,Zab ld3,Za Za0,Za Zal,Zac u23,Zad u23 bs3 rfl,Za1 u23 sz3,Zam u23 sz3,Zae Zbx,Zai Zck,Zag Zci,Zaf Zch,Za Zat,Zab Zbe,Zaa u23 sz3,Zae Zcj,Za Zas,Zab Zb2,Zaa u24 Zbn,Za Zay,Zab Zce,Zac u28,Zaa u28 Zcc,Za Za9,Za Zau,Za Zan,Zab Zbw,Zaa u41 Za5,Zae Zby,Zag Zb4,Zaf Za5,Za Zav,Za Zaz,Za Za2,Zab Zcr,Zaa u42 sz9,Zab ld9,Za Zaq,Zab Zb1,Zaa u31 Zbd,Za Zar,Za Zap,Zaw u4 .eql (Or.inl rfl),X0',e,htv,hlb,t0,X1]
    exact Zcq (E:=[(13,.slice (some ⟨bo,0,none⟩) k k),(16,.int .i64 (a)),(17,.bool true)]) (meth m7 (a) true (mkH _ _ _ (a,true) (Zaj _) (by rw [hv,c0];simp) rfl (fun hvv=>by simp [hva]) (by omega))) ⟨by rfl,by rfl,by rfl,trivial⟩
   ·intro meth
    simp [-Int.natCast_add,-w46_116,-BitVec.toNat_or,-BitVec.toNat_ofInt,-BitVec.toNat_and,Zah b45,Zah b37,Zah b40,Za Zak,Zab ld3,Za Za0,Za Zal,Zac u23,Zad u23 bs3 rfl,Za1 u23 sz3,Zam u23 sz3,Zae Zbx,Zai Zck,Zag Zci,Zaf Zch,Za Zat,Zab Zbe,Zaa u23 sz3,Zae Zcj,Za Zas,Zab Zb2,Zaa u24 Zbn,Za Zay,Zab Zce,Zac u28,Zaa u28 Zcc,Za Za9,Za Zau,Za Zan,Zab Zbw,Zaa u41 Za5,Zae Zby,Zag Zb4,Zaf Za5,Za Zav,Za Zaz,Za Za2,Zab Zcr,Zaa u42 sz9,Zab ld9,Za Zaq,Zab Zb1,Zaa u31 Zbd,Za Zar,Za Zap,Zaw u4 .eql (Or.inl rfl),X0',e,htv,hlb,t0,c0,X1]
    exact Zcq (E:=[(13,.slice (some ⟨bo,0,none⟩) k k),(16,.int .i64 (a)),(17,.bool false)]) (meth m7 (a) false (mkH _ _ _ (a,false) (Zaj _) (by rw [hv];simp [c0]) rfl (fun hvv=>by simp [hva]) (by omega))) ⟨by rfl,by rfl,by rfl,trivial⟩
  by_cases d15:op=15∨op=16
  ·have htv:tn=2:=by have:=htn;rcases d15 with e | e <;> (rw [e] at this;simp [Zcp,Zba] at this;omega)
   have hv:Za6 p f (op,a,b) Dd=(2,eqI p.L (Dd.getD 0 0) (Dd.getD 1 0)):=by rcases d15 with e | e <;> (rw [e];simp [Za6])
   have v0:=hDv _ (List.getElem_mem (show 0 < Dd.length by omega))
   have v1:=hDv _ (List.getElem_mem (show 1 < Dd.length by omega))
   rw [← gd] at v0 v1
   obtain⟨m8,h8,k8⟩:=Zy0 (m:=m7) (q:=q) hN hR hp7 v0 v1
   obtain⟨lb,of,hlb,_,_⟩:=hlo7.load (by intro e;rw [e] at hdl;simp at hdl;omega)
   rw [hlb] at hlo7
   have t0:=hlo7.at_ (i:=0) (by omega) _ (Zaj _)
   have t1:=hlo7.at_ (i:=1) (by omega) _ (Zaj _)
   simp only [Nat.add_zero] at t0
   generalize eqI p.L (Dd.getD 0 0) (Dd.getD 1 0)=fb at hv h8
   generalize Dd.getD 0 0=u0 at t0 h8
   generalize Dd.getD 1 0=u1 at t1 h8
   simp only [Pr.row] at h8
   rcases d15 with e | e
   all_goals
    have X0':=X0
    rw [e] at X0'
    intro meth
    simp [-Int.natCast_add,-w46_116,-BitVec.toNat_or,-BitVec.toNat_ofInt,-BitVec.toNat_and,Zah b45,Zah b37,Zah b40,Za Zak,Zab ld3,Za Za0,Za Zal,Zac u23,Zad u23 bs3 rfl,Za1 u23 sz3,Zam u23 sz3,Zae Zbx,Zai Zck,Zag Zci,Zaf Zch,Za Zat,Zab Zbe,Zaa u23 sz3,Zae Zcj,Za Zas,Zab Zb2,Zaa u24 Zbn,Za Zay,Zab Zce,Zac u28,Zaa u28 Zcc,Za Za9,Za Zau,Za Zan,Zab Zbw,Zaa u41 Za5,Zae Zby,Zag Zb4,Zaf Za5,Za Zav,Za Zaz,Za Za2,Zab Zcr,Zaa u42 sz9,Zab ld9,Za Zaq,Zab Zb1,Zaa u31 Zbd,Za Zar,Za Zap,Zaw u4 .eql (Or.inl rfl),X0',e,htv,hlb,t0,t1,pl7,h8]
    exact Zcq (E:=[(13,.slice (some ⟨bo,0,none⟩) k k),(16,.int .i64 (2)),(17,.bool fb)]) (meth m8 (2) fb (mkH _ _ _ (2,fb) (k8) (hv) rfl (fun hvv=>by simp) (by omega))) ⟨by rfl,by rfl,by rfl,trivial⟩
  by_cases d33:op=33
  ·have e:=d33
   have X0':=X0
   rw [e] at X0'
   have htv:tn=1:=by have:=htn;rw [e] at this;simp [Zcp,Zba] at this;omega
   have hpt:0 < tn:=by omega
   have hv:Za6 p f (op,a,b) Dd=(1,decide (Zdy p.L (Dd.getD 0 0)=6∨Dd.getD 0 0=3)):=by rw [e];simp [Za6]
   obtain⟨lb,of,hlb,_,_⟩:=hlo7.load (by intro e;rw [e] at hdl;simp at hdl;omega)
   obtain⟨m8,h8,k8⟩:=kindH _ hlb m7 (Zaj _) (by omega)
   rw [hlb] at hlo7
   have t0:=hlo7.at_ (i:=0) (by omega) _ (Zaj _)
   have t08:=hlo7.at_ (i:=0) (by omega) _ k8
   simp only [Nat.add_zero] at t0 t08
   generalize Zdy p.L (Dd.getD 0 0)=kk at h8 hv
   generalize Dd.getD 0 0=u0 at t0 t08 hv
   by_cases c6:kk=6
   ·rw [c6] at h8
    intro meth
    simp [-Int.natCast_add,-w46_116,-BitVec.toNat_or,-BitVec.toNat_ofInt,-BitVec.toNat_and,Zah b45,Zah b37,Zah b40,Za Zak,Zab ld3,Za Za0,Za Zal,Zac u23,Zad u23 bs3 rfl,Za1 u23 sz3,Zam u23 sz3,Zae Zbx,Zai Zck,Zag Zci,Zaf Zch,Za Zat,Zab Zbe,Zaa u23 sz3,Zae Zcj,Za Zas,Zab Zb2,Zaa u24 Zbn,Za Zay,Zab Zce,Zac u28,Zaa u28 Zcc,Za Za9,Za Zau,Za Zan,Zab Zbw,Zaa u41 Za5,Zae Zby,Zag Zb4,Zaf Za5,Za Zav,Za Zaz,Za Za2,Zab Zcr,Zaa u42 sz9,Zab ld9,Za Zaq,Zab Zb1,Zaa u31 Zbd,Za Zar,Za Zap,Zaw u4 .eql (Or.inl rfl),X0',e,hpt,hlb,tkl,h8,t0,t08]
    exact Zcq (E:=[(13,.slice (some ⟨bo,0,none⟩) k k),(16,.int .i64 (1)),(17,.bool true)]) (meth m8 (1) true (mkH _ _ _ (1,true) (k8) (by rw [hv];simp [c6]) rfl (fun hvv=>by simp) (by omega))) ⟨by rfl,by rfl,by rfl,trivial⟩
   ·by_cases c3:u0=3
    ·rw [c3] at t08
     intro meth
     simp [-Int.natCast_add,-w46_116,-BitVec.toNat_or,-BitVec.toNat_ofInt,-BitVec.toNat_and,Zah b45,Zah b37,Zah b40,Za Zak,Zab ld3,Za Za0,Za Zal,Zac u23,Zad u23 bs3 rfl,Za1 u23 sz3,Zam u23 sz3,Zae Zbx,Zai Zck,Zag Zci,Zaf Zch,Za Zat,Zab Zbe,Zaa u23 sz3,Zae Zcj,Za Zas,Zab Zb2,Zaa u24 Zbn,Za Zay,Zab Zce,Zac u28,Zaa u28 Zcc,Za Za9,Za Zau,Za Zan,Zab Zbw,Zaa u41 Za5,Zae Zby,Zag Zb4,Zaf Za5,Za Zav,Za Zaz,Za Za2,Zab Zcr,Zaa u42 sz9,Zab ld9,Za Zaq,Zab Zb1,Zaa u31 Zbd,Za Zar,Za Zap,Zaw u4 .eql (Or.inl rfl),X0',e,hpt,hlb,tkl,h8,t08,c6]
     exact Zcq (E:=[(13,.slice (some ⟨bo,0,none⟩) k k),(16,.int .i64 (1)),(17,.bool true)]) (meth m8 (1) true (mkH _ _ _ (1,true) (k8) (by rw [hv];simp [c3]) rfl (fun hvv=>by simp) (by omega))) ⟨by rfl,by rfl,by rfl,trivial⟩
    ·intro meth
     simp [-Int.natCast_add,-w46_116,-BitVec.toNat_or,-BitVec.toNat_ofInt,-BitVec.toNat_and,Zah b45,Zah b37,Zah b40,Za Zak,Zab ld3,Za Za0,Za Zal,Zac u23,Zad u23 bs3 rfl,Za1 u23 sz3,Zam u23 sz3,Zae Zbx,Zai Zck,Zag Zci,Zaf Zch,Za Zat,Zab Zbe,Zaa u23 sz3,Zae Zcj,Za Zas,Zab Zb2,Zaa u24 Zbn,Za Zay,Zab Zce,Zac u28,Zaa u28 Zcc,Za Za9,Za Zau,Za Zan,Zab Zbw,Zaa u41 Za5,Zae Zby,Zag Zb4,Zaf Za5,Za Zav,Za Zaz,Za Za2,Zab Zcr,Zaa u42 sz9,Zab ld9,Za Zaq,Zab Zb1,Zaa u31 Zbd,Za Zar,Za Zap,Zaw u4 .eql (Or.inl rfl),X0',e,hpt,hlb,tkl,h8,t08,c6,c3]
     exact Zcq (E:=[(13,.slice (some ⟨bo,0,none⟩) k k),(16,.int .i64 (1)),(17,.bool false)]) (meth m8 (1) false (mkH _ _ _ (1,false) (k8) (by rw [hv];simp [c6,c3]) rfl (fun hvv=>by simp) (by omega))) ⟨by rfl,by rfl,by rfl,trivial⟩
  by_cases d28:op=28∨op=29
  ·have hpt:0 < tn:=by have:=htn;rcases d28 with e | e <;> (rw [e] at this;simp [Zcp,Zba] at this;omega)
   have hfb:=hfld d28
   obtain⟨ai,hai⟩:∃ j:Nat,a=j:=⟨a.toNat,by omega⟩
   obtain⟨lb,of,i,kk,hi,hlb,hd0,hki,hv0,t0f,hkf⟩:=first hpt
   obtain⟨m8,h8,k8⟩:=hkf m7 (Zaj _)
   have t0:=t0f _ (Zaj _)
   have hvF:Za6 p f (op,a,b) Dd=match (if kk=5 then ((tF p.L[i])[ai]?).map (fun y=>(show Int from y.2.1)) else none) with | none=>(0,false) | some t=>if op=29 then (0,Zhd p.L (Dd.drop 1) [t]) else (t,true):=by
    have e1:Zi7 p.L (i:Int) (ai:Int)=if kk=5 then (((tF p.L[i])[ai]?).map fun y=>(show Int from y.2.1)) else none:=by
     unfold Zi7;rw [Int.toNat_natCast,List.getElem?_eq_getElem hi];simp only [hki];rfl
    have e2:Za6 p f (op,a,b) Dd=Zdg p f (op,a,b) Dd:=by rcases d28 with e | e <;> (rw [e];simp [Za6])
    have e3:Zdg p f (op,a,b) Dd=match Zi7 p.L (Dd.getD 0 0) a with | none=>(0,false) | some t=>if op=29 then (0,Zhd p.L (Dd.drop 1) [t]) else (t,true):=by rcases d28 with e | e <;> (rw [e];simp only [Zdg];rfl)
    rw [e2,e3,hd0,hai,e1]
   have X08:=(o3.keep (k37.trans k8) (by simp)).load1 (off:=0) rfl
   have X18:=(o3.keep (k37.trans k8) (by simp)).load1 (off:=1) rfl
   have X28:=(o3.keep (k37.trans k8) (by simp)).load1 (off:=2) rfl
   have P08:=(o13.keep (k37.trans k8) (by simp)).load1 (off:=0) rfl
   have P18:=(o13.keep (k37.trans k8) (by simp)).load1 (off:=1) rfl
   have P38:=(o13.keep (k37.trans k8) (by simp)).load1 (off:=3) rfl
   have tk8:=(o7.keep k8 (by simp)).load (off:=0) 6 (by simp)
   simp [Zb] at tk8
   rw [hai] at X18
   by_cases c5:kk=5
   case neg =>
    have hv:Za6 p f (op,a,b) Dd=(0,false):=by rw [hvF,if_neg c5]
    rcases d28 with e | e
    all_goals
     have X0':=X0
     rw [e] at X0' X08
     intro meth
     simp [-Int.natCast_add,-w46_116,-BitVec.toNat_or,-BitVec.toNat_ofInt,-BitVec.toNat_and,Zah b45,Zah b37,Zah b40,Za Zak,Zab ld3,Za Za0,Za Zal,Zac u23,Zad u23 bs3 rfl,Za1 u23 sz3,Zam u23 sz3,Zae Zbx,Zai Zck,Zag Zci,Zaf Zch,Za Zat,Zab Zbe,Zaa u23 sz3,Zae Zcj,Za Zas,Zab Zb2,Zaa u24 Zbn,Za Zay,Zab Zce,Zac u28,Zaa u28 Zcc,Za Za9,Za Zau,Za Zan,Zab Zbw,Zaa u41 Za5,Zae Zby,Zag Zb4,Zaf Za5,Za Zav,Za Zaz,Za Za2,Zab Zcr,Zaa u42 sz9,Zab ld9,Za Zaq,Zab Zb1,Zaa u31 Zbd,Za Zar,Za Zap,Zaw u4 .eql (Or.inl rfl),X0',e,hpt,hlb,t0,tkl,h8,c5,X08]
     exact Zcq (E:=[(13,.slice (some ⟨bo,0,none⟩) k k),(16,.int .i64 (-1)),(17,.bool false)]) (meth m8 (-1) false (mkH _ _ _ (0,false) (k8) (hv) rfl (fun hvv=>by simp) (by omega))) ⟨by rfl,by rfl,by rfl,trivial⟩
   rw [c5] at h8 hki
   rw [if_pos c5] at hvF
   obtain⟨tb2,ao2,ff,bo2,het,ty⟩:=hp7.tb.ty hi
   rw [het] at P08
   have l3:=ty.l3 _ k8
   have hfs:=ty.fs
   have hfv:=fun j (hj:j < (tF p.L[i]).length)=>hR.fv hi hki hj
   have emi:(i:Int)≤9223372036854775807:=by omega
   have emj:(ai:Int)≤9223372036854775807:=by omega
   generalize tF p.L[i]=A at l3 hfs hfv hvF
   by_cases hj:ai < A.length
   case neg =>
    have hji:¬ (ai:Int) < (A.length:Int):=by omega
    have hv:Za6 p f (op,a,b) Dd=(0,false):=by rw [hvF,List.getElem?_eq_none (by omega)];rfl
    rcases d28 with e | e
    all_goals
     have X0':=X0
     rw [e] at X0' X08
     intro meth
     simp [-Int.natCast_add,-w46_116,-BitVec.toNat_or,-BitVec.toNat_ofInt,-BitVec.toNat_and,Zah b45,Zah b37,Zah b40,Za Zak,Zab ld3,Za Za0,Za Zal,Zac u23,Zad u23 bs3 rfl,Za1 u23 sz3,Zam u23 sz3,Zae Zbx,Zai Zck,Zag Zci,Zaf Zch,Za Zat,Zab Zbe,Zaa u23 sz3,Zae Zcj,Za Zas,Zab Zb2,Zaa u24 Zbn,Za Zay,Zab Zce,Zac u28,Zaa u28 Zcc,Za Za9,Za Zau,Za Zan,Zab Zbw,Zaa u41 Za5,Zae Zby,Zag Zb4,Zaf Za5,Za Zav,Za Zaz,Za Za2,Zab Zcr,Zaa u42 sz9,Zab ld9,Za Zaq,Zab Zb1,Zaa u31 Zbd,Za Zar,Za Zap,Zaw u4 .eql (Or.inl rfl),X0',e,hpt,hlb,t0,tkl,h8,X08,X18,P08,emi,hi,l3,hj,hji]
     exact Zcq (E:=[(13,.slice (some ⟨bo,0,none⟩) k k),(16,.int .i64 (-1)),(17,.bool false)]) (meth m8 (-1) false (mkH _ _ _ (0,false) (k8) (hv) rfl (fun hvv=>by simp) (by omega))) ⟨by rfl,by rfl,by rfl,trivial⟩
   have hji:(ai:Int) < (A.length:Int):=by omega
   obtain⟨fb2,hfb2,hld⟩:=Zik hfs hj
   have lf:=(hld _ k8).2
   have hvt:=hfv _ hj
   have hvG:Za6 p f (op,a,b) Dd=if op=29 then (0,Zhd p.L (Dd.drop 1) [(show Int from A[ai].2.1)]) else ((show Int from A[ai].2.1),true):=by rw [hvF,List.getElem?_eq_getElem hj];rfl
   obtain⟨y,hy⟩:∃ z:Int,A[ai].2.1=z:=⟨_,rfl⟩
   rw [hfb2] at l3
   simp only [hy] at lf hvt hvG
   have hyn:¬ y=0:=by have:=hvt.1;omega
   rcases d28 with e | e
   ·have X0':=X0
    rw [e] at X0' X08
    intro meth
    simp [-Int.natCast_add,-w46_116,-BitVec.toNat_or,-BitVec.toNat_ofInt,-BitVec.toNat_and,Zah b45,Zah b37,Zah b40,Za Zak,Zab ld3,Za Za0,Za Zal,Zac u23,Zad u23 bs3 rfl,Za1 u23 sz3,Zam u23 sz3,Zae Zbx,Zai Zck,Zag Zci,Zaf Zch,Za Zat,Zab Zbe,Zaa u23 sz3,Zae Zcj,Za Zas,Zab Zb2,Zaa u24 Zbn,Za Zay,Zab Zce,Zac u28,Zaa u28 Zcc,Za Za9,Za Zau,Za Zan,Zab Zbw,Zaa u41 Za5,Zae Zby,Zag Zb4,Zaf Za5,Za Zav,Za Zaz,Za Za2,Zab Zcr,Zaa u42 sz9,Zab ld9,Za Zaq,Zab Zb1,Zaa u31 Zbd,Za Zar,Za Zap,Zaw u4 .eql (Or.inl rfl),X0',e,hpt,hlb,t0,tkl,h8,X08,X18,P08,emi,emj,hi,l3,hj,hji,lf]
    exact Zcq (E:=[(13,.slice (some ⟨bo,0,none⟩) k k),(16,.int .i64 (y)),(17,.bool true)]) (meth m8 (y) true (mkH _ _ _ (y,true) (k8) (by rw [hvG,if_neg (by omega)]) rfl (fun hvv=>by simp [hyn]) (by omega))) ⟨by rfl,by rfl,by rfl,trivial⟩
   ·have X0':=X0
    rw [e] at X0' X08
    have hl2:Dd.length=2:=by have:=htn;rw [e] at this;simp [Zcp,Zba] at this;omega
    rw [if_pos e,Z2z hl2,Zot] at hvG
    obtain⟨m9,h9,k9⟩:=fitsH _ hlb m8 k8 1 1 rfl (by omega) _ hvt
    generalize Zmj p.L (Dd.getD 1 0) y=fb at hvG h9
    intro meth
    simp [-Int.natCast_add,-w46_116,-BitVec.toNat_or,-BitVec.toNat_ofInt,-BitVec.toNat_and,Zah b45,Zah b37,Zah b40,Za Zak,Zab ld3,Za Za0,Za Zal,Zac u23,Zad u23 bs3 rfl,Za1 u23 sz3,Zam u23 sz3,Zae Zbx,Zai Zck,Zag Zci,Zaf Zch,Za Zat,Zab Zbe,Zaa u23 sz3,Zae Zcj,Za Zas,Zab Zb2,Zaa u24 Zbn,Za Zay,Zab Zce,Zac u28,Zaa u28 Zcc,Za Za9,Za Zau,Za Zan,Zab Zbw,Zaa u41 Za5,Zae Zby,Zag Zb4,Zaf Za5,Za Zav,Za Zaz,Za Za2,Zab Zcr,Zaa u42 sz9,Zab ld9,Za Zaq,Zab Zb1,Zaa u31 Zbd,Za Zar,Za Zap,Zaw u4 .eql (Or.inl rfl),X0',e,hpt,hlb,t0,tkl,h8,X08,X18,P08,emi,emj,hi,l3,hj,hji,lf,tk8,h9]
    exact Zcq (E:=[(13,.slice (some ⟨bo,0,none⟩) k k),(16,.int .i64 (-1)),(17,.bool fb)]) (meth m9 (-1) fb (mkH _ _ _ (0,fb) (k8.trans k9) (hvG) rfl (fun hvv=>by simp) (by omega))) ⟨by rfl,by rfl,by rfl,trivial⟩
  by_cases d30:op=30∨op=31
  ·have hpt:2≤tn:=by have:=htn;rcases d30 with e | e <;> (rw [e] at this;simp [Zcp,Zba] at this;omega)
   obtain⟨lb,of,i,kk,hi,hlb,hd0,hki,hv0,t0f,hkf⟩:=first (by omega)
   obtain⟨m8,h8,k8⟩:=hkf m7 (Zaj _)
   have t0:=t0f _ (Zaj _)
   have t08:=t0f _ k8
   have hloX:=hlo7
   rw [hlb] at hloX
   have t1:=hloX.at_ (i:=1) (by omega) _ (Zaj _)
   have t18:=hloX.at_ (i:=1) (by omega) _ k8
   have ht1:1 < tn:=by omega
   have hpt0:0 < tn:=by omega
   have hvF:Za6 p f (op,a,b) Dd=match (if kk=6 then some p.L[i].2.2.1 else none) with | none=>(0,false) | some t=>if Dd.getD 1 0=1 then (if op=31 then (0,Zhd p.L (Dd.drop 2) [t]) else (t,true)) else (0,false):=by
    have e1:Zn p.L (i:Int)=if kk=6 then some p.L[i].2.2.1 else none:=by
     unfold Zn;rw [Int.toNat_natCast,List.getElem?_eq_getElem hi];simp only [hki]
    have e2:Za6 p f (op,a,b) Dd=Zdg p f (op,a,b) Dd:=by rcases d30 with e | e <;> (rw [e];simp [Za6])
    have e3:Zdg p f (op,a,b) Dd=match Zn p.L (Dd.getD 0 0) with | none=>(0,false) | some t=>if Dd.getD 1 0=1 then (if op=31 then (0,Zhd p.L (Dd.drop 2) [t]) else (t,true)) else (0,false):=by rcases d30 with e | e <;> (rw [e];simp only [Zdg];rfl)
    rw [e2,e3,hd0,e1]
    rfl
   have X08:=(o3.keep (k37.trans k8) (by simp)).load1 (off:=0) rfl
   have X18:=(o3.keep (k37.trans k8) (by simp)).load1 (off:=1) rfl
   have X28:=(o3.keep (k37.trans k8) (by simp)).load1 (off:=2) rfl
   have P08:=(o13.keep (k37.trans k8) (by simp)).load1 (off:=0) rfl
   have P18:=(o13.keep (k37.trans k8) (by simp)).load1 (off:=1) rfl
   have P38:=(o13.keep (k37.trans k8) (by simp)).load1 (off:=3) rfl
   have tk8:=(o7.keep k8 (by simp)).load (off:=0) 6 (by simp)
   simp [Zb] at tk8
   by_cases c6:kk=6
   case neg =>
    have hv:Za6 p f (op,a,b) Dd=(0,false):=by rw [hvF,if_neg c6]
    rcases d30 with e | e
    all_goals
     have X0':=X0
     rw [e] at X0' X08
     intro meth
     simp [-Int.natCast_add,-w46_116,-BitVec.toNat_or,-BitVec.toNat_ofInt,-BitVec.toNat_and,Zah b45,Zah b37,Zah b40,Za Zak,Zab ld3,Za Za0,Za Zal,Zac u23,Zad u23 bs3 rfl,Za1 u23 sz3,Zam u23 sz3,Zae Zbx,Zai Zck,Zag Zci,Zaf Zch,Za Zat,Zab Zbe,Zaa u23 sz3,Zae Zcj,Za Zas,Zab Zb2,Zaa u24 Zbn,Za Zay,Zab Zce,Zac u28,Zaa u28 Zcc,Za Za9,Za Zau,Za Zan,Zab Zbw,Zaa u41 Za5,Zae Zby,Zag Zb4,Zaf Za5,Za Zav,Za Zaz,Za Za2,Zab Zcr,Zaa u42 sz9,Zab ld9,Za Zaq,Zab Zb1,Zaa u31 Zbd,Za Zar,Za Zap,Zaw u4 .eql (Or.inl rfl),X0',e,hpt0,ht1,hlb,t0,t08,t1,t18,tkl,h8,c6,X08]
     exact Zcq (E:=[(13,.slice (some ⟨bo,0,none⟩) k k),(16,.int .i64 (-1)),(17,.bool false)]) (meth m8 (-1) false (mkH _ _ _ (0,false) (k8) (hv) rfl (fun hvv=>by simp) (by omega))) ⟨by rfl,by rfl,by rfl,trivial⟩
   rw [c6] at h8 hki
   rw [if_pos c6] at hvF
   have hvt:=hR.ev hi hki
   obtain⟨tb2,ao2,ff,bo2,het,ty⟩:=hp7.tb.ty hi
   rw [het] at P08
   have l2:=ty.l2 _ k8
   have emi:(i:Int)≤9223372036854775807:=by omega
   obtain⟨y,hy⟩:∃ z:Int,p.L[i].2.2.1=z:=⟨_,rfl⟩
   simp only [hy] at l2 hvt hvF
   have hyn:¬ y=0:=by have:=hvt.1;omega
   obtain⟨u1,hu1⟩:∃ z,Dd.getD 1 0=z:=⟨_,rfl⟩
   rw [hu1] at t1 t18 hvF
   by_cases c1:u1=1
   case neg =>
    have hv:Za6 p f (op,a,b) Dd=(0,false):=by rw [hvF,if_neg c1]
    rcases d30 with e | e
    all_goals
     have X0':=X0
     rw [e] at X0' X08
     intro meth
     simp [-Int.natCast_add,-w46_116,-BitVec.toNat_or,-BitVec.toNat_ofInt,-BitVec.toNat_and,Zah b45,Zah b37,Zah b40,Za Zak,Zab ld3,Za Za0,Za Zal,Zac u23,Zad u23 bs3 rfl,Za1 u23 sz3,Zam u23 sz3,Zae Zbx,Zai Zck,Zag Zci,Zaf Zch,Za Zat,Zab Zbe,Zaa u23 sz3,Zae Zcj,Za Zas,Zab Zb2,Zaa u24 Zbn,Za Zay,Zab Zce,Zac u28,Zaa u28 Zcc,Za Za9,Za Zau,Za Zan,Zab Zbw,Zaa u41 Za5,Zae Zby,Zag Zb4,Zaf Za5,Za Zav,Za Zaz,Za Za2,Zab Zcr,Zaa u42 sz9,Zab ld9,Za Zaq,Zab Zb1,Zaa u31 Zbd,Za Zar,Za Zap,Zaw u4 .eql (Or.inl rfl),X0',e,hpt0,ht1,hlb,t0,t08,t1,t18,ht1,tkl,h8,c1,X08]
     exact Zcq (E:=[(13,.slice (some ⟨bo,0,none⟩) k k),(16,.int .i64 (-1)),(17,.bool false)]) (meth m8 (-1) false (mkH _ _ _ (0,false) (k8) (hv) rfl (fun hvv=>by simp) (by omega))) ⟨by rfl,by rfl,by rfl,trivial⟩
   rw [c1] at t1 t18
   rw [if_pos c1] at hvF
   rcases d30 with e | e
   ·have X0':=X0
    rw [e] at X0' X08
    intro meth
    simp [-Int.natCast_add,-w46_116,-BitVec.toNat_or,-BitVec.toNat_ofInt,-BitVec.toNat_and,Zah b45,Zah b37,Zah b40,Za Zak,Zab ld3,Za Za0,Za Zal,Zac u23,Zad u23 bs3 rfl,Za1 u23 sz3,Zam u23 sz3,Zae Zbx,Zai Zck,Zag Zci,Zaf Zch,Za Zat,Zab Zbe,Zaa u23 sz3,Zae Zcj,Za Zas,Zab Zb2,Zaa u24 Zbn,Za Zay,Zab Zce,Zac u28,Zaa u28 Zcc,Za Za9,Za Zau,Za Zan,Zab Zbw,Zaa u41 Za5,Zae Zby,Zag Zb4,Zaf Za5,Za Zav,Za Zaz,Za Za2,Zab Zcr,Zaa u42 sz9,Zab ld9,Za Zaq,Zab Zb1,Zaa u31 Zbd,Za Zar,Za Zap,Zaw u4 .eql (Or.inl rfl),X0',e,hpt0,ht1,hlb,t0,t08,t1,t18,ht1,tkl,h8,X08,P08,emi,hi,l2]
    exact Zcq (E:=[(13,.slice (some ⟨bo,0,none⟩) k k),(16,.int .i64 (y)),(17,.bool true)]) (meth m8 (y) true (mkH _ _ _ (y,true) (k8) (by rw [hvF,if_neg (by omega)]) rfl (fun hvv=>by simp [hyn]) (by omega))) ⟨by rfl,by rfl,by rfl,trivial⟩
   ·have X0':=X0
    rw [e] at X0' X08
    have hl3:Dd.length=3:=by have:=htn;rw [e] at this;simp [Zcp,Zba] at this;omega
    rw [if_pos e,Z3d hl3,Zot] at hvF
    obtain⟨m9,h9,k9⟩:=fitsH _ hlb m8 k8 2 2 rfl (by omega) _ hvt
    generalize Zmj p.L (Dd.getD 2 0) y=fb at hvF h9
    intro meth
    simp [-Int.natCast_add,-w46_116,-BitVec.toNat_or,-BitVec.toNat_ofInt,-BitVec.toNat_and,Zah b45,Zah b37,Zah b40,Za Zak,Zab ld3,Za Za0,Za Zal,Zac u23,Zad u23 bs3 rfl,Za1 u23 sz3,Zam u23 sz3,Zae Zbx,Zai Zck,Zag Zci,Zaf Zch,Za Zat,Zab Zbe,Zaa u23 sz3,Zae Zcj,Za Zas,Zab Zb2,Zaa u24 Zbn,Za Zay,Zab Zce,Zac u28,Zaa u28 Zcc,Za Za9,Za Zau,Za Zan,Zab Zbw,Zaa u41 Za5,Zae Zby,Zag Zb4,Zaf Za5,Za Zav,Za Zaz,Za Za2,Zab Zcr,Zaa u42 sz9,Zab ld9,Za Zaq,Zab Zb1,Zaa u31 Zbd,Za Zar,Za Zap,Zaw u4 .eql (Or.inl rfl),X0',e,hpt0,ht1,hlb,t0,t08,t1,t18,ht1,tkl,h8,X08,P08,emi,hi,l2,tk8,h9]
    exact Zcq (E:=[(13,.slice (some ⟨bo,0,none⟩) k k),(16,.int .i64 (-1)),(17,.bool fb)]) (meth m9 (-1) fb (mkH _ _ _ (0,fb) (k8.trans k9) (hvF) rfl (fun hvv=>by simp) (by omega))) ⟨by rfl,by rfl,by rfl,trivial⟩
  by_cases d38:op=38
  ·have e:=d38
   have X0':=X0
   rw [e] at X0'
   have htv:tn=1:=by have:=htn;rw [e] at this;simp [Zcp,Zba] at this;omega
   have hka:=hst5 (Or.inr e)
   have hain:0≤a∧a < p.L.length:=Classical.byContradiction fun hn=>by rw [Zil hn] at hka;exact absurd hka (by decide)
   have hva:¬ a=0:=by have:=(hR.val_of (Or.inr (Or.inl hka))).1;omega
   obtain⟨lb,of,i,kk,hi,hlb,hd0,hki,hv0,t0f,hkf⟩:=first (by omega)
   have t0:=t0f _ (Zaj _)
   obtain⟨m8,h8,k8⟩:=Z2m (m:=m7) hN hp7.tb (a:=a) (b:=(i:Int)) hain ⟨by omega,by omega⟩
   have hv:Za6 p f (op,a,b) Dd=(a,Zpa p.L a (i:Int)):=by rw [e];simp [Za6,Zdg,← hd0]
   generalize Zpa p.L a (i:Int)=fb at hv h8
   have X08:=(o3.keep (k37.trans k8) (by simp)).load1 (off:=0) rfl
   have X18:=(o3.keep (k37.trans k8) (by simp)).load1 (off:=1) rfl
   have X28:=(o3.keep (k37.trans k8) (by simp)).load1 (off:=2) rfl
   have P08:=(o13.keep (k37.trans k8) (by simp)).load1 (off:=0) rfl
   have P18:=(o13.keep (k37.trans k8) (by simp)).load1 (off:=1) rfl
   have P38:=(o13.keep (k37.trans k8) (by simp)).load1 (off:=3) rfl
   have tk8:=(o7.keep k8 (by simp)).load (off:=0) 6 (by simp)
   simp [Zb] at tk8
   intro meth
   simp [-Int.natCast_add,-w46_116,-BitVec.toNat_or,-BitVec.toNat_ofInt,-BitVec.toNat_and,Zah b45,Zah b37,Zah b40,Za Zak,Zab ld3,Za Za0,Za Zal,Zac u23,Zad u23 bs3 rfl,Za1 u23 sz3,Zam u23 sz3,Zae Zbx,Zai Zck,Zag Zci,Zaf Zch,Za Zat,Zab Zbe,Zaa u23 sz3,Zae Zcj,Za Zas,Zab Zb2,Zaa u24 Zbn,Za Zay,Zab Zce,Zac u28,Zaa u28 Zcc,Za Za9,Za Zau,Za Zan,Zab Zbw,Zaa u41 Za5,Zae Zby,Zag Zb4,Zaf Za5,Za Zav,Za Zaz,Za Za2,Zab Zcr,Zaa u42 sz9,Zab ld9,Za Zaq,Zab Zb1,Zaa u31 Zbd,Za Zar,Za Zap,Zaw u4 .eql (Or.inl rfl),X0',e,htv,hlb,P0,X1,t0,h8,X18]
   exact Zcq (E:=[(13,.slice (some ⟨bo,0,none⟩) k k),(16,.int .i64 (a)),(17,.bool fb)]) (meth m8 (a) fb (mkH _ _ _ (a,fb) (k8) (hv) rfl (fun hvv=>by simp [hva]) (by omega))) ⟨by rfl,by rfl,by rfl,trivial⟩
  by_cases d36:op=36
  ·have e:=d36
   have X0':=X0
   rw [e] at X0'
   obtain⟨hin,hb⟩:=hcall e
   have htb:(tn:Int)=b:=by have:=htn;rw [e] at this;simp [Zcp] at this;omega
   obtain⟨i,hai⟩:∃ i:Nat,a=i:=⟨a.toNat,by omega⟩
   have hi:i < p.F.length:=by omega
   obtain⟨fb,fq,he,hgn,hld⟩:=hp7.fs.one hi
   have hvp:=hP.ps _ (List.getElem_mem hi)
   have hvr:=hP.res _ (List.getElem_mem hi)
   have hv0:Za6 p f (op,a,b) Dd=((Zp p.F i).res,Zhd p.L Dd (Zp p.F i).ps):=by rw [e,hai];simp [Za6,Zdg]
   rw [Zjw hi] at hv0
   rw [hai,Zjw hi] at hb
   have l5:=(hld _ (Zaj _)).1
   generalize p.F[i]=g at l5 hgn hvp hvr hv0 hb
   simp only [Fn.row] at l5
   have P1':=P1
   rw [he] at P1'
   have X1':=X1
   rw [hai] at X1'
   have hFl:=hp7.fs.le
   have emi:(i:Int)≤9223372036854775807:=by omega
   obtain⟨o8,k8,n8⟩:=Za7 (m:=m7) (cs:=[.string ⟨#[]⟩,.slice none 0 0,.int .i64 0,.slice none 0 0,.slice none 0 0]) (e:=37) rfl
   obtain⟨yb,hyb⟩:∃ z,m7.next=z:=⟨_,rfl⟩
   rw [hyb] at o8 n8
   obtain⟨m8,hm8⟩:∃ z,m7.new [.string ⟨#[]⟩,.slice none 0 0,.int .i64 0,.slice none 0 0,.slice none 0 0] 37=z:=⟨_,rfl⟩
   rw [hm8] at o8 k8 n8
   intro meth
   simp [-Int.natCast_add,-w46_116,-BitVec.toNat_or,-BitVec.toNat_ofInt,-BitVec.toNat_and,Zah b45,Zah b37,Zah b40,Za Zak,Zab ld3,Za Za0,Za Zal,Zac u23,Zad u23 bs3 rfl,Za1 u23 sz3,Zam u23 sz3,Zae Zbx,Zai Zck,Zag Zci,Zaf Zch,Za Zat,Zab Zbe,Zaa u23 sz3,Zae Zcj,Za Zas,Zab Zb2,Zaa u24 Zbn,Za Zay,Zab Zce,Zac u28,Zaa u28 Zcc,Za Za9,Za Zau,Za Zan,Zab Zbw,Zaa u41 Za5,Zae Zby,Zag Zb4,Zaf Za5,Za Zav,Za Zaz,Za Za2,Zab Zcr,Zaa u42 sz9,Zab ld9,Za Zaq,Zab Zb1,Zaa u31 Zbd,Za Zar,Za Zap,Zaw u4 .eql (Or.inl rfl),X0',e,X1',P1',emi,hi,l5,hyb,hm8]
   generalize hrc:Za8 _ _ _=rc
   obtain⟨m9,rfl,o9,k9⟩:=Za4 hrc o8 (by simp) (by simp [Zbk,Zco,Zbp])
   simp [Zdh] at o9
   have K9:Zao m7 m9 []:=k8.fresh k9 (by simp;omega)
   simp [-Int.natCast_add,-w46_116,-BitVec.toNat_or,-BitVec.toNat_ofInt,-BitVec.toNat_and,Zah b45,Zah b37,Zah b40,Za Zak,Zab ld3,Za Za0,Za Zal,Zac u23,Zad u23 bs3 rfl,Za1 u23 sz3,Zam u23 sz3,Zae Zbx,Zai Zck,Zag Zci,Zaf Zch,Za Zat,Zab Zbe,Zaa u23 sz3,Zae Zcj,Za Zas,Zab Zb2,Zaa u24 Zbn,Za Zay,Zab Zce,Zac u28,Zaa u28 Zcc,Za Za9,Za Zau,Za Zan,Zab Zbw,Zaa u41 Za5,Zae Zby,Zag Zb4,Zaf Za5,Za Zav,Za Zaz,Za Za2,Zab Zcr,Zaa u42 sz9,Zab ld9,Za Zaq,Zab Zb1,Zaa u31 Zbd,Za Zar,Za Zap,Zaw u4 .eql (Or.inl rfl)]
   have hlD:Dd.length=g.ps.length:=by omega
   have hgl:g.ps.length≤9223372036854775807:=by omega
   refine Zbg 64 [64,64,67,69,71,75,83,93,95,95,95,95,95,111,117,123,123,134,134,134,134,149,161,161,161,161,176,178,184,184,210,227,241,241,258,272,283,295,306,310,318,330,346,349,396,429,440,452,460,485,487,489,496] (fun d E mC=>∃ j:Nat,g.ps.length - j=d∧j≤g.ps.length∧Zao m9 mC []∧E=[(13,.slice (some ⟨bo,0,none⟩) k k),(15,.pointer (some ⟨tb,0,none⟩)),(16,.int .i64 (-1)),(17,.bool (Zti p.L Dd g.ps j)),(19,.pointer (some ⟨yb,0,none⟩)),(20,.int .i64 j)]) _ ⟨_,⟨0,rfl,by omega,Zaj _,rfl⟩,⟨by rfl,by rfl,by rfl,by rw [Zz1];rfl,by rfl,by rfl,trivial⟩⟩ ?_
   rintro d E mC ih ⟨j,hdj,hj,kC,rfl⟩
   have KC:=K9.trans kC
   have y1:=(o9.keep kC (by simp)).load1 (off:=1) rfl
   have y2:=(o9.keep kC (by simp)).load1 (off:=2) rfl
   by_cases hlj:j < g.ps.length
   case neg =>
    have j1:¬ (j:Int) < (g.ps.length:Int):=by omega
    have hje:j=g.ps.length:=by omega
    have hfe:Zti p.L Dd g.ps j=Zhd p.L Dd g.ps:=by rw [hje,Z0a _ hlD]
    rw [hfe]
    generalize Zhd p.L Dd g.ps=ff at hv0
    by_cases hr0:g.res=0
    ·rw [hr0] at y2 hv0
     simp [-Int.natCast_add,-w46_116,-BitVec.toNat_or,-BitVec.toNat_ofInt,-BitVec.toNat_and,Zah b45,Zah b37,Zah b40,Za Zak,Zab ld3,Za Za0,Za Zal,Zac u23,Zad u23 bs3 rfl,Za1 u23 sz3,Zam u23 sz3,Zae Zbx,Zai Zck,Zag Zci,Zaf Zch,Za Zat,Zab Zbe,Zaa u23 sz3,Zae Zcj,Za Zas,Zab Zb2,Zaa u24 Zbn,Za Zay,Zab Zce,Zac u28,Zaa u28 Zcc,Za Za9,Za Zau,Za Zan,Zab Zbw,Zaa u41 Za5,Zae Zby,Zag Zb4,Zaf Za5,Za Zav,Za Zaz,Za Za2,Zab Zcr,Zaa u42 sz9,Zab ld9,Za Zaq,Zab Zb1,Zaa u31 Zbd,Za Zar,Za Zap,Zaw u4 .eql (Or.inl rfl),y1,y2,hlj,j1]
     exact Zcq (E:=[(13,.slice (some ⟨bo,0,none⟩) k k),(16,.int .i64 (-1)),(17,.bool ff)]) (meth mC (-1) ff (mkH _ _ _ (0,ff) (KC) (hv0) rfl (fun hvv=>by simp) (by omega))) ⟨by rfl,by rfl,by rfl,trivial⟩
    ·have hrp:0 < g.res:=by have:=(hvr.resolve_left hr0).1;omega
     simp [-Int.natCast_add,-w46_116,-BitVec.toNat_or,-BitVec.toNat_ofInt,-BitVec.toNat_and,Zah b45,Zah b37,Zah b40,Za Zak,Zab ld3,Za Za0,Za Zal,Zac u23,Zad u23 bs3 rfl,Za1 u23 sz3,Zam u23 sz3,Zae Zbx,Zai Zck,Zag Zci,Zaf Zch,Za Zat,Zab Zbe,Zaa u23 sz3,Zae Zcj,Za Zas,Zab Zb2,Zaa u24 Zbn,Za Zay,Zab Zce,Zac u28,Zaa u28 Zcc,Za Za9,Za Zau,Za Zan,Zab Zbw,Zaa u41 Za5,Zae Zby,Zag Zb4,Zaf Za5,Za Zav,Za Zaz,Za Za2,Zab Zcr,Zaa u42 sz9,Zab ld9,Za Zaq,Zab Zb1,Zaa u31 Zbd,Za Zar,Za Zap,Zaw u4 .eql (Or.inl rfl),y1,y2,hlj,j1,hrp]
     exact Zcq (E:=[(13,.slice (some ⟨bo,0,none⟩) k k),(16,.int .i64 (g.res)),(17,.bool ff)]) (meth mC (g.res) ff (mkH _ _ _ (g.res,ff) (KC) (hv0) rfl (fun hvv=>by simp [hr0]) (by omega))) ⟨by rfl,by rfl,by rfl,trivial⟩
   have j1:(j:Int) < (g.ps.length:Int):=by omega
   have emj:(j:Int)≤9223372036854775807:=by omega
   have wj:IntKind.i64.wrap ((j:Int)+1)=((j+1:Nat):Int):=by rw [Zbh (by omega) (by omega)];omega
   have hs:=Z0c p.L (l:=Dd) (to:=g.ps) (i:=j) (by omega) hlj
   rcases hft:Zti p.L Dd g.ps j with _ | _
   ·rw [hft] at hs
    simp [-Int.natCast_add,-w46_116,-BitVec.toNat_or,-BitVec.toNat_ofInt,-BitVec.toNat_and,Zah b45,Zah b37,Zah b40,Za Zak,Zab ld3,Za Za0,Za Zal,Zac u23,Zad u23 bs3 rfl,Za1 u23 sz3,Zam u23 sz3,Zae Zbx,Zai Zck,Zag Zci,Zaf Zch,Za Zat,Zab Zbe,Zaa u23 sz3,Zae Zcj,Za Zas,Zab Zb2,Zaa u24 Zbn,Za Zay,Zab Zce,Zac u28,Zaa u28 Zcc,Za Za9,Za Zau,Za Zan,Zab Zbw,Zaa u41 Za5,Zae Zby,Zag Zb4,Zaf Za5,Za Zav,Za Zaz,Za Za2,Zab Zcr,Zaa u42 sz9,Zab ld9,Za Zaq,Zab Zb1,Zaa u31 Zbd,Za Zar,Za Zap,Zaw u4 .eql (Or.inl rfl),y1,hlj,j1,wj]
    exact ih _ _ _ _ ⟨j+1,rfl,by omega,kC,rfl⟩ (by omega) ⟨by rfl,by rfl,by rfl,by rw [hs];rfl,by rfl,by simp [Zcm],trivial⟩
   ·rw [hft,Bool.true_and] at hs
    obtain⟨zb,zo,hza,_,hzl⟩:=(Rs.iv (hgn.keep KC).ps).load (by intro e;rw [e] at hlj;simp at hlj)
    have lz:=hzl j hlj _ (Zaj _)
    rw [← gd hlj] at lz
    have hvz:=hvp _ (List.getElem_mem hlj)
    rw [← gd hlj] at hvz
    obtain⟨mD,h9,k9'⟩:=fitsH lo rfl mC KC j j rfl (by omega) _ hvz
    rw [← hs] at h9
    have tkC:=(o7.keep KC (by simp)).load (off:=0) 6 (by simp)
    simp [Zb] at tkC
    rw [hza] at y1
    generalize g.ps.getD j 0=zz at lz h9
    simp [-Int.natCast_add,-w46_116,-BitVec.toNat_or,-BitVec.toNat_ofInt,-BitVec.toNat_and,Zah b45,Zah b37,Zah b40,Za Zak,Zab ld3,Za Za0,Za Zal,Zac u23,Zad u23 bs3 rfl,Za1 u23 sz3,Zam u23 sz3,Zae Zbx,Zai Zck,Zag Zci,Zaf Zch,Za Zat,Zab Zbe,Zaa u23 sz3,Zae Zcj,Za Zas,Zab Zb2,Zaa u24 Zbn,Za Zay,Zab Zce,Zac u28,Zaa u28 Zcc,Za Za9,Za Zau,Za Zan,Zab Zbw,Zaa u41 Za5,Zae Zby,Zag Zb4,Zaf Za5,Za Zav,Za Zaz,Za Za2,Zab Zcr,Zaa u42 sz9,Zab ld9,Za Zaq,Zab Zb1,Zaa u31 Zbd,Za Zar,Za Zap,Zaw u4 .eql (Or.inl rfl),y1,hlj,j1,wj,emj,tkC,lz,h9]
    exact ih _ _ _ _ ⟨j+1,rfl,by omega,kC.trans k9',rfl⟩ (by omega) ⟨by rfl,by rfl,by rfl,by rfl,by rfl,by simp [Zcm],trivial⟩
  by_cases d37:op=37
  ·have e:=d37
   have X0':=X0
   rw [e] at X0'
   obtain⟨hin,hb1,hb8⟩:=hinv e
   have htb:(tn:Int)=b:=by have:=htn;rw [e] at this;simp [Zcp] at this;omega
   have hpt:0 < tn:=by omega
   have hxl:=hP.xl
   obtain⟨lb,of,i,kk,hi,hlb,hd0,hki,hv0,t0f,hkf⟩:=first hpt
   obtain⟨ai,hai⟩:∃ j:Nat,a=j:=⟨a.toNat,by omega⟩
   have hail:ai < p.X.length:=by omega
   obtain⟨tx,hxa,hxt⟩:=Zls hp7.xs hail
   have lt:=hxt _ (Zaj _)
   have hxv:p.X.getD ai []=p.X[ai]:=by simp [List.getD_eq_getElem?_getD,hail]
   have hvF:Za6 p f (op,a,b) Dd=match Zh7 p.L (p.X.getD ai []) (i:Int) with | none=>(0,false) | some y=>(y.2.2.1,Zhd p.L (Dd.drop 1) y.2.1):=by
    have h9:Za6 p f (37,(ai:Int),b) Dd=match Zh7 p.L (p.X.getD ai []) (Dd.getD 0 0) with | none=>(0,false) | some y=>(y.2.2.1,Zhd p.L (Dd.drop 1) y.2.1):=by simp only [Za6,Zdg,Int.toNat_natCast];rfl
    rw [e,hai,h9,hd0]
   rw [hxv] at hvF
   generalize p.X[ai]=nm at lt hvF
   have hmI:Zh7 p.L nm (i:Int)=if kk=7∧0≤Zd4 nm (tM p.L[i]) 0 then (tM p.L[i])[(Zd4 nm (tM p.L[i]) 0).toNat]? else none:=by
    unfold Zh7
    rw [Int.toNat_natCast,List.getElem?_eq_getElem hi]
    simp only [hki]
   obtain⟨v8,m8,hm,hcase,hm8⟩:=Zpp hN.r.meth hN.r.inn hp7.tb hi nm
   rw [hm8] at hm
   obtain⟨m9,h9,k9⟩:=hkf m7 (Zaj _)
   have t0:=t0f _ (Zaj _)
   have X1':=X1
   rw [hai] at X1'
   have P3':=P3
   rw [hxa] at P3'
   have emi:(i:Int)≤9223372036854775807:=by omega
   have emx:(ai:Int)≤9223372036854775807:=by omega
   have X09:=(o3.keep (k37.trans k9) (by simp)).load1 (off:=0) rfl
   have X19:=(o3.keep (k37.trans k9) (by simp)).load1 (off:=1) rfl
   have X29:=(o3.keep (k37.trans k9) (by simp)).load1 (off:=2) rfl
   have P09:=(o13.keep (k37.trans k9) (by simp)).load1 (off:=0) rfl
   have P19:=(o13.keep (k37.trans k9) (by simp)).load1 (off:=1) rfl
   have P39:=(o13.keep (k37.trans k9) (by simp)).load1 (off:=3) rfl
   have tk9:=(o7.keep k9 (by simp)).load (off:=0) 6 (by simp)
   simp [Zb] at tk9
   have wb:IntKind.i64.wrap (b - 1)=b - 1:=Zbh (by omega) (by omega)
   rcases hcase with⟨j,h57,hj,hfj,hv8⟩ | ⟨hno,hv8⟩
   case inr =>
    have hnone:Zh7 p.L nm (i:Int)=none:=by
     rw [hmI]
     rcases hno with hno | hno
     ·rw [if_neg];rintro⟨h,_⟩;exact hno (Or.inr (hki.trans h))
     ·rw [if_neg];rintro⟨_,h⟩;have h2:Zd4 nm (tM p.L[i]) 0=-1:=hno;omega
    have hv:Za6 p f (op,a,b) Dd=(0,false):=by rw [hvF,hnone]
    rw [hv8] at hm
    intro meth
    simp [-Int.natCast_add,-w46_116,-BitVec.toNat_or,-BitVec.toNat_ofInt,-BitVec.toNat_and,Zah b45,Zah b37,Zah b40,Za Zak,Zab ld3,Za Za0,Za Zal,Zac u23,Zad u23 bs3 rfl,Za1 u23 sz3,Zam u23 sz3,Zae Zbx,Zai Zck,Zag Zci,Zaf Zch,Za Zat,Zab Zbe,Zaa u23 sz3,Zae Zcj,Za Zas,Zab Zb2,Zaa u24 Zbn,Za Zay,Zab Zce,Zac u28,Zaa u28 Zcc,Za Za9,Za Zau,Za Zan,Zab Zbw,Zaa u41 Za5,Zae Zby,Zag Zb4,Zaf Za5,Za Zav,Za Zaz,Za Za2,Zab Zcr,Zaa u42 sz9,Zab ld9,Za Zaq,Zab Zb1,Zaa u31 Zbd,Za Zar,Za Zap,Zaw u4 .eql (Or.inl rfl),X0',e,hpt,hlb,t0,P0,P3',X1',emx,hail,lt,hm]
    refine Zbg 64 [64,64,67,69,71,75,83,93,95,95,95,95,95,111,117,123,123,134,134,134,134,149,161,161,161,161,176,178,184,184,210,227,241,241,258,272,283,295,306,310,318,330,346,349,396,429,440,452,460,485,487,489,496] (fun d E mC=>d=0∧mC=m7∧E=[(4,.pointer (some ⟨pb,0,none⟩)),(6,.pointer (some ⟨xb,0,none⟩)),(13,.slice (some ⟨bo,0,none⟩) k k),(16,.int .i64 (-1)),(17,.bool false),(21,.int .i64 i),(22,.int .i64 0),(24,.int .i64 1)]) _ ⟨_,⟨rfl,rfl,rfl⟩,⟨by rfl,by rfl,by rfl,by rfl,by rfl,by rfl,by rfl,by rfl,trivial⟩⟩ ?_
    rintro d E mC ih ⟨_,hmC,rfl⟩
    rw [hmC]
    by_cases h1b:1 < b
    ·simp [-Int.natCast_add,-w46_116,-BitVec.toNat_or,-BitVec.toNat_ofInt,-BitVec.toNat_and,Zah b45,Zah b37,Zah b40,Za Zak,Zab ld3,Za Za0,Za Zal,Zac u23,Zad u23 bs3 rfl,Za1 u23 sz3,Zam u23 sz3,Zae Zbx,Zai Zck,Zag Zci,Zaf Zch,Za Zat,Zab Zbe,Zaa u23 sz3,Zae Zcj,Za Zas,Zab Zb2,Zaa u24 Zbn,Za Zay,Zab Zce,Zac u28,Zaa u28 Zcc,Za Za9,Za Zau,Za Zan,Zab Zbw,Zaa u41 Za5,Zae Zby,Zag Zb4,Zaf Za5,Za Zav,Za Zaz,Za Za2,Zab Zcr,Zaa u42 sz9,Zab ld9,Za Zaq,Zab Zb1,Zaa u31 Zbd,Za Zar,Za Zap,Zaw u4 .eql (Or.inl rfl),X2,h1b]
     exact Zcq (E:=[(13,.slice (some ⟨bo,0,none⟩) k k),(16,.int .i64 (-1)),(17,.bool false)]) (meth m7 (-1) false (mkH _ _ _ (0,false) (Zaj _) (hv) rfl (fun hvv=>by simp at hvv) (by omega))) ⟨by rfl,by rfl,by rfl,trivial⟩
    ·simp [-Int.natCast_add,-w46_116,-BitVec.toNat_or,-BitVec.toNat_ofInt,-BitVec.toNat_and,Zah b45,Zah b37,Zah b40,Za Zak,Zab ld3,Za Za0,Za Zal,Zac u23,Zad u23 bs3 rfl,Za1 u23 sz3,Zam u23 sz3,Zae Zbx,Zai Zck,Zag Zci,Zaf Zch,Za Zat,Zab Zbe,Zaa u23 sz3,Zae Zcj,Za Zas,Zab Zb2,Zaa u24 Zbn,Za Zay,Zab Zce,Zac u28,Zaa u28 Zcc,Za Za9,Za Zau,Za Zan,Zab Zbw,Zaa u41 Za5,Zae Zby,Zag Zb4,Zaf Za5,Za Zav,Za Zaz,Za Za2,Zab Zcr,Zaa u42 sz9,Zab ld9,Za Zaq,Zab Zb1,Zaa u31 Zbd,Za Zar,Za Zap,Zaw u4 .eql (Or.inl rfl),X2,h1b]
     exact Zcq (E:=[(13,.slice (some ⟨bo,0,none⟩) k k),(16,.int .i64 (-1)),(17,.bool false)]) (meth m7 (-1) false (mkH _ _ _ (0,false) (Zaj _) (hv) rfl (fun hvv=>by simp at hvv) (by omega))) ⟨by rfl,by rfl,by rfl,trivial⟩
   rw [hv8] at hm
   by_cases c7:kk=7
   case neg =>
    have hv:Za6 p f (op,a,b) Dd=(0,false):=by rw [hvF,hmI,if_neg (fun h=>c7 h.1)]
    intro meth
    simp [-Int.natCast_add,-w46_116,-BitVec.toNat_or,-BitVec.toNat_ofInt,-BitVec.toNat_and,Zah b45,Zah b37,Zah b40,Za Zak,Zab ld3,Za Za0,Za Zal,Zac u23,Zad u23 bs3 rfl,Za1 u23 sz3,Zam u23 sz3,Zae Zbx,Zai Zck,Zag Zci,Zaf Zch,Za Zat,Zab Zbe,Zaa u23 sz3,Zae Zcj,Za Zas,Zab Zb2,Zaa u24 Zbn,Za Zay,Zab Zce,Zac u28,Zaa u28 Zcc,Za Za9,Za Zau,Za Zan,Zab Zbw,Zaa u41 Za5,Zae Zby,Zag Zb4,Zaf Za5,Za Zav,Za Zaz,Za Za2,Zab Zcr,Zaa u42 sz9,Zab ld9,Za Zaq,Zab Zb1,Zaa u31 Zbd,Za Zar,Za Zap,Zaw u4 .eql (Or.inl rfl),X0',e,hpt,hlb,t0,P0,P3',X1',emx,hail,lt,hm,tkl,h9,c7]
    refine Zbg 64 [64,64,67,69,71,75,83,93,95,95,95,95,95,111,117,123,123,134,134,134,134,149,161,161,161,161,176,178,184,184,210,227,241,241,258,272,283,295,306,310,318,330,346,349,396,429,440,452,460,485,487,489,496] (fun d E mC=>d=0∧mC=m9∧E=[(4,.pointer (some ⟨pb,0,none⟩)),(6,.pointer (some ⟨xb,0,none⟩)),(13,.slice (some ⟨bo,0,none⟩) k k),(16,.int .i64 (-1)),(17,.bool false),(21,.int .i64 i),(22,.int .i64 j),(24,.int .i64 1)]) _ ⟨_,⟨rfl,rfl,rfl⟩,⟨by rfl,by rfl,by rfl,by rfl,by rfl,by rfl,by rfl,by rfl,trivial⟩⟩ ?_
    rintro d E mC ih ⟨_,hmC,rfl⟩
    rw [hmC]
    by_cases h1b:1 < b
    ·simp [-Int.natCast_add,-w46_116,-BitVec.toNat_or,-BitVec.toNat_ofInt,-BitVec.toNat_and,Zah b45,Zah b37,Zah b40,Za Zak,Zab ld3,Za Za0,Za Zal,Zac u23,Zad u23 bs3 rfl,Za1 u23 sz3,Zam u23 sz3,Zae Zbx,Zai Zck,Zag Zci,Zaf Zch,Za Zat,Zab Zbe,Zaa u23 sz3,Zae Zcj,Za Zas,Zab Zb2,Zaa u24 Zbn,Za Zay,Zab Zce,Zac u28,Zaa u28 Zcc,Za Za9,Za Zau,Za Zan,Zab Zbw,Zaa u41 Za5,Zae Zby,Zag Zb4,Zaf Za5,Za Zav,Za Zaz,Za Za2,Zab Zcr,Zaa u42 sz9,Zab ld9,Za Zaq,Zab Zb1,Zaa u31 Zbd,Za Zar,Za Zap,Zaw u4 .eql (Or.inl rfl),X29,h1b]
     exact Zcq (E:=[(13,.slice (some ⟨bo,0,none⟩) k k),(16,.int .i64 (-1)),(17,.bool false)]) (meth m9 (-1) false (mkH _ _ _ (0,false) (k9) (hv) rfl (fun hvv=>by simp at hvv) (by omega))) ⟨by rfl,by rfl,by rfl,trivial⟩
    ·simp [-Int.natCast_add,-w46_116,-BitVec.toNat_or,-BitVec.toNat_ofInt,-BitVec.toNat_and,Zah b45,Zah b37,Zah b40,Za Zak,Zab ld3,Za Za0,Za Zal,Zac u23,Zad u23 bs3 rfl,Za1 u23 sz3,Zam u23 sz3,Zae Zbx,Zai Zck,Zag Zci,Zaf Zch,Za Zat,Zab Zbe,Zaa u23 sz3,Zae Zcj,Za Zas,Zab Zb2,Zaa u24 Zbn,Za Zay,Zab Zce,Zac u28,Zaa u28 Zcc,Za Za9,Za Zau,Za Zan,Zab Zbw,Zaa u41 Za5,Zae Zby,Zag Zb4,Zaf Za5,Za Zav,Za Zaz,Za Za2,Zab Zcr,Zaa u42 sz9,Zab ld9,Za Zaq,Zab Zb1,Zaa u31 Zbd,Za Zar,Za Zap,Zaw u4 .eql (Or.inl rfl),X29,h1b]
     exact Zcq (E:=[(13,.slice (some ⟨bo,0,none⟩) k k),(16,.int .i64 (-1)),(17,.bool false)]) (meth m9 (-1) false (mkH _ _ _ (0,false) (k9) (hv) rfl (fun hvv=>by simp at hvv) (by omega))) ⟨by rfl,by rfl,by rfl,trivial⟩
   rw [c7] at h9
   have hfj':Zd4 nm (tM p.L[i]) 0=(j:Int):=hfj
   have hj':j < (tM p.L[i]).length:=hj
   have hms:Zh7 p.L nm (i:Int)=some (tM p.L[i])[j]:=by
    rw [hmI,hfj',if_pos ⟨c7,by omega⟩,Int.toNat_natCast,List.getElem?_eq_getElem hj']
   have hyL:=Zov hR hms
   rw [hms] at hvF
   obtain⟨tb2,ao2,ff,bo2,het,ty⟩:=hp7.tb.ty hi
   have hmsr:=ty.ms
   have l4:=fun mC kC=>ty.l4 mC kC
   have hml:=hmsr.le
   obtain⟨mb,po,pf,hmb,hpo,hld4⟩:=hmsr.one hj'
   rw [hmb] at l4
   have emj:(j:Int)≤9223372036854775807:=by omega
   generalize (tM p.L[i])[j]=y at hvF hyL hpo hld4
   have ld1:=fun mC kC=>(hld4 mC kC).2.2.1
   have ld2:=fun mC kC=>(hld4 mC kC).2.2.2
   obtain⟨y1,yps,yr,yf⟩:=y
   simp only at hvF hyL hpo ld1 ld2
   have hyL2:Val p.L yps:=hyL.2.2
   change Rs m7 po yps.length (ic yps) 3 1 pf at hpo
   obtain⟨B,hB⟩:∃ z,tM p.L[i]=z:=⟨_,rfl⟩
   simp only [hB] at l4 hj' hml
   have P09':=P09
   rw [het] at P09'
   have l49:=l4 _ k9
   have ld19:=ld1 _ k9
   have hyr:yr=0∨0 < yr:=by have:=hyL.2.1;rcases this with h | h;exact Or.inl h;exact Or.inr h.1
   by_cases hbl:(yps.length:Int)=b - 1
   case neg =>
    have hv:Za6 p f (op,a,b) Dd=(yr,false):=by rw [hvF,Zzn _ (by rw [List.length_drop];omega)]
    intro meth
    simp [-Int.natCast_add,-w46_116,-BitVec.toNat_or,-BitVec.toNat_ofInt,-BitVec.toNat_and,Zah b45,Zah b37,Zah b40,Za Zak,Zab ld3,Za Za0,Za Zal,Zac u23,Zad u23 bs3 rfl,Za1 u23 sz3,Zam u23 sz3,Zae Zbx,Zai Zck,Zag Zci,Zaf Zch,Za Zat,Zab Zbe,Zaa u23 sz3,Zae Zcj,Za Zas,Zab Zb2,Zaa u24 Zbn,Za Zay,Zab Zce,Zac u28,Zaa u28 Zcc,Za Za9,Za Zau,Za Zan,Zab Zbw,Zaa u41 Za5,Zae Zby,Zag Zb4,Zaf Za5,Za Zav,Za Zaz,Za Za2,Zab Zcr,Zaa u42 sz9,Zab ld9,Za Zaq,Zab Zb1,Zaa u31 Zbd,Za Zar,Za Zap,Zaw u4 .eql (Or.inl rfl),X0',e,hpt,hlb,t0,P0,P3',X1',emx,hail,lt,hm,tkl,h9,P09',emi,hi,l49,emj,hj',ld19,X29,wb,hbl]
    refine Zbg 64 [64,64,67,69,71,75,83,93,95,95,95,95,95,111,117,123,123,134,134,134,134,149,161,161,161,161,176,178,184,184,210,227,241,241,258,272,283,295,306,310,318,330,346,349,396,429,440,452,460,485,487,489,496] (fun d E mC=>d=0∧mC=m9∧E=[(4,.pointer (some ⟨pb,0,none⟩)),(6,.pointer (some ⟨xb,0,none⟩)),(13,.slice (some ⟨bo,0,none⟩) k k),(16,.int .i64 (-1)),(17,.bool false),(21,.int .i64 i),(22,.int .i64 j),(24,.int .i64 1)]) _ ⟨_,⟨rfl,rfl,rfl⟩,⟨by rfl,by rfl,by rfl,by rfl,by rfl,by rfl,by rfl,by rfl,trivial⟩⟩ ?_
    rintro d E mC ih ⟨_,hmC,rfl⟩
    rw [hmC]
    by_cases h1b:1 < b
    ·simp [-Int.natCast_add,-w46_116,-BitVec.toNat_or,-BitVec.toNat_ofInt,-BitVec.toNat_and,Zah b45,Zah b37,Zah b40,Za Zak,Zab ld3,Za Za0,Za Zal,Zac u23,Zad u23 bs3 rfl,Za1 u23 sz3,Zam u23 sz3,Zae Zbx,Zai Zck,Zag Zci,Zaf Zch,Za Zat,Zab Zbe,Zaa u23 sz3,Zae Zcj,Za Zas,Zab Zb2,Zaa u24 Zbn,Za Zay,Zab Zce,Zac u28,Zaa u28 Zcc,Za Za9,Za Zau,Za Zan,Zab Zbw,Zaa u41 Za5,Zae Zby,Zag Zb4,Zaf Za5,Za Zav,Za Zaz,Za Za2,Zab Zcr,Zaa u42 sz9,Zab ld9,Za Zaq,Zab Zb1,Zaa u31 Zbd,Za Zar,Za Zap,Zaw u4 .eql (Or.inl rfl),X29,h1b]
     exact Zcq (E:=[(13,.slice (some ⟨bo,0,none⟩) k k),(16,.int .i64 (-1)),(17,.bool false)]) (meth m9 (-1) false (mkH _ _ _ (yr,false) (k9) (hv) rfl (fun hvv=>by simp at hvv) (by omega))) ⟨by rfl,by rfl,by rfl,trivial⟩
    ·simp [-Int.natCast_add,-w46_116,-BitVec.toNat_or,-BitVec.toNat_ofInt,-BitVec.toNat_and,Zah b45,Zah b37,Zah b40,Za Zak,Zab ld3,Za Za0,Za Zal,Zac u23,Zad u23 bs3 rfl,Za1 u23 sz3,Zam u23 sz3,Zae Zbx,Zai Zck,Zag Zci,Zaf Zch,Za Zat,Zab Zbe,Zaa u23 sz3,Zae Zcj,Za Zas,Zab Zb2,Zaa u24 Zbn,Za Zay,Zab Zce,Zac u28,Zaa u28 Zcc,Za Za9,Za Zau,Za Zan,Zab Zbw,Zaa u41 Za5,Zae Zby,Zag Zb4,Zaf Za5,Za Zav,Za Zaz,Za Za2,Zab Zcr,Zaa u42 sz9,Zab ld9,Za Zaq,Zab Zb1,Zaa u31 Zbd,Za Zar,Za Zap,Zaw u4 .eql (Or.inl rfl),X29,h1b]
     exact Zcq (E:=[(13,.slice (some ⟨bo,0,none⟩) k k),(16,.int .i64 (-1)),(17,.bool false)]) (meth m9 (-1) false (mkH _ _ _ (yr,false) (k9) (hv) rfl (fun hvv=>by simp at hvv) (by omega))) ⟨by rfl,by rfl,by rfl,trivial⟩
   have hlD:(Dd.drop 1).length=yps.length:=by rw [List.length_drop];omega
   intro meth
   simp [-Int.natCast_add,-w46_116,-BitVec.toNat_or,-BitVec.toNat_ofInt,-BitVec.toNat_and,Zah b45,Zah b37,Zah b40,Za Zak,Zab ld3,Za Za0,Za Zal,Zac u23,Zad u23 bs3 rfl,Za1 u23 sz3,Zam u23 sz3,Zae Zbx,Zai Zck,Zag Zci,Zaf Zch,Za Zat,Zab Zbe,Zaa u23 sz3,Zae Zcj,Za Zas,Zab Zb2,Zaa u24 Zbn,Za Zay,Zab Zce,Zac u28,Zaa u28 Zcc,Za Za9,Za Zau,Za Zan,Zab Zbw,Zaa u41 Za5,Zae Zby,Zag Zb4,Zaf Za5,Za Zav,Za Zaz,Za Za2,Zab Zcr,Zaa u42 sz9,Zab ld9,Za Zaq,Zab Zb1,Zaa u31 Zbd,Za Zar,Za Zap,Zaw u4 .eql (Or.inl rfl),X0',e,hpt,hlb,t0,P0,P3',X1',emx,hail,lt,hm,tkl,h9,P09',emi,hi,l49,emj,hj',ld19,X29,wb,hbl]
   refine Zbg 64 [64,64,67,69,71,75,83,93,95,95,95,95,95,111,117,123,123,134,134,134,134,149,161,161,161,161,176,178,184,184,210,227,241,241,258,272,283,295,306,310,318,330,346,349,396,429,440,452,460,485,487,489,496] (fun d E mC=>∃ jj:Nat,yps.length - jj=d∧jj≤yps.length∧Zao m9 mC []∧E=[(4,.pointer (some ⟨pb,0,none⟩)),(6,.pointer (some ⟨xb,0,none⟩)),(13,.slice (some ⟨bo,0,none⟩) k k),(15,.pointer (some ⟨tb,0,none⟩)),(16,.int .i64 (-1)),(17,.bool (Zti p.L (Dd.drop 1) yps jj)),(21,.int .i64 i),(22,.int .i64 j),(24,.int .i64 ((jj+1:Nat):Int))]) _ ⟨_,⟨0,rfl,by omega,Zaj _,rfl⟩,⟨by rfl,by rfl,by rfl,by rfl,by rfl,by rw [Zz1];rfl,by rfl,by rfl,by rfl,trivial⟩⟩ ?_
   rintro d E mC ih ⟨jj,hdj,hjl,kC,rfl⟩
   have KC:=k9.trans kC
   have X0C:=(o3.keep (k37.trans KC) (by simp)).load1 (off:=0) rfl
   have X1C:=(o3.keep (k37.trans KC) (by simp)).load1 (off:=1) rfl
   have X2C:=(o3.keep (k37.trans KC) (by simp)).load1 (off:=2) rfl
   have P0C:=(o13.keep (k37.trans KC) (by simp)).load1 (off:=0) rfl
   have P1C:=(o13.keep (k37.trans KC) (by simp)).load1 (off:=1) rfl
   have P3C:=(o13.keep (k37.trans KC) (by simp)).load1 (off:=3) rfl
   have tkC:=(o7.keep KC (by simp)).load (off:=0) 6 (by simp)
   simp [Zb] at tkC
   rw [het] at P0C
   have l4C:=l4 _ KC
   have ld1C:=ld1 _ KC
   have ld2C:=ld2 _ KC
   rcases hft:Zti p.L (Dd.drop 1) yps jj with _ | _
   ·have hv:Za6 p f (op,a,b) Dd=(yr,false):=by rw [hvF,Z2e _ hft]
    by_cases h1b:((jj+1:Nat):Int) < b
    ·simp [-Int.natCast_add,-w46_116,-BitVec.toNat_or,-BitVec.toNat_ofInt,-BitVec.toNat_and,Zah b45,Zah b37,Zah b40,Za Zak,Zab ld3,Za Za0,Za Zal,Zac u23,Zad u23 bs3 rfl,Za1 u23 sz3,Zam u23 sz3,Zae Zbx,Zai Zck,Zag Zci,Zaf Zch,Za Zat,Zab Zbe,Zaa u23 sz3,Zae Zcj,Za Zas,Zab Zb2,Zaa u24 Zbn,Za Zay,Zab Zce,Zac u28,Zaa u28 Zcc,Za Za9,Za Zau,Za Zan,Zab Zbw,Zaa u41 Za5,Zae Zby,Zag Zb4,Zaf Za5,Za Zav,Za Zaz,Za Za2,Zab Zcr,Zaa u42 sz9,Zab ld9,Za Zaq,Zab Zb1,Zaa u31 Zbd,Za Zar,Za Zap,Zaw u4 .eql (Or.inl rfl),X2C,h1b]
     exact Zcq (E:=[(13,.slice (some ⟨bo,0,none⟩) k k),(16,.int .i64 (-1)),(17,.bool false)]) (meth mC (-1) false (mkH _ _ _ (yr,false) (KC) (hv) rfl (fun hvv=>by simp at hvv) (by omega))) ⟨by rfl,by rfl,by rfl,trivial⟩
    ·simp [-Int.natCast_add,-w46_116,-BitVec.toNat_or,-BitVec.toNat_ofInt,-BitVec.toNat_and,Zah b45,Zah b37,Zah b40,Za Zak,Zab ld3,Za Za0,Za Zal,Zac u23,Zad u23 bs3 rfl,Za1 u23 sz3,Zam u23 sz3,Zae Zbx,Zai Zck,Zag Zci,Zaf Zch,Za Zat,Zab Zbe,Zaa u23 sz3,Zae Zcj,Za Zas,Zab Zb2,Zaa u24 Zbn,Za Zay,Zab Zce,Zac u28,Zaa u28 Zcc,Za Za9,Za Zau,Za Zan,Zab Zbw,Zaa u41 Za5,Zae Zby,Zag Zb4,Zaf Za5,Za Zav,Za Zaz,Za Za2,Zab Zcr,Zaa u42 sz9,Zab ld9,Za Zaq,Zab Zb1,Zaa u31 Zbd,Za Zar,Za Zap,Zaw u4 .eql (Or.inl rfl),X2C,h1b]
     exact Zcq (E:=[(13,.slice (some ⟨bo,0,none⟩) k k),(16,.int .i64 (-1)),(17,.bool false)]) (meth mC (-1) false (mkH _ _ _ (yr,false) (KC) (hv) rfl (fun hvv=>by simp at hvv) (by omega))) ⟨by rfl,by rfl,by rfl,trivial⟩
   by_cases hlj:jj < yps.length
   case neg =>
    have hje:jj=yps.length:=by omega
    have hfe:Zhd p.L (Dd.drop 1) yps=true:=by rw [← Z0a _ hlD,← hje,hft]
    rw [hfe] at hvF
    have h1b:¬ ((jj+1:Nat):Int) < b:=by omega
    rcases hyr with hr0 | hrp
    ·rw [hr0] at ld2C hvF
     simp [-Int.natCast_add,-w46_116,-BitVec.toNat_or,-BitVec.toNat_ofInt,-BitVec.toNat_and,Zah b45,Zah b37,Zah b40,Za Zak,Zab ld3,Za Za0,Za Zal,Zac u23,Zad u23 bs3 rfl,Za1 u23 sz3,Zam u23 sz3,Zae Zbx,Zai Zck,Zag Zci,Zaf Zch,Za Zat,Zab Zbe,Zaa u23 sz3,Zae Zcj,Za Zas,Zab Zb2,Zaa u24 Zbn,Za Zay,Zab Zce,Zac u28,Zaa u28 Zcc,Za Za9,Za Zau,Za Zan,Zab Zbw,Zaa u41 Za5,Zae Zby,Zag Zb4,Zaf Za5,Za Zav,Za Zaz,Za Za2,Zab Zcr,Zaa u42 sz9,Zab ld9,Za Zaq,Zab Zb1,Zaa u31 Zbd,Za Zar,Za Zap,Zaw u4 .eql (Or.inl rfl),X2C,h1b,P0C,emi,hi,l4C,emj,hj',ld2C]
     exact Zcq (E:=[(13,.slice (some ⟨bo,0,none⟩) k k),(16,.int .i64 (-1)),(17,.bool true)]) (meth mC (-1) true (mkH _ _ _ (0,true) (KC) (hvF) rfl (fun hvv=>by simp) (by omega))) ⟨by rfl,by rfl,by rfl,trivial⟩
    ·have hr0:¬ yr=0:=fun h=>by rw [h] at hrp;exact absurd hrp (by decide)
     simp [-Int.natCast_add,-w46_116,-BitVec.toNat_or,-BitVec.toNat_ofInt,-BitVec.toNat_and,Zah b45,Zah b37,Zah b40,Za Zak,Zab ld3,Za Za0,Za Zal,Zac u23,Zad u23 bs3 rfl,Za1 u23 sz3,Zam u23 sz3,Zae Zbx,Zai Zck,Zag Zci,Zaf Zch,Za Zat,Zab Zbe,Zaa u23 sz3,Zae Zcj,Za Zas,Zab Zb2,Zaa u24 Zbn,Za Zay,Zab Zce,Zac u28,Zaa u28 Zcc,Za Za9,Za Zau,Za Zan,Zab Zbw,Zaa u41 Za5,Zae Zby,Zag Zb4,Zaf Za5,Za Zav,Za Zaz,Za Za2,Zab Zcr,Zaa u42 sz9,Zab ld9,Za Zaq,Zab Zb1,Zaa u31 Zbd,Za Zar,Za Zap,Zaw u4 .eql (Or.inl rfl),X2C,h1b,P0C,emi,hi,l4C,emj,hj',ld2C,hrp]
     exact Zcq (E:=[(13,.slice (some ⟨bo,0,none⟩) k k),(16,.int .i64 (yr)),(17,.bool true)]) (meth mC (yr) true (mkH _ _ _ (yr,true) (KC) (hvF) rfl (fun hvv=>by simp [hr0]) (by omega))) ⟨by rfl,by rfl,by rfl,trivial⟩
   have h1b:((jj+1:Nat):Int) < b:=by omega
   have hs:=Z0c p.L (l:=Dd.drop 1) (to:=yps) (i:=jj) (by omega) hlj
   rw [hft,Bool.true_and,Ztn] at hs
   obtain⟨zb,zo,hza,_,hzl⟩:=(Rs.iv (hpo.keep KC (by simp))).load (by intro e;rw [e] at hlj;simp at hlj)
   have lz:=hzl jj hlj _ (Zaj _)
   rw [← gd hlj] at lz
   have hvz:=hyL2 _ (List.getElem_mem hlj)
   rw [← gd hlj] at hvz
   obtain⟨mD,hF,kF⟩:=fitsH _ hlb mC KC (jj+1) ((jj+1:Nat):Int) rfl (by omega) _ hvz
   rw [← hs] at hF
   rw [hza] at ld1C
   generalize yps.getD jj 0=zz at lz hF
   have emz:(jj:Int)≤9223372036854775807:=by omega
   have wj:IntKind.i64.wrap (((jj+1:Nat):Int)+1)=((jj+1+1:Nat):Int):=by rw [Zbh (by omega) (by omega)];omega
   have wz:IntKind.i64.wrap (((jj+1:Nat):Int) - 1)=(jj:Int):=by rw [Zbh (by omega) (by omega)];omega
   simp [-Int.natCast_add,-w46_116,-BitVec.toNat_or,-BitVec.toNat_ofInt,-BitVec.toNat_and,Zah b45,Zah b37,Zah b40,Za Zak,Zab ld3,Za Za0,Za Zal,Zac u23,Zad u23 bs3 rfl,Za1 u23 sz3,Zam u23 sz3,Zae Zbx,Zai Zck,Zag Zci,Zaf Zch,Za Zat,Zab Zbe,Zaa u23 sz3,Zae Zcj,Za Zas,Zab Zb2,Zaa u24 Zbn,Za Zay,Zab Zce,Zac u28,Zaa u28 Zcc,Za Za9,Za Zau,Za Zan,Zab Zbw,Zaa u41 Za5,Zae Zby,Zag Zb4,Zaf Za5,Za Zav,Za Zaz,Za Za2,Zab Zcr,Zaa u42 sz9,Zab ld9,Za Zaq,Zab Zb1,Zaa u31 Zbd,Za Zar,Za Zap,Zaw u4 .eql (Or.inl rfl),hlb,X2C,h1b,tkC,P0C,emi,hi,l4C,emj,hj',ld1C,wz,emz,hlj,lz,hF,wj]
   exact ih _ _ _ _ ⟨jj+1,rfl,by omega,kC.trans kF,rfl⟩ (by omega) ⟨by rfl,by rfl,by rfl,by rfl,by rfl,by simp [Zcm],by rfl,by rfl,by simp [Zcm],trivial⟩
  by_cases d41:op=41
  ·have e:=d41
   have X0':=X0
   rw [e] at X0'
   have hta:(tn:Int)=a:=by have:=htn;rw [e] at this;simp [Zcp] at this;omega
   have h41k:∀ (v:Int × Bool),Za6 p f (op,a,b) Dd=v→v.2=true→0 < k→R=(32,[]):=by
    intro v hv h2 hk0
    rw [hGV] at hv
    subst hv
    simp only at h2
    rw [hdr,if_pos ⟨e,h2,by rw [htl];exact hk0⟩]
   have mk41:∀ (mX:Mem) (ok:Bool) (v:Int × Bool),Zao m7 mX []→Za6 p f (op,a,b) Dd=v→ok=v.2→v.1=0→(v.2=true→k=0)→(Zao m7 mX []∧ok=gok∧(ok=true→(-1:Int)=if gt=0 then -1 else gt)∧¬ (op=41∧ok=true∧0 < k)):=by
    intro mX ok v kk hv ho h1 hk0
    rw [hGV] at hv
    subst hv
    simp only at ho h1 hk0
    exact⟨kk,ho,fun _=>by rw [h1];simp,fun h=>by have:=hk0 (ho ▸ h.2.1);omega⟩
   rcases hret e with ha | ha
   ·have X1':=X1
    rw [ha] at X1'
    by_cases hr0:f.res=0
    ·have F2':=F2
     rw [hr0] at F2'
     have hv:Za6 p f (op,a,b) Dd=(0,true):=by rw [e,ha];simp [Za6,Zdg,hr0]
     by_cases hk0:0 < k
     ·have hk0':(0:Int) < (k:Int):=by omega
      have hRe:=h41k _ hv rfl hk0
      intro meth
      simp [-Int.natCast_add,-w46_116,-BitVec.toNat_or,-BitVec.toNat_ofInt,-BitVec.toNat_and,Zah b45,Zah b37,Zah b40,Za Zak,Zab ld3,Za Za0,Za Zal,Zac u23,Zad u23 bs3 rfl,Za1 u23 sz3,Zam u23 sz3,Zae Zbx,Zai Zck,Zag Zci,Zaf Zch,Za Zat,Zab Zbe,Zaa u23 sz3,Zae Zcj,Za Zas,Zab Zb2,Zaa u24 Zbn,Za Zay,Zab Zce,Zac u28,Zaa u28 Zcc,Za Za9,Za Zau,Za Zan,Zab Zbw,Zaa u41 Za5,Zae Zby,Zag Zb4,Zaf Za5,Za Zav,Za Zaz,Za Za2,Zab Zcr,Zaa u42 sz9,Zab ld9,Za Zaq,Zab Zb1,Zaa u31 Zbd,Za Zar,Za Zap,Zaw u4 .eql (Or.inl rfl),X0',e,X1',F2',hk0,hk0']
      exact⟨by rw [hRe];exact Or.inr ⟨by simp,rfl⟩,K7⟩
     ·have hk0':¬ (0:Int) < (k:Int):=by omega
      intro meth
      simp [-Int.natCast_add,-w46_116,-BitVec.toNat_or,-BitVec.toNat_ofInt,-BitVec.toNat_and,Zah b45,Zah b37,Zah b40,Za Zak,Zab ld3,Za Za0,Za Zal,Zac u23,Zad u23 bs3 rfl,Za1 u23 sz3,Zam u23 sz3,Zae Zbx,Zai Zck,Zag Zci,Zaf Zch,Za Zat,Zab Zbe,Zaa u23 sz3,Zae Zcj,Za Zas,Zab Zb2,Zaa u24 Zbn,Za Zay,Zab Zce,Zac u28,Zaa u28 Zcc,Za Za9,Za Zau,Za Zan,Zab Zbw,Zaa u41 Za5,Zae Zby,Zag Zb4,Zaf Za5,Za Zav,Za Zaz,Za Za2,Zab Zcr,Zaa u42 sz9,Zab ld9,Za Zaq,Zab Zb1,Zaa u31 Zbd,Za Zar,Za Zap,Zaw u4 .eql (Or.inl rfl),X0',e,X1',F2',hk0,hk0']
      exact Zcq (E:=[(13,.slice (some ⟨bo,0,none⟩) k k),(16,.int .i64 (-1)),(17,.bool true)]) (meth m7 (-1) true (mk41 m7 true (0,true) (Zaj _) hv rfl rfl (fun _=>by omega))) ⟨by rfl,by rfl,by rfl,trivial⟩
    ·have hrp:0 < f.res:=by have:=((hP.res f hf).resolve_left hr0).1;omega
     have hv:Za6 p f (op,a,b) Dd=(0,false):=by rw [e,ha];simp [Za6,Zdg,hr0]
     intro meth
     simp [-Int.natCast_add,-w46_116,-BitVec.toNat_or,-BitVec.toNat_ofInt,-BitVec.toNat_and,Zah b45,Zah b37,Zah b40,Za Zak,Zab ld3,Za Za0,Za Zal,Zac u23,Zad u23 bs3 rfl,Za1 u23 sz3,Zam u23 sz3,Zae Zbx,Zai Zck,Zag Zci,Zaf Zch,Za Zat,Zab Zbe,Zaa u23 sz3,Zae Zcj,Za Zas,Zab Zb2,Zaa u24 Zbn,Za Zay,Zab Zce,Zac u28,Zaa u28 Zcc,Za Za9,Za Zau,Za Zan,Zab Zbw,Zaa u41 Za5,Zae Zby,Zag Zb4,Zaf Za5,Za Zav,Za Zaz,Za Za2,Zab Zcr,Zaa u42 sz9,Zab ld9,Za Zaq,Zab Zb1,Zaa u31 Zbd,Za Zar,Za Zap,Zaw u4 .eql (Or.inl rfl),X0',e,X1',F2,hrp]
     exact Zcq (E:=[(13,.slice (some ⟨bo,0,none⟩) k k),(16,.int .i64 (-1)),(17,.bool false)]) (meth m7 (-1) false (mk41 m7 false (0,false) (Zaj _) hv rfl rfl (fun h=>by cases h))) ⟨by rfl,by rfl,by rfl,trivial⟩
   ·have X1':=X1
    rw [ha] at X1'
    by_cases hr0:f.res=0
    ·have F2':=F2
     rw [hr0] at F2'
     have hv:Za6 p f (op,a,b) Dd=(0,false):=by rw [e,ha];simp [Za6,Zdg,hr0]
     intro meth
     simp [-Int.natCast_add,-w46_116,-BitVec.toNat_or,-BitVec.toNat_ofInt,-BitVec.toNat_and,Zah b45,Zah b37,Zah b40,Za Zak,Zab ld3,Za Za0,Za Zal,Zac u23,Zad u23 bs3 rfl,Za1 u23 sz3,Zam u23 sz3,Zae Zbx,Zai Zck,Zag Zci,Zaf Zch,Za Zat,Zab Zbe,Zaa u23 sz3,Zae Zcj,Za Zas,Zab Zb2,Zaa u24 Zbn,Za Zay,Zab Zce,Zac u28,Zaa u28 Zcc,Za Za9,Za Zau,Za Zan,Zab Zbw,Zaa u41 Za5,Zae Zby,Zag Zb4,Zaf Za5,Za Zav,Za Zaz,Za Za2,Zab Zcr,Zaa u42 sz9,Zab ld9,Za Zaq,Zab Zb1,Zaa u31 Zbd,Za Zar,Za Zap,Zaw u4 .eql (Or.inl rfl),X0',e,X1',F2']
     exact Zcq (E:=[(13,.slice (some ⟨bo,0,none⟩) k k),(16,.int .i64 (-1)),(17,.bool false)]) (meth m7 (-1) false (mk41 m7 false (0,false) (Zaj _) hv rfl rfl (fun h=>by cases h))) ⟨by rfl,by rfl,by rfl,trivial⟩
    ·have hvr:=(hP.res f hf).resolve_left hr0
     have hrp:0 < f.res:=by have:=hvr.1;omega
     have hv:Za6 p f (op,a,b) Dd=(0,Zmj p.L (Dd.getD 0 0) f.res):=by
      have h9:Za6 p f (41,1,b) Dd=(0,Zhd p.L Dd [f.res]):=by simp [Za6,Zdg,hr0]
      rw [e,ha,h9,← Zot,← Zs3 (by omega)]
     obtain⟨m8,h8,k8⟩:=fitsH lo rfl m7 (Zaj _) 0 0 rfl (by omega) _ hvr
     rcases hfb:Zmj p.L (Dd.getD 0 0) f.res with _ | _
     ·rw [hfb] at hv h8
      intro meth
      simp [-Int.natCast_add,-w46_116,-BitVec.toNat_or,-BitVec.toNat_ofInt,-BitVec.toNat_and,Zah b45,Zah b37,Zah b40,Za Zak,Zab ld3,Za Za0,Za Zal,Zac u23,Zad u23 bs3 rfl,Za1 u23 sz3,Zam u23 sz3,Zae Zbx,Zai Zck,Zag Zci,Zaf Zch,Za Zat,Zab Zbe,Zaa u23 sz3,Zae Zcj,Za Zas,Zab Zb2,Zaa u24 Zbn,Za Zay,Zab Zce,Zac u28,Zaa u28 Zcc,Za Za9,Za Zau,Za Zan,Zab Zbw,Zaa u41 Za5,Zae Zby,Zag Zb4,Zaf Za5,Za Zav,Za Zaz,Za Za2,Zab Zcr,Zaa u42 sz9,Zab ld9,Za Zaq,Zab Zb1,Zaa u31 Zbd,Za Zar,Za Zap,Zaw u4 .eql (Or.inl rfl),X0',e,X1',F2,hrp,tkl,h8]
      exact Zcq (E:=[(13,.slice (some ⟨bo,0,none⟩) k k),(16,.int .i64 (-1)),(17,.bool false)]) (meth m8 (-1) false (mk41 m8 false (0,false) k8 hv rfl rfl (fun h=>by cases h))) ⟨by rfl,by rfl,by rfl,trivial⟩
     ·rw [hfb] at hv h8
      by_cases hk0:0 < k
      ·have hk0':(0:Int) < (k:Int):=by omega
       have hRe:=h41k _ hv rfl hk0
       intro meth
       simp [-Int.natCast_add,-w46_116,-BitVec.toNat_or,-BitVec.toNat_ofInt,-BitVec.toNat_and,Zah b45,Zah b37,Zah b40,Za Zak,Zab ld3,Za Za0,Za Zal,Zac u23,Zad u23 bs3 rfl,Za1 u23 sz3,Zam u23 sz3,Zae Zbx,Zai Zck,Zag Zci,Zaf Zch,Za Zat,Zab Zbe,Zaa u23 sz3,Zae Zcj,Za Zas,Zab Zb2,Zaa u24 Zbn,Za Zay,Zab Zce,Zac u28,Zaa u28 Zcc,Za Za9,Za Zau,Za Zan,Zab Zbw,Zaa u41 Za5,Zae Zby,Zag Zb4,Zaf Za5,Za Zav,Za Zaz,Za Za2,Zab Zcr,Zaa u42 sz9,Zab ld9,Za Zaq,Zab Zb1,Zaa u31 Zbd,Za Zar,Za Zap,Zaw u4 .eql (Or.inl rfl),X0',e,X1',F2,hrp,tkl,h8,hk0,hk0']
       exact⟨by rw [hRe];exact Or.inr ⟨by simp,rfl⟩,K7.trans k8⟩
      ·have hk0':¬ (0:Int) < (k:Int):=by omega
       intro meth
       simp [-Int.natCast_add,-w46_116,-BitVec.toNat_or,-BitVec.toNat_ofInt,-BitVec.toNat_and,Zah b45,Zah b37,Zah b40,Za Zak,Zab ld3,Za Za0,Za Zal,Zac u23,Zad u23 bs3 rfl,Za1 u23 sz3,Zam u23 sz3,Zae Zbx,Zai Zck,Zag Zci,Zaf Zch,Za Zat,Zab Zbe,Zaa u23 sz3,Zae Zcj,Za Zas,Zab Zb2,Zaa u24 Zbn,Za Zay,Zab Zce,Zac u28,Zaa u28 Zcc,Za Za9,Za Zau,Za Zan,Zab Zbw,Zaa u41 Za5,Zae Zby,Zag Zb4,Zaf Za5,Za Zav,Za Zaz,Za Za2,Zab Zcr,Zaa u42 sz9,Zab ld9,Za Zaq,Zab Zb1,Zaa u31 Zbd,Za Zar,Za Zap,Zaw u4 .eql (Or.inl rfl),X0',e,X1',F2,hrp,tkl,h8,hk0,hk0']
       exact Zcq (E:=[(13,.slice (some ⟨bo,0,none⟩) k k),(16,.int .i64 (-1)),(17,.bool true)]) (meth m8 (-1) true (mk41 m8 true (0,true) k8 hv rfl rfl (fun _=>by omega))) ⟨by rfl,by rfl,by rfl,trivial⟩
  exfalso
  omega
 intro mX g ok ⟨kX,hok,hg,h41⟩
 have KZ:=K7.trans kX
 have oZ:=o57.keep kX (by simp)
 have hmne:m.next≤eb:=by have:=K3.1;omega
 have h41n:¬ (op=41∧gok=true∧0 < Rs0.length):=by rw [htl,← hok];exact h41
 rw [if_neg h41n] at hdr
 rcases hokv:ok with _ | _
 ·have hgf:gok=false:=by rw [← hok,hokv]
  rw [if_pos hgf] at hdr
  simp [-Int.natCast_add,-BitVec.toNat_or,-BitVec.toNat_ofInt,-BitVec.toNat_and,Zah b45,Zah b37,Zah b40,Za Zak,Zab ld3,Za Za0,Za Zal,Zac u23,Zad u23 bs3 rfl,Za1 u23 sz3,Zam u23 sz3,Zae Zbx,Zai Zck,Zag Zci,Zaf Zch,Za Zat,Zab Zbe,Zaa u23 sz3,Zae Zcj,Za Zas,Zab Zb2,Zaa u24 Zbn,Za Zay,Zab Zce,Zac u28,Zaa u28 Zcc,Za Za9,Za Zau,Za Zan,Zab Zbw,Zaa u41 Za5,Zae Zby,Zag Zb4,Zaf Za5,Za Zav,Za Zaz,Za Za2,Zab Zcr,Zaa u42 sz9,Zab ld9,Za Zaq,Zab Zb1,Zaa u31 Zbd,Za Zar,Za Zap,Zaw u4 .eql (Or.inl rfl)]
  exact⟨by rw [hdr];exact Or.inr ⟨by simp,rfl⟩,KZ⟩
 have hgf:¬ gok=false:=by rw [← hok,hokv];simp
 rw [if_neg hgf] at hdr
 have hgv:=hg hokv
 by_cases cz:gt=0
 ·rw [if_pos cz] at hgv
  rw [hgv]
  rw [if_pos cz] at hdr
  rw [if_neg (by rw [htl];omega)] at hdr
  have c60:¬ 60 < k:=by omega
  have c60':¬ (60:Int) < (k:Int):=by omega
  simp [-Int.natCast_add,-BitVec.toNat_or,-BitVec.toNat_ofInt,-BitVec.toNat_and,Zah b45,Zah b37,Zah b40,Za Zak,Zab ld3,Za Za0,Za Zal,Zac u23,Zad u23 bs3 rfl,Za1 u23 sz3,Zam u23 sz3,Zae Zbx,Zai Zck,Zag Zci,Zaf Zch,Za Zat,Zab Zbe,Zaa u23 sz3,Zae Zcj,Za Zas,Zab Zb2,Zaa u24 Zbn,Za Zay,Zab Zce,Zac u28,Zaa u28 Zcc,Za Za9,Za Zau,Za Zan,Zab Zbw,Zaa u41 Za5,Zae Zby,Zag Zb4,Zaf Za5,Za Zav,Za Zaz,Za Za2,Zab Zcr,Zaa u42 sz9,Zab ld9,Za Zaq,Zab Zb1,Zaa u31 Zbd,Za Zar,Za Zap,Zaw u4 .eql (Or.inl rfl),c60,c60']
  exact⟨by rw [hdr];exact Or.inl ⟨rfl,_,_,by rw [htl],⟨by simp [ic],Or.inr ⟨_,rfl,oZ.rdo⟩⟩,hmne⟩,KZ⟩
 ·rw [if_neg cz] at hgv hdr
  rw [hgv]
  have hge:0≤gt:=by
   rcases hgv0 with h | h
   ·omega
   ·have:=h.1;omega
  obtain⟨o8,k8,n8⟩:=Za7 (m:=mX) (cs:=[.int .i64 gt]) (e:=3) rfl
  obtain⟨yb,hyb⟩:∃ z,mX.next=z:=⟨_,rfl⟩
  rw [hyb] at o8 n8
  obtain⟨m8,hm8⟩:∃ mF,mX.new [.int .i64 gt] 3=mF:=⟨_,rfl⟩
  rw [hm8] at o8 k8 n8
  have lg:ldS m8 (.slice (some ⟨yb,0,none⟩) 1 1) 1=some ([.int .i64 gt],1):=by
   simp only [ldS,Nat.one_ne_zero,if_false,Nat.mul_one]
   rw [o8.load (off:=0) 1 (by simp)];rfl
  have oY:=oZ.keep k8 (by simp)
  have hlen1:(Rs0++[gt]).length=k+1:=by rw [List.length_append,htl];rfl
  rw [hlen1] at hdr
  have hXm:m.next≤mX.next:=KZ.1
  by_cases c60:60 < k+1
  ·have c59:59 < k:=by omega
   have c60':(60:Int) < ((k+1:Nat):Int):=by omega
   have c60a:(60:Int) < (k:Int)+1:=by omega
   rw [if_pos c60] at hdr
   simp [-Int.natCast_add,-BitVec.toNat_or,-BitVec.toNat_ofInt,-BitVec.toNat_and,Zah b45,Zah b37,Zah b40,Za Zak,Zab ld3,Za Za0,Za Zal,Zac u23,Zad u23 bs3 rfl,Za1 u23 sz3,Zam u23 sz3,Zae Zbx,Zai Zck,Zag Zci,Zaf Zch,Za Zat,Zab Zbe,Zaa u23 sz3,Zae Zcj,Za Zas,Zab Zb2,Zaa u24 Zbn,Za Zay,Zab Zce,Zac u28,Zaa u28 Zcc,Za Za9,Za Zau,Za Zan,Zab Zbw,Zaa u41 Za5,Zae Zby,Zag Zb4,Zaf Za5,Za Zav,Za Zaz,Za Za2,Zab Zcr,Zaa u42 sz9,Zab ld9,Za Zaq,Zab Zb1,Zaa u31 Zbd,Za Zar,Za Zap,Zaw u4 .eql (Or.inl rfl),hge,hyb,hm8,lg]
   generalize hrb:Zcd _ _ _ _ _ _=rb
   obtain⟨m9,b9,rfl,o9,k9⟩:=Zfm hrb u23 ap3 oY (by simp [ic,htl]) (by simp) (by simp [Zbk]) (by omega) (by omega)
   simp [-Int.natCast_add,-BitVec.toNat_or,-BitVec.toNat_ofInt,-BitVec.toNat_and,Zah b45,Zah b37,Zah b40,Za Zak,Zab ld3,Za Za0,Za Zal,Zac u23,Zad u23 bs3 rfl,Za1 u23 sz3,Zam u23 sz3,Zae Zbx,Zai Zck,Zag Zci,Zaf Zch,Za Zat,Zab Zbe,Zaa u23 sz3,Zae Zcj,Za Zas,Zab Zb2,Zaa u24 Zbn,Za Zay,Zab Zce,Zac u28,Zaa u28 Zcc,Za Za9,Za Zau,Za Zan,Zab Zbw,Zaa u41 Za5,Zae Zby,Zag Zb4,Zaf Za5,Za Zav,Za Zaz,Za Za2,Zab Zcr,Zaa u42 sz9,Zab ld9,Za Zaq,Zab Zb1,Zaa u31 Zbd,Za Zar,Za Zap,Zaw u4 .eql (Or.inl rfl),c59,c60,c60',c60a]
   have K8:Zao m m9 []:=(KZ.trans k8).fresh k9 (by simp;omega)
   exact⟨by rw [hdr];exact Or.inr ⟨by simp,rfl⟩,K8⟩
  ·have c59:¬ 59 < k:=by omega
   have c60':¬ (60:Int) < ((k+1:Nat):Int):=by omega
   have c60a:¬ (60:Int) < (k:Int)+1:=by omega
   rw [if_neg c60] at hdr
   simp [-Int.natCast_add,-BitVec.toNat_or,-BitVec.toNat_ofInt,-BitVec.toNat_and,Zah b45,Zah b37,Zah b40,Za Zak,Zab ld3,Za Za0,Za Zal,Zac u23,Zad u23 bs3 rfl,Za1 u23 sz3,Zam u23 sz3,Zae Zbx,Zai Zck,Zag Zci,Zaf Zch,Za Zat,Zab Zbe,Zaa u23 sz3,Zae Zcj,Za Zas,Zab Zb2,Zaa u24 Zbn,Za Zay,Zab Zce,Zac u28,Zaa u28 Zcc,Za Za9,Za Zau,Za Zan,Zab Zbw,Zaa u41 Za5,Zae Zby,Zag Zb4,Zaf Za5,Za Zav,Za Zaz,Za Za2,Zab Zcr,Zaa u42 sz9,Zab ld9,Za Zaq,Zab Zb1,Zaa u31 Zbd,Za Zar,Za Zap,Zaw u4 .eql (Or.inl rfl),hge,hyb,hm8,lg]
   generalize hrb:Zcd _ _ _ _ _ _=rb
   obtain⟨m9,b9,rfl,o9,k9⟩:=Zfm hrb u23 ap3 oY (by simp [ic,htl]) (by simp) (by simp [Zbk]) (by omega) (by omega)
   simp [-Int.natCast_add,-BitVec.toNat_or,-BitVec.toNat_ofInt,-BitVec.toNat_and,Zah b45,Zah b37,Zah b40,Za Zak,Zab ld3,Za Za0,Za Zal,Zac u23,Zad u23 bs3 rfl,Za1 u23 sz3,Zam u23 sz3,Zae Zbx,Zai Zck,Zag Zci,Zaf Zch,Za Zat,Zab Zbe,Zaa u23 sz3,Zae Zcj,Za Zas,Zab Zb2,Zaa u24 Zbn,Za Zay,Zab Zce,Zac u28,Zaa u28 Zcc,Za Za9,Za Zau,Za Zan,Zab Zbw,Zaa u41 Za5,Zae Zby,Zag Zb4,Zaf Za5,Za Zav,Za Zaz,Za Za2,Zab Zcr,Zaa u42 sz9,Zab ld9,Za Zaq,Zab Zb1,Zaa u31 Zbd,Za Zar,Za Zap,Zaw u4 .eql (Or.inl rfl),c59,c60,c60',c60a]
   have K8:Zao m m9 []:=(KZ.trans k8).fresh k9 (by simp;omega)
   refine⟨?_,K8⟩
   rw [hdr]
   exact Or.inl ⟨rfl,_,_,by rw [hlen1],⟨by simp [ic],Or.inr ⟨_,rfl,by simpa [ic] using o9.rdo⟩⟩,hmne⟩
end Go.Proofs.YtbldiceiindbdaaGreatDoor.base
