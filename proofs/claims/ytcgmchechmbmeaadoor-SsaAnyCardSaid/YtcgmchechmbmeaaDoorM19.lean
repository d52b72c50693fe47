/- This text proves what the document's 'shape' answers, Zbx the abstract run. Condition: nothing is known of the calls ahead ('S f = []'). -/
import Derived.Test.YtcgmchechmbmeaaDoorM8
set_option linter.unusedVariables false
set_option linter.unusedSimpArgs false
section
set_option maxRecDepth 100000
namespace Go.Proofs.YtcgmchechmbmeaaDoor.base
open Go.Sh gen
variable {S:Zb4}{m:Mem}
def Ze2 (u:UnT.D)(k:Int):Bool:=Zas k (nv u) && Zgj (Za3 u k).1
def Zhl (f:Zeg.D):Bool:=!decide (40 < List.length f.2.2.1) && !decide (60 < List.length f.2.2.2.1)
def Zrw (u:UnT.D)(fs:List Zeg.D):Bool:=!decide (fs.length < 1) && !decide (30 < fs.length) && (fs.all Zhl && (Zbh fs).all (Ze2 u))
def Zhw (n:Nat)(op N st:Int)(l:List Int):Bool:=
 !(decide (op < 1) || decide (23 < op) || (decide (op=20) && !decide (l.length=1)) || (decide (op=1) && !Zas N 40) || (decide (op=1) && decide (1073741824 < N)) || ((decide (op=22) || decide (op=23)) && !Zas st n))
def Ziu (u:UnT.D)(v:Za9.D):Bool:=Zhw (ns u) v.1 v.2.2.2.1 v.2.2.2.2.2.1 v.2.2.2.2.1 && (Zcm v.1 v.2.1 v.2.2.1 v.2.2.2.2.1).all (Ze2 u)
def Zlr (e:Int):Option Nat:=if e=1 then some 1 else if e=2 then some 2 else if e=3 then some 0 else none
def Zjx (u:UnT.D)(e c st:Int)(l:List Int):Bool:=match Zlr e with
 | none=>false
 | some n=>!(!decide (l.length=n) || (decide (e=2) && !Ze2 u c) || (decide (e=3) && !Zas st (ns u)))
def Zqh (u:UnT.D)(b:Zct.D):Bool:=Zjx u b.2.1 b.2.2.1 b.2.2.2.2.2.1 b.2.2.2.1 && (show List Int from b.2.2.2.1).all (fun k=>Zas k (nb u))
abbrev SeS:=List Bool × Nat
def Zgw (u:UnT.D):List Int→SeS→Option SeS
 | [],s=>some s
 | v::r,s=>if !Zas v (nv u) || s.1.getD v.toNat false then none else Zgw u r (s.1.set v.toNat true,s.2+1)
def shB (u:UnT.D):List Zct.D→SeS→Bool
 | [],s=>decide (s.2=nv u)
 | b::r,s=>Zqh u b && match Zgw u b.1 s with
  | none=>false
  | some s'=>shB u r s'
def Znf (u:UnT.D):Bool:=!(decide (3000 < nv u) || decide (300 < nb u) || decide (nb u < 1) || decide (1000 < ns u))
def Zd6 (u:UnT.D):Bool:=Znf u && ((show List StT.D from u.2.2.2.2.1).all (fun s=>Zrw u s.1) && ((show List Za9.D from u.2.2.1).all (Ziu u) && shB u u.2.2.2.1 (List.replicate (nv u) false,0)))
structure Nsh (S:Zb4):Prop where
 shape:S 26=[]
 frames:S 50=[]
 inn:S 51=[]
 gives:S 52=[]
 uses:S 17=[]
set_option maxHeartbeats 16000000 in
theorem Zze (hN:Nsh S){Q:Nat→Prop}{u:UnT.D}{vo bo so:Option Addr}(hU:UAt Q m u vo bo so)(hQ:∀ f,Q f→f < m.next)(hz:Zli u) :
  ∃ v m1,Zaq Tryd.prog TT S 26 [.agg (Za1 u vo bo so).toArray] m=some (v,m1)∧v=.bool (Zd6 u)∧Zaa m m1 []:=by
 obtain⟨oU,kU,nU⟩:=Zar (m:=m) (cs:=Za1 u vo bo so) (e:=29) rfl
 obtain⟨mB,hmB⟩:∃ mB,m.new (Za1 u vo bo so) 29=mB:=⟨_,rfl⟩
 obtain⟨ub,hub⟩:∃ ub,m.next=ub:=⟨_,rfl⟩
 rw [hmB,hub] at oU nU
 rw [hmB] at kU
 have u2:=oU.load1 (off:=2) rfl
 have u3:=oU.load1 (off:=3) rfl
 have u4:=oU.load1 (off:=4) rfl
 obtain⟨R,hR⟩:∃ R,Zd6 u=R:=⟨_,rfl⟩
 rw [hR]
 have hUB:=hU.keep kU (by simp)
 have hQB:∀ f,Q f→f < mB.next:=fun f h=>by have:=hQ f h;have:=kU.1;omega
 refine Zhk 255 [255,257,259,304,307,319,324,346] k26 hN.shape rfl ?_
 by_cases c1:(3000:Int) < nv u
 ·have:R=false:=by rw [← hR];simp [Zd6,Znf,show 3000 < nv u by omega]
  rw [this]
  simp [-Int.natCast_add,Zbn b29,hmB,hub,u2,c1]
  exact kU
 by_cases c2:(300:Int) < nb u
 ·have:R=false:=by rw [← hR];simp [Zd6,Znf,show 300 < nb u by omega]
  rw [this]
  simp [-Int.natCast_add,Zbn b29,hmB,hub,u2,u3,c1,c2]
  exact kU
 by_cases c3:(nb u:Int) < 1
 ·have:R=false:=by rw [← hR];simp [Zd6,Znf,show nb u < 1 by omega]
  rw [this]
  simp [-Int.natCast_add,Zbn b29,hmB,hub,u2,u3,c1,c2,c3]
  exact kU
 by_cases c4:(1000:Int) < ns u
 ·have:R=false:=by rw [← hR];simp [Zd6,Znf,show 1000 < ns u by omega]
  rw [this]
  simp [-Int.natCast_add,Zbn b29,hmB,hub,u2,u3,u4,c1,c2,c3,c4]
  exact kU
 simp [-Int.natCast_add,Zbn b29,hmB,hub,u2,u3,u4,c1,c2,c3,c4]
 have hsz:Znf u=true:=by
  unfold Znf
  rw [decide_eq_false (show ¬ 3000 < nv u by omega),decide_eq_false (show ¬ 300 < nb u by omega),decide_eq_false (show ¬ nb u < 1 by omega),decide_eq_false (show ¬ 1000 < ns u by omega)];rfl
 have hR1:((show List StT.D from u.2.2.2.2.1).all (fun s=>Zrw u s.1) && ((show List Za9.D from u.2.2.1).all (Ziu u) && shB u u.2.2.2.1 (List.replicate (nv u) false,0)))=R:=by rw [← hR];unfold Zd6;rw [hsz,Bool.true_and]
 clear hR hsz
 obtain⟨X,hX⟩:∃ X,((show List Za9.D from u.2.2.1).all (Ziu u) && shB u u.2.2.2.1 (List.replicate (nv u) false,0))=X:=⟨_,rfl⟩
 rw [hX] at hR1
 refine Zag 255 [255,257,259,304,307,319,324,346] (fun d E mF=>∃ (i:Nat),ns u - i=d∧i≤ns u∧Zaa mB mF []∧(((show List StT.D from u.2.2.2.2.1).drop i).all (fun s=>Zrw u s.1) && X)=R∧
  E=[(1,.pointer (some ⟨ub,0,none⟩)),(3,.int .i64 (i:Int))]) _ ⟨_,⟨0,rfl,by omega,.refl _ _,by rw [List.drop_zero];exact hR1,rfl⟩,⟨by rfl,by rfl,trivial⟩⟩ ?_
 clear hR1
 rintro d E mF ih ⟨i,hd,hi,kF,hr,rfl⟩
 have im:(i:Int)≤9223372036854775807:=by omega
 have u4F:=(oU.keep kF (by simp)).load1 (off:=4) rfl
 have KF:Zaa m mF []:=kU.trans kF
 by_cases hlt:i < ns u
 ·have i1:(i:Int) < ns u:=by omega
  have wi:IntKind.i64.wrap ((i:Int)+1)=((i+1:Nat):Int):=by rw [Zab (by omega) (by omega)];omega
  obtain⟨sb,fo,hso,lds,hfo⟩:=Zlw (hUB.keep kF (by simp)) hlt
  have hzs:=hz.s _ (List.getElem_mem hlt)
  have hdr:(show List StT.D from u.2.2.2.2.1).drop i=u.2.2.2.2.1[i]::(show List StT.D from u.2.2.2.2.1).drop (i+1):=List.drop_eq_getElem_cons hlt
  rw [hdr,List.all_cons] at hr
  clear hdr
  obtain⟨fs,hfs⟩:∃ fs:List Zeg.D,(u.2.2.2.2.1[i]).1=fs:=⟨_,rfl⟩
  rw [show Zrw u (u.2.2.2.2.1[i]).1=Zrw u fs from by rw [← hfs]] at hr
  rw [hfs] at lds hfo hzs
  have lds0:=lds mF [] (.refl _ _) (by simp)
  rw [hso] at u4F
  by_cases d1:(fs.length:Int) < 1
  ·have:R=false:=by rw [← hr];simp [Zrw,show fs.length < 1 by omega]
   rw [this]
   simp [-Int.natCast_add,i1,im,hlt,u4F,lds0,d1]
   exact KF
  by_cases d2:(30:Int) < fs.length
  ·have:R=false:=by rw [← hr];simp [Zrw,show 30 < fs.length by omega]
   rw [this]
   simp [-Int.natCast_add,i1,im,hlt,u4F,lds0,d1,d2]
   exact KF
  simp [-Int.natCast_add,i1,im,hlt,u4F,lds0,d1,d2]
  have e12:(!decide (fs.length < 1) && !decide (30 < fs.length))=true:=by rw [decide_eq_false (show ¬ fs.length < 1 by omega),decide_eq_false (show ¬ 30 < fs.length by omega)];rfl
  have e0:Zrw u fs=(fs.all Zhl && (Zbh fs).all (Ze2 u)):=by unfold Zrw;rw [e12,Bool.true_and]
  rw [e0] at hr
  obtain⟨Y,hY⟩:∃ Y,((Zbh fs).all (Ze2 u) && (((show List StT.D from u.2.2.2.2.1).drop (i+1)).all (fun s=>Zrw u s.1) && X))=Y:=⟨_,rfl⟩
  rw [Bool.and_assoc,Bool.and_assoc,hY] at hr
  refine Zag 255 [255,257,259,304,307,319,324,346] (fun d2 E mG=>∃ (k:Nat),fs.length - k=d2∧k≤fs.length∧Zaa mB mG []∧Zaa mF mG []∧((fs.drop k).all Zhl && Y)=R∧(∀ f∈fs.take k,Zhl f=true)∧
   E=[(1,.pointer (some ⟨ub,0,none⟩)),(3,.int .i64 (i:Int)),(4,.int .i64 (k:Int))]) _ ⟨_,⟨0,rfl,by omega,kF,.refl _ _,by rw [List.drop_zero];exact hr,by simp,rfl⟩,⟨by rfl,by rfl,by rfl,trivial⟩⟩ ?_
  clear hr
  rintro d2 E mG ih2 ⟨k,hd2,hk,kG,kFG,hr,hok,rfl⟩
  have km:(k:Int)≤9223372036854775807:=by omega
  have u4G:=(oU.keep kG (by simp)).load1 (off:=4) rfl
  have KG:Zaa m mG []:=kU.trans kG
  have lds1:=lds mG [] kFG (by simp)
  rw [hso] at u4G
  by_cases hkt:k < fs.length
  ·have k1:(k:Int) < fs.length:=by omega
   have wk:IntKind.i64.wrap ((k:Int)+1)=((k+1:Nat):Int):=by rw [Zab (by omega) (by omega)];omega
   obtain⟨fb,la,sa,hfb,ldf,_,_⟩:=Zou (hfo.keep kFG (by simp)) hkt
   rw [List.drop_eq_getElem_cons hkt,List.all_cons] at hr
   have htk:fs.take (k+1)=fs.take k++[fs[k]]:=List.take_succ_eq_append_getElem hkt
   generalize fs[k]=F at *
   have q2:=Zbo (k:=2) ldf rfl
   have q3:=Zbo (k:=3) ldf rfl
   obtain⟨n1,hn1⟩:∃ n1:Nat,List.length F.2.2.1=n1:=⟨_,rfl⟩
   obtain⟨n2,hn2⟩:∃ n2:Nat,List.length F.2.2.2.1=n2:=⟨_,rfl⟩
   rw [hn1] at q2
   rw [hn2] at q3
   rw [hfb] at lds1
   by_cases d3:(40:Int) < n1
   ·have:R=false:=by rw [← hr];simp [Zhl,show 40 < List.length F.2.2.1 by omega]
    rw [this]
    simp [-Int.natCast_add,im,hlt,u4G,lds1,k1,km,hkt,q2,d3]
    exact KG
   by_cases d4:(60:Int) < n2
   ·have:R=false:=by rw [← hr];simp [Zhl,show 60 < List.length F.2.2.2.1 by omega]
    rw [this]
    simp [-Int.natCast_add,im,hlt,u4G,lds1,k1,km,hkt,q2,q3,d3,d4]
    exact KG
   have ef:Zhl F=true:=by unfold Zhl;rw [decide_eq_false (show ¬ 40 < List.length F.2.2.1 by omega),decide_eq_false (show ¬ 60 < List.length F.2.2.2.1 by omega)];rfl
   rw [ef,Bool.true_and] at hr
   simp [-Int.natCast_add,im,hlt,u4G,lds1,k1,km,hkt,q2,q3,d3,d4,wk]
   exact ih2 _ _ _ _ ⟨k+1,rfl,by omega,kG,kFG,hr,fun f hf=>by
    rw [htk] at hf
    rcases List.mem_append.1 hf with h | h
    ·exact hok f h
    ·simp at h;subst h;exact ef,rfl⟩ (by omega) ⟨by rfl,by rfl,by rfl,trivial⟩
  clear ih2
  have k1:¬ (k:Int) < fs.length:=by omega
  rw [List.drop_of_length_le (by omega),List.all_nil,Bool.true_and] at hr
  rw [List.take_of_length_le (by omega)] at hok
  obtain⟨v,mH,ef,⟨ao,rfl,hil⟩,kH⟩:=Znw hN.frames (fun f h=>by have:=hQB f h;have:=kG.1;omega) (hfo.keep kFG (by simp)) (by omega) (fun f hf=>by
   have:=hok f hf
   unfold Zhl at this
   simp at this
   omega)
  have hfl:=Zjg (fs:=fs) (fun f hf=>by
   have:=hok f hf
   unfold Zhl at this
   simp at this
   omega)
  simp [-Int.natCast_add,im,hlt,u4G,lds1,k1,ef]
  obtain⟨l,hl⟩:∃ l,Zbh fs=l:=⟨_,rfl⟩
  rw [hl] at hil hfl hY ef ⊢
  have KH:Zaa mB mH []:=kG.trans kH
  rw [← hY] at hr
  refine Zag 255 [255,257,259,304,307,319,324,346] (fun d2 E mI=>∃ (k:Nat),l.length - k=d2∧k≤l.length∧mI=mH∧((l.drop k).all (Ze2 u) && (((show List StT.D from u.2.2.2.2.1).drop (i+1)).all (fun s=>Zrw u s.1) && X))=R∧
   E=[(1,.pointer (some ⟨ub,0,none⟩)),(3,.int .i64 (i:Int)),(5,.slice ao l.length l.length),(6,.int .i64 (k:Int))]) _ ⟨_,⟨0,rfl,by omega,rfl,by rw [List.drop_zero];exact hr,rfl⟩,(by repeat' constructor)⟩ ?_
  clear hr hY hok
  rintro d2 E mI ih2 ⟨k,hd2,hk,rfl,hr,rfl⟩
  have km:(k:Int)≤9223372036854775807:=by omega
  have u2H:=(oU.keep KH (by simp)).load1 (off:=2) rfl
  by_cases hkt:k < l.length
  ·have k1:(k:Int) < l.length:=by omega
   have wk:IntKind.i64.wrap ((k:Int)+1)=((k+1:Nat):Int):=by rw [Zab (by omega) (by omega)];omega
   rw [Za7 hkt,List.all_cons] at hr
   obtain⟨rb,rfl,lj⟩:=hil.get hkt
   obtain⟨x,hx⟩:∃ x,l.getD k 0=x:=⟨_,rfl⟩
   rw [hx] at lj hr
   have br:=Zhs (m:=mI) hN.inn x (nv u)
   by_cases hb:Zas x (nv u)=true
   case neg =>
    have hb':Zas x (nv u)=false:=by simpa using hb
    have:R=false:=by rw [← hr];simp [Ze2,hb']
    rw [this]
    rw [hb'] at br
    simp [-Int.natCast_add,-List.getD_eq_getElem?_getD,k1,km,hkt,lj,u2H,br]
    exact kU.trans KH
   rw [hb] at br
   have hb2:=hb
   unfold Zas at hb2
   simp at hb2
   obtain⟨n,rfl⟩:∃ n:Nat,x=(n:Int):=⟨x.toNat,by omega⟩
   have hn:n < nv u:=by omega
   have n1:(n:Int) < nv u:=by omega
   have n2:(n:Int)≤9223372036854775807:=by omega
   obtain⟨xb,ao',fa,hxv,ldx,_,_⟩:=Ziy (hUB.keep KH (by simp)) hn
   have lop:=Zbo (k:=0) ldx rfl
   rw [Nat.add_zero] at lop
   have gr:=Zmu (m:=mI) hN.gives (Za3 u n).1
   unfold Ze2 at hr
   rw [hb,Bool.true_and] at hr
   rw [Zc6 hn] at hr gr
   rw [hxv] at u2H
   obtain⟨o,ho⟩:∃ o:Int,(u.2.2.1[n]).1=o:=⟨_,rfl⟩
   rw [ho] at lop
   rw [show (u.2.2.1[n]).1=o from ho] at hr gr
   by_cases hg:Zgj o=true
   ·rw [hg] at gr
    rw [hg,Bool.true_and] at hr
    simp [-Int.natCast_add,-List.getD_eq_getElem?_getD,k1,km,hkt,lj,u2H,br,n2,hn,lop,gr,wk]
    exact ih2 _ _ _ _ ⟨k+1,rfl,by omega,rfl,hr,rfl⟩ (by omega) (by repeat' constructor)
   ·have hg':Zgj o=false:=by simpa using hg
    have:R=false:=by rw [← hr,hg'];rfl
    rw [this]
    rw [hg'] at gr
    simp [-Int.natCast_add,-List.getD_eq_getElem?_getD,k1,km,hkt,lj,u2H,br,n2,hn,lop,gr]
    exact kU.trans KH
  clear ih2
  have k1:¬ (k:Int) < l.length:=by omega
  rw [List.drop_of_length_le (by omega),List.all_nil,Bool.true_and] at hr
  simp [-Int.natCast_add,k1,wi]
  exact ih _ _ _ _ ⟨i+1,rfl,by omega,KH,hr,rfl⟩ (by omega) ⟨by rfl,by rfl,trivial⟩
 clear ih
 have i1:¬ (i:Int) < ns u:=by omega
 rw [List.drop_of_length_le (show (show List StT.D from u.2.2.2.2.1).length≤i from Nat.not_lt.1 hlt),List.all_nil,Bool.true_and,← hX] at hr
 simp [-Int.natCast_add,-List.getD_eq_getElem?_getD,i1,u4F]
 clear hX X i1 hlt im hi hd KF u4F
 obtain⟨X,hX⟩:∃ X,shB u u.2.2.2.1 (List.replicate (nv u) false,0)=X:=⟨_,rfl⟩
 rw [hX] at hr
 refine Zag 255 [255,257,259,304,307,319,324,346] (fun d E mF=>∃ (i:Nat),nv u - i=d∧i≤nv u∧Zaa mB mF []∧(((show List Za9.D from u.2.2.1).drop i).all (Ziu u) && X)=R∧
  E=[(1,.pointer (some ⟨ub,0,none⟩)),(7,.int .i64 (i:Int))]) _ ⟨_,⟨0,rfl,by omega,kF,by rw [List.drop_zero];exact hr,rfl⟩,⟨by rfl,by rfl,trivial⟩⟩ ?_
 clear hr kF i mF
 rintro d E mF ih ⟨i,hd,hi,kF,hr,rfl⟩
 have im:(i:Int)≤9223372036854775807:=by omega
 have u2F:=(oU.keep kF (by simp)).load1 (off:=2) rfl
 have KF:Zaa m mF []:=kU.trans kF
 by_cases hlt:i < nv u
 ·have i1:(i:Int) < nv u:=by omega
  have wi:IntKind.i64.wrap ((i:Int)+1)=((i+1:Nat):Int):=by rw [Zab (by omega) (by omega)];omega
  obtain⟨xb,ao,fa,hxv,ldx,hrs,hqf⟩:=Ziy (hUB.keep kF (by simp)) hlt
  have hzv:=hz.v _ (List.getElem_mem hlt)
  have hdr:(show List Za9.D from u.2.2.1).drop i=u.2.2.1[i]::(show List Za9.D from u.2.2.1).drop (i+1):=List.drop_eq_getElem_cons hlt
  rw [hdr,List.all_cons] at hr
  clear hdr
  generalize u.2.2.1[i]=V at *
  have hil:Zah Q mF ao V.2.2.2.2.1:=⟨fa,hrs,hqf⟩
  obtain⟨op,hop⟩:∃ o:Int,V.1=o:=⟨_,rfl⟩
  obtain⟨a,ha⟩:∃ o:Int,V.2.1=o:=⟨_,rfl⟩
  obtain⟨b,hb⟩:∃ o:Int,V.2.2.1=o:=⟨_,rfl⟩
  obtain⟨nn,hnn⟩:∃ o:Int,V.2.2.2.1=o:=⟨_,rfl⟩
  obtain⟨al,hal⟩:∃ o:List Int,V.2.2.2.2.1=o:=⟨_,rfl⟩
  obtain⟨st,hst⟩:∃ o:Int,V.2.2.2.2.2.1=o:=⟨_,rfl⟩
  have erv:Ziu u V=(Zhw (ns u) op nn st al && (Zcm op a b al).all (Ze2 u)):=by rw [← hop,← ha,← hb,← hnn,← hal,← hst];rfl
  rw [erv] at hr
  rw [hal] at hil
  rw [show List.length V.2.2.2.2.1=al.length from by rw [← hal]] at hzv
  unfold Zlt at ldx
  rw [hop,ha,hb,hnn,hst,hal] at ldx
  clear hop ha hb hnn hst hal erv hrs hqf
  obtain⟨N,hN1⟩:∃ N,al.length=N:=⟨_,rfl⟩
  rw [hN1] at ldx
  obtain⟨oZ,kZ,nZ⟩:=Zar (m:=mF) (cs:=[.int .i64 0,.int .i64 0,.int .i64 0,.int .i64 0,.slice none 0 0,.int .i64 0]) (e:=43) rfl
  obtain⟨bx,hbx⟩:∃ bx,mF.next=bx:=⟨_,rfl⟩
  obtain⟨m3,e3,oX,kX⟩:=Zap (r:=_) rfl oZ (off:=0) (vs:=[.int .i64 op,.int .i64 a,.int .i64 b,.int .i64 nn,.slice ao N N,.int .i64 st]) (by simp) (by simp [Zau,Zae])
  simp [Zbx] at oX
  have k3:=kZ.fresh kX (by simp)
  rw [hbx] at oX nZ e3
  have K3:=kF.trans k3
  have x0:=oX.load1 (off:=0) rfl
  have x3:=oX.load1 (off:=3) rfl
  have x4:=oX.load1 (off:=4) rfl
  have x5:=oX.load1 (off:=5) rfl
  have u4X:=(oU.keep K3 (by simp)).load1 (off:=4) rfl
  have br1:=Zhs (m:=m3) hN.inn nn 40
  have br2:=Zhs (m:=m3) hN.inn st (ns u)
  have ldv:=oX.load 6 (off:=0) (by simp)
  simp [Zao] at ldv
  rw [hxv] at u2F
  simp [-Int.natCast_add,i1,im,hlt,u2F,ldx,hbx,e3]
  apply Zxk (fun (_:Unit)=>Zhw (ns u) op nn st al=true)
  case main =>
   intro meth
   obtain⟨z,_⟩:∃ z:Unit,True:=⟨(),trivial⟩
   by_cases e1:op < 1
   ·have:R=false:=by rw [← hr];simp [Zhw,e1]
    rw [this]
    simp [-Int.natCast_add,-w26_24,x0,e1]
    exact kU.trans K3
   by_cases e2:23 < op
   ·have:R=false:=by rw [← hr];simp [Zhw,e2]
    rw [this]
    simp [-Int.natCast_add,-w26_24,x0,e1,e2]
    exact kU.trans K3
   by_cases e20:op=20
   ·by_cases eN:(N:Int)=1
    ·simp [-Int.natCast_add,-w26_24,x0,x4,e20,eN]
     exact Zbz (E:=[(1,.pointer (some ⟨ub,0,none⟩)),(7,.int .i64 (i:Int)),(8,.pointer (some ⟨bx,0,none⟩))]) (meth z (by simp [Zhw,e20,show al.length=1 by omega])) ⟨by rfl,by rfl,by rfl,trivial⟩
    ·have:R=false:=by rw [← hr];simp [Zhw,e20,show ¬ al.length=1 by omega]
     rw [this]
     simp [-Int.natCast_add,-w26_24,x0,x4,e20,eN]
     exact kU.trans K3
   by_cases e21:op=1
   ·by_cases eb:Zas nn 40=true
    ·rw [eb] at br1
     have eb2:=eb
     unfold Zas at eb2
     simp at eb2
     have eb3:¬ 1073741824 < nn:=by omega
     simp [-Int.natCast_add,-w26_24,x0,x3,e21,br1,eb3]
     exact Zbz (E:=[(1,.pointer (some ⟨ub,0,none⟩)),(7,.int .i64 (i:Int)),(8,.pointer (some ⟨bx,0,none⟩))]) (meth z (by simp [Zhw,e21,eb];omega)) ⟨by rfl,by rfl,by rfl,trivial⟩
    ·have eb':Zas nn 40=false:=by simpa using eb
     rw [eb'] at br1
     have:R=false:=by rw [← hr];simp [Zhw,e21,eb']
     rw [this]
     simp [-Int.natCast_add,-w26_24,x0,x3,e21,br1]
     exact kU.trans K3
   by_cases e22:op=22∨op=23
   ·by_cases eb:Zas st (ns u)=true
    ·rw [eb] at br2
     rcases e22 with e22 | e22
     ·simp [-Int.natCast_add,-w26_24,x0,x5,u4X,e22,br2]
      exact Zbz (E:=[(1,.pointer (some ⟨ub,0,none⟩)),(7,.int .i64 (i:Int)),(8,.pointer (some ⟨bx,0,none⟩))]) (meth z (by simp [Zhw,e22,eb])) ⟨by rfl,by rfl,by rfl,trivial⟩
     ·simp [-Int.natCast_add,-w26_24,x0,x5,u4X,e22,br2]
      exact Zbz (E:=[(1,.pointer (some ⟨ub,0,none⟩)),(7,.int .i64 (i:Int)),(8,.pointer (some ⟨bx,0,none⟩))]) (meth z (by simp [Zhw,e22,eb])) ⟨by rfl,by rfl,by rfl,trivial⟩
    ·have eb':Zas st (ns u)=false:=by simpa using eb
     rw [eb'] at br2
     have:R=false:=by rw [← hr];rcases e22 with e22 | e22 <;> simp [Zhw,e22,eb']
     rw [this]
     rcases e22 with e22 | e22
     ·simp [-Int.natCast_add,-w26_24,x0,x5,u4X,e22,br2]
      exact kU.trans K3
     ·simp [-Int.natCast_add,-w26_24,x0,x5,u4X,e22,br2]
      exact kU.trans K3
   have e23:¬ op=22:=fun h=>e22 (Or.inl h)
   have e24:¬ op=23:=fun h=>e22 (Or.inr h)
   simp [-Int.natCast_add,-w26_24,x0,e1,e2,e20,e21,e23,e24]
   exact Zbz (E:=[(1,.pointer (some ⟨ub,0,none⟩)),(7,.int .i64 (i:Int)),(8,.pointer (some ⟨bx,0,none⟩))]) (meth z (by simp [Zhw,e20,e21,e23,e24];omega)) ⟨by rfl,by rfl,by rfl,trivial⟩
  intro _ hvo
  rw [hvo,Bool.true_and] at hr
  obtain⟨v,mU,eU,⟨uo,rfl,huI⟩,kU3⟩:=Zp7 (m:=m3) hN.uses (Q:=Q) (op:=op) (a:=a) (b:=b) (n:=nn) (st:=st) (l:=al) (by omega) (hil.keep k3 (by simp))
  rw [hN1] at eU
  have hul:=Zj5 op a b al
  obtain⟨l,hl⟩:∃ l,Zcm op a b al=l:=⟨_,rfl⟩
  rw [hl] at huI eU hul hr
  simp [-Int.natCast_add,ldv,eU]
  have KH:=K3.trans kU3
  rw [Bool.and_assoc] at hr
  refine Zag 255 [255,257,259,304,307,319,324,346] (fun d2 E mI=>∃ (k:Nat),l.length - k=d2∧k≤l.length∧mI=mU∧((l.drop k).all (Ze2 u) && (((show List Za9.D from u.2.2.1).drop (i+1)).all (Ziu u) && X))=R∧
   E=[(1,.pointer (some ⟨ub,0,none⟩)),(7,.int .i64 (i:Int)),(9,.slice uo l.length l.length),(10,.int .i64 (k:Int))]) _ ⟨_,⟨0,rfl,by omega,rfl,by rw [List.drop_zero];exact hr,rfl⟩,(by repeat' constructor)⟩ ?_
  clear hr
  rintro d2 E mI ih2 ⟨k,hd2,hk,rfl,hr,rfl⟩
  have km:(k:Int)≤9223372036854775807:=by omega
  have u2H:=(oU.keep KH (by simp)).load1 (off:=2) rfl
  by_cases hkt:k < l.length
  ·have k1:(k:Int) < l.length:=by omega
   have wk:IntKind.i64.wrap ((k:Int)+1)=((k+1:Nat):Int):=by rw [Zab (by omega) (by omega)];omega
   rw [Za7 hkt,List.all_cons] at hr
   obtain⟨rb,rfl,lj⟩:=huI.get hkt
   obtain⟨x,hx⟩:∃ x,l.getD k 0=x:=⟨_,rfl⟩
   rw [hx] at lj hr
   have br:=Zhs (m:=mI) hN.inn x (nv u)
   by_cases hb:Zas x (nv u)=true
   case neg =>
    have hb':Zas x (nv u)=false:=by simpa using hb
    have:R=false:=by rw [← hr];simp [Ze2,hb']
    rw [this]
    rw [hb'] at br
    simp [-Int.natCast_add,-List.getD_eq_getElem?_getD,k1,km,hkt,lj,u2H,br]
    exact kU.trans KH
   rw [hb] at br
   have hb2:=hb
   unfold Zas at hb2
   simp at hb2
   obtain⟨n,rfl⟩:∃ n:Nat,x=(n:Int):=⟨x.toNat,by omega⟩
   have hn:n < nv u:=by omega
   have n1:(n:Int) < nv u:=by omega
   have n2:(n:Int)≤9223372036854775807:=by omega
   obtain⟨xb',ao',fa',hxv',ldx',_,_⟩:=Ziy (hUB.keep KH (by simp)) hn
   have lop:=Zbo (k:=0) ldx' rfl
   rw [Nat.add_zero] at lop
   have gr:=Zmu (m:=mI) hN.gives (Za3 u n).1
   unfold Ze2 at hr
   rw [hb,Bool.true_and] at hr
   rw [Zc6 hn] at hr gr
   rw [hxv'] at u2H
   obtain⟨o,ho⟩:∃ o:Int,(u.2.2.1[n]).1=o:=⟨_,rfl⟩
   rw [ho] at lop
   rw [show (u.2.2.1[n]).1=o from ho] at hr gr
   by_cases hg:Zgj o=true
   ·rw [hg] at gr
    rw [hg,Bool.true_and] at hr
    simp [-Int.natCast_add,-List.getD_eq_getElem?_getD,k1,km,hkt,lj,u2H,br,n2,hn,lop,gr,wk]
    exact ih2 _ _ _ _ ⟨k+1,rfl,by omega,rfl,hr,rfl⟩ (by omega) (by repeat' constructor)
   ·have hg':Zgj o=false:=by simpa using hg
    have:R=false:=by rw [← hr,hg'];rfl
    rw [this]
    rw [hg'] at gr
    simp [-Int.natCast_add,-List.getD_eq_getElem?_getD,k1,km,hkt,lj,u2H,br,n2,hn,lop,gr]
    exact kU.trans KH
  clear ih2
  have k1:¬ (k:Int) < l.length:=by omega
  rw [List.drop_of_length_le (by omega),List.all_nil,Bool.true_and] at hr
  simp [-Int.natCast_add,k1,wi]
  exact ih _ _ _ _ ⟨i+1,rfl,by omega,KH,hr,rfl⟩ (by omega) ⟨by rfl,by rfl,trivial⟩
 clear ih
 have i1:¬ (i:Int) < nv u:=by omega
 rw [List.drop_of_length_le (show (show List Za9.D from u.2.2.1).length≤i from Nat.not_lt.1 hlt),List.all_nil,Bool.true_and,← hX] at hr
 have hzb:=Zid (nv u) (by omega)
 have hzc:List.replicate (nv u) (Value.bool false)=Zc8 (List.replicate (nv u) false):=by simp [Zc8]
 rw [hzc] at hzb
 obtain⟨oS,kS,nS⟩:=Zar (m:=mF) (cs:=Zc8 (List.replicate (nv u) false)) (e:=4) rfl
 obtain⟨sb,hsb⟩:∃ sb,mF.next=sb:=⟨_,rfl⟩
 obtain⟨mS,hmS⟩:∃ mS,mF.new (Zc8 (List.replicate (nv u) false)) 4=mS:=⟨_,rfl⟩
 rw [hmS,hsb] at oS nS
 rw [hmS] at kS
 have n1:(nv u:Int)≤9223372036854775807:=by omega
 have n3:nv u≤281474976710656:=by omega
 simp [-Int.natCast_add,-List.map_replicate,-List.getD_eq_getElem?_getD,Ze7 u60 ap4,i1,u2F,hzb,n1,n3,hmS,hsb]
 have hsbm:mB.next≤sb:=by have:=kF.1;omega
 have KS:=kF.trans kS
 obtain⟨sn0,hsn0⟩:∃ sn,List.replicate (nv u) false=sn:=⟨_,rfl⟩
 have hsl0:sn0.length=nv u:=by rw [← hsn0];simp
 rw [hsn0] at hr oS
 clear hX X i1 hlt im hi hd KF u2F hmS hzb hzc hsn0 kF kS
 obtain⟨LL,hLL⟩:∃ LL:Nat,LL=20000000000000:=⟨_,rfl⟩
 refine Zag 255 [255,257,259,304,307,319,324,346] (fun d E mF=>∃ (i:Nat) (sn:List Bool) (ct:Nat),nb u - i=d∧i≤nb u∧Zaa mB mF []∧Own mF sb (Zc8 sn) 4 sb∧sn.length=nv u∧ct≤i * LL∧shB u (u.2.2.2.1.drop i) (sn,ct)=R∧
  E=[(1,.pointer (some ⟨ub,0,none⟩)),(11,.slice (some ⟨sb,0,none⟩) (nv u) (nv u)),(12,.int .i64 (ct:Int)),(13,.int .i64 (i:Int))]) _ ⟨_,⟨0,sn0,0,rfl,by omega,KS,oS,hsl0,by simp,by rw [List.drop_zero];exact hr,rfl⟩,(by repeat' constructor)⟩ ?_
 clear hr KS oS hsl0 sn0 i
 rintro d E mF ih ⟨i,sn,ct,hd,hi,kF,oS,lsn,hct,hr,rfl⟩
 have im:(i:Int)≤9223372036854775807:=by omega
 have u3F:=(oU.keep kF (by simp)).load1 (off:=3) rfl
 have u2F:=(oU.keep kF (by simp)).load1 (off:=2) rfl
 have KF:Zaa m mF []:=kU.trans kF
 by_cases hlt:i < nb u
 ·have i1:(i:Int) < nb u:=by omega
  have wi:IntKind.i64.wrap ((i:Int)+1)=((i+1:Nat):Int):=by rw [Zab (by omega) (by omega)];omega
  obtain⟨bb,vo',no',po',hbo,ldb,hvo',hno',_⟩:=Zf0 (hUB.keep kF (by simp)) hlt
  have hzb:=hz.b _ (List.getElem_mem hlt)
  rw [List.drop_eq_getElem_cons hlt,shB] at hr
  generalize u.2.2.2.1[i]=B at *
  obtain⟨e,he⟩:∃ o:Int,B.2.1=o:=⟨_,rfl⟩
  obtain⟨c,hc⟩:∃ o:Int,B.2.2.1=o:=⟨_,rfl⟩
  obtain⟨st,hst⟩:∃ o:Int,B.2.2.2.2.2.1=o:=⟨_,rfl⟩
  obtain⟨vl,hvl⟩:∃ o:List Int,B.1=o:=⟨_,rfl⟩
  obtain⟨nl,hnl⟩:∃ o:List Int,B.2.2.2.1=o:=⟨_,rfl⟩
  have ere:Zqh u B=(Zjx u e c st nl && nl.all (fun k=>Zas k (nb u))):=by rw [← he,← hc,← hst,← hnl];rfl
  rw [ere,show (B.1:List Int)=vl from hvl] at hr
  rw [hvl] at hvo'
  rw [hnl] at hno'
  unfold Zwe at ldb
  rw [he,hc,hst,hvl,hnl] at ldb
  rw [hvl,hnl] at hzb
  clear he hc hst hvl hnl ere
  obtain⟨NV,hNV⟩:∃ N,vl.length=N:=⟨_,rfl⟩
  obtain⟨NN,hNN⟩:∃ N,nl.length=N:=⟨_,rfl⟩
  obtain⟨NP,hNP⟩:∃ N,List.length B.2.2.2.2.1=N:=⟨_,rfl⟩
  rw [hNV,hNN,hNP] at ldb
  obtain⟨oZ,kZ,nZ⟩:=Zar (m:=mF) (cs:=[.slice none 0 0,.int .i64 0,.int .i64 0,.slice none 0 0,.slice none 0 0,.int .i64 0]) (e:=36) rfl
  obtain⟨bx,hbx⟩:∃ bx,mF.next=bx:=⟨_,rfl⟩
  obtain⟨m3,e3,oX,kX⟩:=Zap (r:=_) rfl oZ (off:=0) (vs:=[.slice vo' NV NV,.int .i64 e,.int .i64 c,.slice no' NN NN,.slice po' NP NP,.int .i64 st]) (by simp) (by simp [Zau,Zae])
  simp [Zbx] at oX
  have k3:=kZ.fresh kX (by simp)
  rw [hbx] at oX nZ e3
  have K3:=kF.trans k3
  have hsbx:sb < bx:=by have:=oS.flt;omega
  have oS3:=oS.keep k3 (by simp)
  have x0:=oX.load1 (off:=0) rfl
  have x1:=oX.load1 (off:=1) rfl
  have x2:=oX.load1 (off:=2) rfl
  have x3:=oX.load1 (off:=3) rfl
  have x5:=oX.load1 (off:=5) rfl
  have u2X:=(oU.keep K3 (by simp)).load1 (off:=2) rfl
  have u3X:=(oU.keep K3 (by simp)).load1 (off:=3) rfl
  have u4X:=(oU.keep K3 (by simp)).load1 (off:=4) rfl
  have br1:=Zhs (m:=m3) hN.inn c (nv u)
  have br2:=Zhs (m:=m3) hN.inn st (ns u)
  have U3:=hUB.keep K3 (by simp)
  have hvo3:=hvo'.keep k3 (by simp)
  have hno3:=hno'.keep k3 (by simp)
  rw [hbo] at u3F
  simp [-Int.natCast_add,i1,im,hlt,u3F,ldb,hbx,e3,x1]
  apply Zxk (fun (n:Nat)=>Zjx u e c st nl=true∧nl.length=n)
  case main =>
   intro meth
   by_cases e1:e=1
   ·by_cases eN:NN=1
    ·obtain⟨z,hz⟩:∃ z,1=z:=⟨_,rfl⟩
     simp [-Int.natCast_add,-w26_47,x1,x3,e1,eN]
     exact Zbz (E:=[(1,.pointer (some ⟨ub,0,none⟩)),(11,.slice (some ⟨sb,0,none⟩) (nv u) (nv u)),(12,.int .i64 (ct:Int)),(13,.int .i64 (i:Int)),(14,.pointer (some ⟨bx,0,none⟩)),(15,.int .i64 (z:Int))]) (meth z ⟨by simp [Zjx,Zlr,e1,hNN,eN],by omega⟩) ⟨by rfl,by rfl,by rfl,by rfl,by rfl,by subst hz;rfl,trivial⟩
    ·have:R=false:=by rw [← hr];simp [Zjx,Zlr,e1,hNN,eN]
     have eN':¬ (NN:Int)=1:=by omega
     rw [this]
     simp [-Int.natCast_add,-w26_47,x3,e1,eN']
     exact kU.trans K3
   by_cases e2:e=2
   ·by_cases eN:NN=2
    case neg =>
     have:R=false:=by rw [← hr];simp [Zjx,Zlr,e2,hNN,eN]
     have eN':¬ (NN:Int)=2:=by omega
     rw [this]
     simp [-Int.natCast_add,-w26_47,x3,e2,eN']
     exact kU.trans K3
    by_cases hb:Zas c (nv u)=true
    case neg =>
     have hb':Zas c (nv u)=false:=by simpa using hb
     have:R=false:=by rw [← hr];simp [Zjx,Zlr,e2,hNN,eN,Ze2,hb']
     rw [this]
     rw [hb'] at br1
     simp [-Int.natCast_add,-w26_47,x1,x2,x3,e2,eN,u2X,br1]
     exact kU.trans K3
    rw [hb] at br1
    have hb2:=hb
    unfold Zas at hb2
    simp at hb2
    obtain⟨n,hcn⟩:∃ n:Nat,c=(n:Int):=⟨c.toNat,by omega⟩
    have hn:n < nv u:=by omega
    have n1:(n:Int) < nv u:=by omega
    have n2:(n:Int)≤9223372036854775807:=by omega
    obtain⟨xb',ao',fa',hxv',ldx',_,_⟩:=Ziy U3 hn
    have lop:=Zbo (k:=0) ldx' rfl
    rw [Nat.add_zero] at lop
    have gr:=Zmu (m:=m3) hN.gives (Za3 u n).1
    have hrg:Ze2 u c=Zgj (Za3 u n).1:=by unfold Ze2;rw [hb,hcn,Bool.true_and]
    rw [Zc6 hn] at gr hrg
    rw [hxv'] at u2X
    obtain⟨o,ho⟩:∃ o:Int,(u.2.2.1[n]).1=o:=⟨_,rfl⟩
    rw [ho] at lop
    rw [show (u.2.2.1[n]).1=o from ho] at gr hrg
    rw [hcn] at br1 x2
    by_cases hg:Zgj o=true
    ·rw [hg] at gr hrg
     obtain⟨z,hz⟩:∃ z,2=z:=⟨_,rfl⟩
     simp [-Int.natCast_add,-w26_47,x1,x2,x3,e2,eN,u2X,br1,n2,hn,lop,gr]
     exact Zbz (E:=[(1,.pointer (some ⟨ub,0,none⟩)),(11,.slice (some ⟨sb,0,none⟩) (nv u) (nv u)),(12,.int .i64 (ct:Int)),(13,.int .i64 (i:Int)),(14,.pointer (some ⟨bx,0,none⟩)),(15,.int .i64 (z:Int))]) (meth z ⟨by simp [Zjx,Zlr,e2,hNN,eN,hrg],by omega⟩) ⟨by rfl,by rfl,by rfl,by rfl,by rfl,by subst hz;rfl,trivial⟩
    ·have hg':Zgj o=false:=by simpa using hg
     rw [hg'] at gr hrg
     have:R=false:=by rw [← hr];simp [Zjx,Zlr,e2,hNN,eN,hrg]
     rw [this]
     simp [-Int.natCast_add,-w26_47,x1,x2,x3,e2,eN,u2X,br1,n2,hn,lop,gr]
     exact kU.trans K3
   by_cases e3':e=3
   ·by_cases eN:NN=0
    case neg =>
     have:R=false:=by rw [← hr];simp [Zjx,Zlr,e3',hNN,eN]
     have eN':¬ (NN:Int)=0:=by omega
     rw [this]
     simp [-Int.natCast_add,-w26_47,x3,e3',eN]
     exact kU.trans K3
    by_cases hb:Zas st (ns u)=true
    ·rw [hb] at br2
     obtain⟨z,hz⟩:∃ z,0=z:=⟨_,rfl⟩
     simp [-Int.natCast_add,-w26_47,x1,x5,x3,e3',eN,u4X,br2]
     exact Zbz (E:=[(1,.pointer (some ⟨ub,0,none⟩)),(11,.slice (some ⟨sb,0,none⟩) (nv u) (nv u)),(12,.int .i64 (ct:Int)),(13,.int .i64 (i:Int)),(14,.pointer (some ⟨bx,0,none⟩)),(15,.int .i64 (z:Int))]) (meth z ⟨by simp [Zjx,Zlr,e3',hNN,eN,hb],by omega⟩) ⟨by rfl,by rfl,by rfl,by rfl,by rfl,by subst hz;rfl,trivial⟩
    ·have hb':Zas st (ns u)=false:=by simpa using hb
     rw [hb'] at br2
     have:R=false:=by rw [← hr];simp [Zjx,Zlr,e3',hNN,eN,hb']
     rw [this]
     simp [-Int.natCast_add,-w26_47,x1,x5,x3,e3',eN,u4X,br2]
     exact kU.trans K3
   have:R=false:=by rw [← hr];simp [Zjx,Zlr,e1,e2,e3']
   rw [this]
   simp [-Int.natCast_add,-w26_47,e1,e2,e3']
   exact kU.trans K3
  intro n ⟨hro,hnn⟩
  rw [hro,Bool.true_and] at hr
  subst hnn
  obtain⟨Y,hY⟩:∃ Y,(match Zgw u vl (sn,ct) with | none=>false | some s'=>shB u (u.2.2.2.1.drop (i+1)) s')=Y:=⟨_,rfl⟩
  rw [hY] at hr
  rw [hNN] at hzb ⊢
  simp [-Int.natCast_add]
  have nnm:(NN:Int)≤9223372036854775807:=by omega
  refine Zag 255 [255,257,259,304,307,319,324,346] (fun d2 E mI=>∃ (k:Nat),NN - k=d2∧k≤NN∧mI=m3∧((nl.drop k).all (fun k=>Zas k (nb u)) && Y)=R∧
   E=[(1,.pointer (some ⟨ub,0,none⟩)),(11,.slice (some ⟨sb,0,none⟩) (nv u) (nv u)),(12,.int .i64 (ct:Int)),(13,.int .i64 (i:Int)),(14,.pointer (some ⟨bx,0,none⟩)),(15,.int .i64 (NN:Int)),(16,.int .i64 (k:Int))]) _ ⟨_,⟨0,rfl,by omega,rfl,by rw [List.drop_zero];exact hr,rfl⟩,(by repeat' constructor)⟩ ?_
  clear hr br1 br2
  rintro d2 E mI ih2 ⟨k,hd2,hk,rfl,hr,rfl⟩
  have km:(k:Int)≤9223372036854775807:=by omega
  by_cases hkt:k < NN
  ·have k1:(k:Int) < NN:=by omega
   have wk:IntKind.i64.wrap ((k:Int)+1)=((k+1:Nat):Int):=by rw [Zab (by omega) (by omega)];omega
   rw [Za7 (by omega),List.all_cons] at hr
   obtain⟨rb,hrb,lj⟩:=hno3.get (i:=k) (by omega)
   rw [hrb] at x3
   obtain⟨x,hx⟩:∃ x,nl.getD k 0=x:=⟨_,rfl⟩
   rw [hx] at lj hr
   have br:=Zhs (m:=mI) hN.inn x (nb u)
   obtain⟨bv,hbv⟩:∃ bv,Zas x (nb u)=bv:=⟨_,rfl⟩
   rw [hbv] at br hr
   cases bv with
   | true =>
    rw [Bool.true_and] at hr
    simp [-Int.natCast_add,-List.getD_eq_getElem?_getD,k1,km,hkt,lj,x3,u3X,br,wk]
    exact ih2 _ _ _ _ ⟨k+1,rfl,by omega,rfl,hr,rfl⟩ (by omega) (by repeat' constructor)
   | false =>
    have:R=false:=by rw [← hr];rfl
    rw [this]
    simp [-Int.natCast_add,-List.getD_eq_getElem?_getD,k1,km,hkt,lj,x3,u3X,br]
    exact kU.trans K3
  clear ih2
  have k1:¬ (k:Int) < NN:=by omega
  rw [List.drop_of_length_le (by omega),List.all_nil,Bool.true_and,← hY] at hr
  simp [-Int.natCast_add,k1]
  clear hY Y hkt k1 km hk hd2
  refine Zag 255 [255,257,259,304,307,319,324,346] (fun d2 E mG=>∃ (k:Nat) (sn:List Bool) (ct:Nat),NV - k=d2∧k≤NV∧Zaa mI mG [sb]∧Own mG sb (Zc8 sn) 4 sb∧sn.length=nv u∧ct≤i * LL+k∧(match Zgw u (vl.drop k) (sn,ct) with | none=>false | some s'=>shB u (u.2.2.2.1.drop (i+1)) s')=R∧
   E=[(1,.pointer (some ⟨ub,0,none⟩)),(11,.slice (some ⟨sb,0,none⟩) (nv u) (nv u)),(12,.int .i64 (ct:Int)),(13,.int .i64 (i:Int)),(14,.pointer (some ⟨bx,0,none⟩)),(17,.int .i64 (k:Int))]) _ ⟨_,⟨0,sn,ct,rfl,by omega,.refl _ _,oS3,lsn,by omega,by rw [List.drop_zero];exact hr,rfl⟩,(by repeat' constructor)⟩ ?_
  clear hr oS3 oS hct lsn
  rintro d2 E mG ih2 ⟨k,sn,ct,hd2,hk,kG,oS,lsn,hct,hr,rfl⟩
  have km:(k:Int)≤9223372036854775807:=by omega
  have cm:i * LL≤300 * LL:=Nat.mul_le_mul_right _ (by omega)
  have KG:Zaa mB mG []:=K3.fresh kG (by simp;omega)
  have x0G:=(oX.keep kG (by simp;omega)).load1 (off:=0) rfl
  have u2G:=(oU.keep KG (by simp)).load1 (off:=2) rfl
  by_cases hkt:k < NV
  ·have k1:(k:Int) < NV:=by omega
   have wk:IntKind.i64.wrap ((k:Int)+1)=((k+1:Nat):Int):=by rw [Zab (by omega) (by omega)];omega
   have wc:IntKind.i64.wrap ((ct:Int)+1)=((ct+1:Nat):Int):=by rw [Zab (by omega) (by omega)];omega
   rw [Za7 (by omega),Zgw] at hr
   obtain⟨rb,hrb,lj⟩:=(hvo3.keep kG (by simp;intro hq;have:=hQB _ hq;omega)).get (i:=k) (by omega)
   rw [hrb] at x0G
   obtain⟨x,hx⟩:∃ x,vl.getD k 0=x:=⟨_,rfl⟩
   rw [hx] at lj hr
   have br:=Zhs (m:=mG) hN.inn x (nv u)
   by_cases hb:Zas x (nv u)=true
   case neg =>
    have hb':Zas x (nv u)=false:=by simpa using hb
    have:R=false:=by rw [← hr];simp [hb']
    rw [this]
    rw [hb'] at br
    simp [-Int.natCast_add,-List.getD_eq_getElem?_getD,k1,km,hkt,lj,x0G,u2G,br]
    exact kU.trans KG
   rw [hb] at br
   have hb2:=hb
   unfold Zas at hb2
   simp at hb2
   obtain⟨n,rfl⟩:∃ n:Nat,x=(n:Int):=⟨x.toNat,by omega⟩
   have hn:n < nv u:=by omega
   have n1:(n:Int) < nv u:=by omega
   have n2:(n:Int)≤9223372036854775807:=by omega
   have lsb:=oS.load1 (off:=n) (Zhf (by omega))
   rw [hb,Int.toNat_natCast] at hr
   obtain⟨y,hy⟩:∃ y,sn.getD n false=y:=⟨_,rfl⟩
   rw [hy] at lsb hr
   cases y with
   | true =>
    have:R=false:=by rw [← hr];rfl
    rw [this]
    simp [-Int.natCast_add,-List.getD_eq_getElem?_getD,k1,km,hkt,lj,x0G,u2G,br,lsb,n2,hn]
    exact kU.trans KG
   | false =>
    obtain⟨mH,eH,oH,kH⟩:=Zi oS (i:=n) (by omega) true
    simp [-Int.natCast_add,-List.getD_eq_getElem?_getD,k1,km,hkt,lj,x0G,u2G,br,lsb,n2,hn,eH,wk,wc]
    exact ih2 _ _ _ _ ⟨k+1,sn.set n true,ct+1,rfl,by omega,kG.trans kH,oH,by simpa using lsn,by omega,hr,rfl⟩ (by omega) (by repeat' constructor)
  clear ih2
  have k1:¬ (k:Int) < NV:=by omega
  rw [List.drop_of_length_le (by omega),Zgw] at hr
  simp [-Int.natCast_add,k1,x0G,wi]
  exact ih _ _ _ _ ⟨i+1,sn,ct,rfl,by omega,KG,oS,lsn,by rw [Nat.add_mul];omega,hr,rfl⟩ (by omega) (by repeat' constructor)
 clear ih
 have i1:¬ (i:Int) < nb u:=by omega
 rw [List.drop_of_length_le (show u.2.2.2.1.length≤i from Nat.not_lt.1 hlt),shB] at hr
 have hdec:decide ((ct:Int)=nv u)=R:=by rw [← hr];exact decide_eq_decide.2 (by omega)
 by_cases hcv:ct=nv u
 ·have:R=true:=by rw [← hdec,hcv];simp
  rw [this]
  simp [-Int.natCast_add,i1,u3F,u2F,hcv]
  exact KF
 ·have hcv':¬ (ct:Int)=nv u:=by omega
  have:R=false:=by rw [← hdec];exact decide_eq_false hcv'
  rw [this]
  simp [-Int.natCast_add,i1,u3F,u2F,hcv']
  exact KF
end Go.Proofs.YtcgmchechmbmeaaDoor.base
end
section
set_option maxRecDepth 100000
namespace Go.Proofs.YtcgmchechmbmeaaDoor.base
open Go.Sh gen
variable {S:Zb4}{m:Mem}
noncomputable def Zzj (L:List (List Int))(a b:Nat):Bool:=@decide (¬ Wo L a b) (Classical.propDecidable _)
theorem Zrm {L:List (List Int)}{a b:Nat}:Zzj L a b=true↔¬ Wo L a b:=by
 unfold Zzj
 exact @decide_eq_true_iff _ (Classical.propDecidable _)
noncomputable def Zb1 (L:List (List Int))(bl pl:List Int)(a b k:Int):Bool:=
 if bl.getD a.toNat 0=b then decide (pl.getD a.toNat 0 < k) else Zzj L (bl.getD a.toNat 0).toNat b.toNat
abbrev Z3x (u:UnT.D)(vo bo so:Option Addr)(b1 b2 db:Nat):List Value:=[.int .i64 u.1,.int .i64 u.2.1,.slice vo (nv u) (nv u),.slice bo (nb u) (nb u),.slice so (ns u) (ns u),.slice (some ⟨b1,0,none⟩) (nv u) (nv u),.slice (some ⟨b2,0,none⟩) (nv u) (nv u),.slice (some ⟨db,0,none⟩) (nb u) (nb u)]
structure Zwa (m0 m:Mem)(u:UnT.D)(b1 b2 db:Nat)(bl pl:List Int)(L:List (List Int))(C:List Value):Prop where
 o1:Own m b1 (ints bl) 3 b1
 o2:Own m b2 (ints pl) 3 b2
 d:Zmd m0 m db L C L.length
 hL:L.length=nb u
 l1:bl.length=nv u
 l2:pl.length=nv u
 br:∀ i < nv u,(0:Int)≤bl.getD i 0∧bl.getD i 0 < nb u
theorem Zmd.keep {m0 m m1:Mem}{db k:Nat}{L:List (List Int)}{C:List Value}(h:Zmd m0 m db L C k)(hk:Zaa m m1 []):Zmd m0 m1 db L C k:=
 ⟨h.own.keep hk (by simp),h.len,h.fr,fun a ha=>by
  obtain⟨r,bl,h1,h2,h3⟩:=h.row a ha
  exact⟨r,bl,h1,h2.keep hk (by simp),h3⟩⟩
theorem Zwa.keep {m0 m m1:Mem}{u:UnT.D}{b1 b2 db:Nat}{bl pl:List Int}{L:List (List Int)}{C:List Value}(h:Zwa m0 m u b1 b2 db bl pl L C)(hk:Zaa m m1 []):Zwa m0 m1 u b1 b2 db bl pl L C:=
 ⟨h.o1.keep hk (by simp),h.o2.keep hk (by simp),h.d.keep hk,h.hL,h.l1,h.l2,h.br⟩
set_option maxHeartbeats 4000000 in
theorem Zim (hS:S 31=[]){m0:Mem}{u:UnT.D}{vo bo so:Option Addr}{b1 b2 db:Nat}{bl pl:List Int}{L:List (List Int)}{C:List Value}(hO:Zwa m0 m u b1 b2 db bl pl L C)(hnu:nv u≤1000000)(hnb:nb u≤1000000)
  {a b:Nat} (ha:a < nv u) (hb:b < nb u) (k:Int) :
  ∃ v m1,Zaq Tryd.prog TT S 31 [.agg (Z3x u vo bo so b1 b2 db).toArray,.int .i64 (a:Int),.int .i64 (b:Int),.int .i64 k] m=some (v,m1)∧v=.bool (Zb1 L bl pl a b k)∧Zaa m m1 []:=by
 obtain⟨oU,kU,nU⟩:=Zar (m:=m) (cs:=Z3x u vo bo so b1 b2 db) (e:=66) rfl
 obtain⟨mB,hmB⟩:∃ mB,m.new (Z3x u vo bo so b1 b2 db) 66=mB:=⟨_,rfl⟩
 obtain⟨ub,hub⟩:∃ ub,m.next=ub:=⟨_,rfl⟩
 rw [hmB,hub] at oU nU
 rw [hmB] at kU
 have q5:=oU.load1 (off:=5) rfl
 have q6:=oU.load1 (off:=6) rfl
 have q7:=oU.load1 (off:=7) rfl
 have hB:=hO.keep kU
 have a1:(a:Int) < nv u:=by omega
 have a2:(a:Int)≤9223372036854775807:=by omega
 have b1':(b:Int) < nb u:=by omega
 have b2':(b:Int)≤9223372036854775807:=by omega
 have lb:=hB.o1.load1 (off:=a) (Zcp (by rw [hO.l1];exact ha))
 have lp:=hB.o2.load1 (off:=a) (Zcp (by rw [hO.l2];exact ha))
 have hbr:=hO.br a ha
 obtain⟨x,hx⟩:∃ x:Nat,bl.getD a 0=(x:Int):=⟨(bl.getD a 0).toNat,by omega⟩
 rw [hx] at lb hbr
 have x1:(x:Int) < nb u:=by omega
 have x2:(x:Int)≤9223372036854775807:=by omega
 have x3:x < nb u:=by omega
 obtain⟨r,dl,h1,h2,h3,h4,h5⟩:=hB.d.row x (by rw [hO.hL];exact x3)
 rw [hO.hL] at h1 h3
 have ld:=hB.d.own.load1 (off:=x) h1
 have lr:=h2.load1 (off:=b) (Zhf (by omega))
 have h5b:=h5 b (by rw [hO.hL];exact hb)
 have edom:dl.getD b false=Zzj L x b:=by
  rw [Bool.eq_iff_iff,h5b,Zrm]
 rw [edom] at lr
 obtain⟨p,hp⟩:∃ p,pl.getD a 0=p:=⟨_,rfl⟩
 rw [hp] at lp
 have er:Zb1 L bl pl a b k=if (x:Int)=b then decide (p < k) else Zzj L x b:=by
  unfold Zb1
  rw [Int.toNat_natCast,hx,hp,Int.toNat_natCast,Int.toNat_natCast]
 rw [er]
 refine Zhk 9 [] k31 hS rfl ?_
 by_cases hxb:(x:Int)=b
 ·have:x=b:=by omega
  subst this
  rw [if_pos rfl]
  by_cases hpk:p < k
  ·simp [-Int.natCast_add,-List.getD_eq_getElem?_getD,Zbn b66,hmB,hub,q5,q6,a2,ha,lb,lp,hpk]
   exact kU
  ·simp [-Int.natCast_add,-List.getD_eq_getElem?_getD,Zbn b66,hmB,hub,q5,q6,a2,ha,lb,lp,hpk]
   exact kU
 ·rw [if_neg hxb]
  simp [-Int.natCast_add,-List.getD_eq_getElem?_getD,Zbn b66,hmB,hub,q5,q7,a2,ha,lb,hxb,x2,x3,ld,b2',hb,lr]
  exact kU
set_option maxHeartbeats 4000000 in
theorem Zn1 (hS:S 32=[])(hA:S 31=[])(hF:S 50=[]){Q:Nat→Prop}{m0:Mem}{u:UnT.D}{vo bo so:Option Addr}(hU:UAt Q m u vo bo so)(hQ:∀ f,Q f→f < m.next){b1 b2 db:Nat}{bl pl:List Int}{L:List (List Int)}{C:List Value}(hO:Zwa m0 m u b1 b2 db bl pl L C)(hnu:nv u≤1000000)(hnb:nb u≤1000000)
  {i:Nat} (hi:i < ns u) (hns:ns u≤1000000) {fs:List Zeg.D} (hfs:(u.2.2.2.2.1[i]).1=fs) (hl:fs.length≤1000) (hf:∀ f∈fs,List.length f.2.2.1≤1000∧List.length f.2.2.2.1≤1000) (hv:∀ v∈Zbh fs,(0:Int)≤v∧v < nv u)
  {b:Nat} (hb:b < nb u) (k:Int) :
  ∃ v m1,Zaq Tryd.prog TT S 32 [.agg (Z3x u vo bo so b1 b2 db).toArray,.int .i64 (i:Int),.int .i64 (b:Int),.int .i64 k] m=some (v,m1)∧v=.bool ((Zbh fs).all fun a=>Zb1 L bl pl a b k)∧Zaa m m1 []:=by
 obtain⟨oU,kU,nU⟩:=Zar (m:=m) (cs:=Z3x u vo bo so b1 b2 db) (e:=66) rfl
 obtain⟨mB,hmB⟩:∃ mB,m.new (Z3x u vo bo so b1 b2 db) 66=mB:=⟨_,rfl⟩
 obtain⟨ub,hub⟩:∃ ub,m.next=ub:=⟨_,rfl⟩
 rw [hmB,hub] at oU nU
 rw [hmB] at kU
 have q4:=oU.load1 (off:=4) rfl
 obtain⟨sb,fo,hso,lds,hfo⟩:=Zlw (hU.keep kU (by simp)) hi
 rw [hfs] at lds hfo
 have lds0:=lds mB [] (.refl _ _) (by simp)
 have i1:(i:Int) < ns u:=by omega
 have i2:(i:Int)≤9223372036854775807:=by omega
 obtain⟨v,mH,ef,⟨ao,rfl,hil⟩,kH⟩:=Znw hF (fun f h=>by have:=hQ f h;have:=kU.1;omega) hfo hl hf
 have hfl:=Zjg hf
 obtain⟨l,hle⟩:∃ l,Zbh fs=l:=⟨_,rfl⟩
 rw [hle] at hil hfl ef hv ⊢
 have KH:=kU.trans kH
 have oUH:=oU.keep kH (by simp)
 have ldo:=oUH.load 8 (off:=0) (by simp)
 simp [Zao] at ldo
 rw [hso] at q4
 obtain⟨R,hR⟩:∃ R,(l.all fun a=>Zb1 L bl pl a b k)=R:=⟨_,rfl⟩
 rw [hR]
 refine Zhk 11 [21,32] k32 hS rfl ?_
 simp [-Int.natCast_add,Zbn b66,hmB,hub,q4,i2,hi,lds0,ef]
 refine Zag 11 [21,32] (fun d E mF=>∃ (j:Nat),l.length - j=d∧j≤l.length∧Zaa mH mF []∧((l.drop j).all fun a=>Zb1 L bl pl a b k)=R∧
  E=[(2,.int .i64 (b:Int)),(3,.int .i64 k),(4,.pointer (some ⟨ub,0,none⟩)),(9,.slice ao l.length l.length),(10,.int .i64 (j:Int))]) _ ⟨_,⟨0,rfl,by omega,.refl _ _,by rw [List.drop_zero];exact hR,rfl⟩,(by repeat' constructor)⟩ ?_
 rintro d E mF ih ⟨j,hd,hj,kF,hr,rfl⟩
 have jm:(j:Int)≤9223372036854775807:=by omega
 by_cases hlt:j < l.length
 ·have j1:(j:Int) < l.length:=by omega
  have wj:IntKind.i64.wrap ((j:Int)+1)=((j+1:Nat):Int):=by rw [Zab (by omega) (by omega)];omega
  rw [Za7 hlt,List.all_cons] at hr
  obtain⟨rb,hrb,lj⟩:=(hil.keep kF (by simp)).get hlt
  have hvj:=hv _ (Za6 hlt)
  obtain⟨a,ha⟩:∃ a:Nat,l.getD j 0=(a:Int):=⟨(l.getD j 0).toNat,by omega⟩
  rw [ha] at lj hr hvj
  have ldoF:=(oUH.keep kF (by simp)).load 8 (off:=0) (by simp)
  simp [Zao] at ldoF
  obtain⟨v,mG,ea,rfl,kG⟩:=Zim hA (vo:=vo) (bo:=bo) (so:=so) ((hO.keep KH).keep kF) hnu hnb (a:=a) (by omega) hb k
  rw [hrb] at ih ⊢
  obtain⟨q,hq⟩:∃ q,Zb1 L bl pl a b k=q:=⟨_,rfl⟩
  rw [hq] at ea hr
  cases q with
  | true =>
   rw [Bool.true_and] at hr
   simp [-Int.natCast_add,-List.getD_eq_getElem?_getD,j1,jm,hlt,lj,ldoF,ea,wj]
   exact ih _ _ _ _ ⟨j+1,rfl,by omega,kF.trans kG,hr,rfl⟩ (by omega) (by repeat' constructor)
  | false =>
   have:R=false:=by rw [← hr];rfl
   rw [this]
   simp [-Int.natCast_add,-List.getD_eq_getElem?_getD,j1,jm,hlt,lj,ldoF,ea]
   exact (KH.trans kF).trans kG
 clear ih
 have j1:¬ (j:Int) < l.length:=by omega
 have:R=true:=by rw [← hr,List.drop_of_length_le (by omega)];rfl
 rw [this]
 simp [-Int.natCast_add,-List.getD_eq_getElem?_getD,j1]
 exact KH.trans kF
end Go.Proofs.YtcgmchechmbmeaaDoor.base
end
