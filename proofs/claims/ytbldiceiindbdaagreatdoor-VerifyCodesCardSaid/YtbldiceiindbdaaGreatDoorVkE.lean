/- This text proves that kinds.Right says yes of a table that is right. Condition: nothing is known of the calls ahead ('S f = []'). -/
import Derived.Test.YtbldiceiindbdaaGreatDoorVkD
set_option linter.unusedVariables false
set_option linter.unusedSimpArgs false
set_option maxRecDepth 100000
namespace Go.Proofs.YtbldiceiindbdaaGreatDoor.base
open Go.Sh gen
variable {S:Zed}{m:Mem}
abbrev Zgc (n:Nat)(t:Int):Prop:=1≤t∧t < n∧t≠4
def Zzr (n:Nat)(x:Zdz.D):Prop:=x.2.1.length≤8∧(x.2.2.1=0∨Zgc n x.2.2.1)∧∀ t∈(show List Int from x.2.1),Zgc n t
abbrev tF (x:Zb0.D):List Ze8.D:=x.2.2.2.1
abbrev tM (x:Zb0.D):List Zdz.D:=x.2.2.2.2.1
def Zi6 (x:Zb0.D):List (List UInt8):=(tF x).map (·.1)++(tM x).map (·.1)
structure Zso (n:Nat)(x:Zb0.D):Prop where
 nm:x.2.1≠[]
 el:x.2.2.1=0
 fl:(tF x).length≤12
 ml:(tM x).length≤12
 f:∀ f∈tF x,Zgc n f.2.1
 m:∀ y∈tM x,Zzr n y
 nd:(Zi6 x).Nodup
def Z2q (n:Nat)(x:Zb0.D):Prop:=
 (x.1=5∧Zso n x∧∀ y∈tM x,0≤y.2.2.2.1)∨(x.1=7∧Zso n x∧tF x=[]∧∀ y∈tM x,y.2.2.2.1=-1)∨(x.1=6∧x.2.1=[]∧Zgc n x.2.2.1∧tF x=[]∧tM x=[])
def Zdv (x y:Zb0.D):Prop:=if x.1=6∧y.1=6 then x.2.2.1≠y.2.2.1 else x.1=6∨y.1=6∨x.2.1≠y.2.1
structure Zdp (L:List Zb0.D):Prop where
 lo:5≤L.length
 hi:L.length≤60
 base:∀ (i:Nat) (h:i < L.length) x,Zcs[i]?=some x→L[i]=x
 one:∀ (i:Nat) (h:i < L.length),5≤i→Z2q L.length L[i]
 pair:∀ (i j:Nat) (h:i < L.length) (hj:j < i),Zdv L[i] L[j]
theorem Z1u (hS:S 177=[]){ao:Option Addr}{f:Nat}{l:List (List UInt8)}{s:List UInt8}{n c:Nat}(hn:n≤l.length)(hl:l.length≤1000)(hr:Rs m ao l.length (l.map fun x=>Value.string ⟨x.toArray⟩) 9 1 f)(hno:s∉l.take n) :
  Zbi Tryz.prog TT S 177 [.slice ao n c,.string ⟨s.toArray⟩] m=some (.int .i64 (-1),m):=by
 refine Zgh 9 [9,16] Z7z hS rfl ?_
 simp [-Int.natCast_add,-BitVec.toNat_or,-BitVec.toNat_ofInt,-BitVec.toNat_and,Zac u42,Zaa u42 sz9,Zab ld9]
 refine Zbg 9 [9,16] (fun d E mC=>∃ i:Nat,n - i=d∧i≤n∧mC=m∧E=[(0,.slice ao n c),(1,.string ⟨s.toArray⟩),(6,.slice ao n c),(7,.int .i64 n),(8,.int .i64 i)]) _ ⟨_,⟨0,rfl,by omega,rfl,rfl⟩,⟨by rfl,by rfl,by rfl,by rfl,by rfl,trivial⟩⟩ ?_
 rintro d E mC ih ⟨i,hd,hi,rfl,rfl⟩
 by_cases hln:i < n
 ·have hlt:i < l.length:=by omega
  have i1:(i:Int) < n:=by omega
  have em:(i:Int)≤9223372036854775807:=by omega
  have wi:IntKind.i64.wrap ((i:Int)+1)=((i+1:Nat):Int):=by rw [Zbh (by omega) (by omega)];omega
  obtain⟨ab,rfl,hrb⟩:=hr.rdo (by omega)
  have la:loadRow mC ⟨ab,i,none⟩ 1=some [.string ⟨(l[i]).toArray⟩]:=by
   rw [hrb.load (off:=i) 1 (by simp;omega)]
   simp only [Zb,← List.map_drop,← List.map_take]
   rw [List.drop_eq_getElem_cons hlt]
   rfl
  have hne:¬ s=l[i]:=fun e=>hno (e ▸ List.mem_take_iff_getElem.2 ⟨i,by omega,rfl⟩)
  obtain⟨x,hx⟩:∃ x,l[i]=x:=⟨_,rfl⟩
  rw [hx] at la hne
  have he':¬ x=s:=fun h=>hne h.symm
  simp [-Int.natCast_add,-BitVec.toNat_or,-BitVec.toNat_ofInt,-BitVec.toNat_and,Zac u42,Zaa u42 sz9,Zab ld9,i1,em,hlt,hln,la,hne,he',wi]
  exact ih _ _ _ _ ⟨i+1,rfl,by omega,rfl,rfl⟩ (by omega) ⟨by rfl,by rfl,by rfl,by rfl,by simp [Zcm],trivial⟩
 ·have i1:¬ (i:Int) < n:=by omega
  simp [-Int.natCast_add,-BitVec.toNat_or,-BitVec.toNat_ofInt,-BitVec.toNat_and,Zac u42,Zaa u42 sz9,Zab ld9,i1]
theorem Zwg (hS:S 158=[])(hI:S 177=[]){ao:Option Addr}{f:Nat}{l:List (List UInt8)}{s:List UInt8}{n c:Nat}(hn:n≤l.length)(hl:l.length≤1000)(hr:Rs m ao l.length (l.map fun x=>Value.string ⟨x.toArray⟩) 9 1 f)(hno:s∉l.take n) :
  Zbi Tryz.prog TT S 158 [.slice ao n c,.string ⟨s.toArray⟩] m=some (.bool false,m):=by
 have hc:=Z1u hI (s:=s) (c:=c) hn hl hr hno
 refine Zgh 5 [] Z80 hS rfl ?_
 simp [-Int.natCast_add,-BitVec.toNat_or,-BitVec.toNat_ofInt,-BitVec.toNat_and,id,hc]
theorem Zuq (hS:S 140=[])(hC:S 158=[])(hI:S 177=[]){ao:Option Addr}{f:Nat}{l:List (List UInt8)}(hl:l.length≤1000)(hr:Sl m ao l.length (l.map fun x=>Value.string ⟨x.toArray⟩) 9 1 f)(hnd:l.Nodup) :
  Zbi Tryz.prog TT S 140 [.slice ao l.length l.length] m=some (.bool true,m):=by
 refine Zgh 8 [8,16] Z7h hS rfl ?_
 simp [-Int.natCast_add,-BitVec.toNat_or,-BitVec.toNat_ofInt,-BitVec.toNat_and,Zac u42,Zaa u42 sz9,Zab ld9,Zbz u42 sz9]
 refine Zbg 8 [8,16] (fun d E mC=>∃ i:Nat,l.length - i=d∧i≤l.length∧mC=m∧E=[(0,.slice ao l.length l.length),(5,.slice ao l.length l.length),(6,.int .i64 l.length),(7,.int .i64 i)]) _ ⟨_,⟨0,rfl,by omega,rfl,rfl⟩,⟨by rfl,by rfl,by rfl,by rfl,trivial⟩⟩ ?_
 rintro d E mC ih ⟨i,hd,hi,rfl,rfl⟩
 by_cases hlt:i < l.length
 ·have i1:(i:Int) < l.length:=by omega
  have em:(i:Int)≤9223372036854775807:=by omega
  have wi:IntKind.i64.wrap ((i:Int)+1)=((i+1:Nat):Int):=by rw [Zbh (by omega) (by omega)];omega
  obtain⟨ab,rfl,hrb⟩:=hr.own (by omega)
  have la:loadRow mC ⟨ab,i,none⟩ 1=some [.string ⟨(l[i]).toArray⟩]:=by
   rw [hrb.load (off:=i) 1 (by simp;omega)]
   simp only [Zb,← List.map_drop,← List.map_take]
   rw [List.drop_eq_getElem_cons hlt]
   rfl
  have hno:l[i]∉l.take i:=by
   intro hm
   obtain⟨j,hj,e⟩:=List.mem_take_iff_getElem.1 hm
   exact List.pairwise_iff_getElem.1 hnd j i (by omega) hlt (by omega) e
  have hc:=Zwg hC hI (m:=mC) (s:=l[i]) (n:=i) (c:=i) (by omega) hl hr.rs hno
  have hc2:=Zwg hC hI (m:=mC) (s:=l[i]) (n:=i) (c:=i+1) (by omega) hl hr.rs hno
  obtain⟨x,hx⟩:∃ x,l[i]=x:=⟨_,rfl⟩
  rw [hx] at la hc hc2
  have hle:i≤l.length:=by omega
  simp [-Int.natCast_add,-BitVec.toNat_or,-BitVec.toNat_ofInt,-BitVec.toNat_and,Zac u42,Zaa u42 sz9,Zab ld9,Zbz u42 sz9,i1,em,hlt,hle,la,hc,hc2,wi]
  exact ih _ _ _ _ ⟨i+1,rfl,by omega,rfl,rfl⟩ (by omega) ⟨by rfl,by rfl,by rfl,by simp [Zcm],trivial⟩
 ·have i1:¬ (i:Int) < l.length:=by omega
  simp [-Int.natCast_add,-BitVec.toNat_or,-BitVec.toNat_ofInt,-BitVec.toNat_and,Zac u42,Zaa u42 sz9,Zab ld9,Zbz u42 sz9,i1]
theorem Zut (hS:S 139=[])(hV:S 111=[]){to:Option Addr}{n:Nat}{d:Zdz.D}{c:List Value}(hd:Zdz.wf d)(h:At m Zdz d c)(hL:Zzr n d) :
  ∃ m1,Zbi Tryz.prog TT S 139 [.slice to n n,.agg c.toArray] m=some (.bool true,m1)∧Zao m m1 []:=by
 obtain⟨po,pf,hc,hp⟩:=Zfo h
 rw [hc]
 suffices hg:∃ v m1,Zbi Tryz.prog TT S 139 [.slice to n n,.agg (List.toArray [.string ⟨d.1.toArray⟩,.slice po d.2.1.length d.2.1.length,.int .i64 d.2.2.1,.int .i64 d.2.2.2.1])] m=some (v,m1)∧v=.bool true∧Zao m m1 [] by
  obtain⟨_,m1,h1,rfl,h2⟩:=hg
  exact⟨m1,h1,h2⟩
 refine Zey 27 [27,33] Z7e hS rfl ?_
 simp [-Int.natCast_add,-w139_1,-BitVec.toNat_or,-BitVec.toNat_ofInt,-BitVec.toNat_and,Zah b30,Za Zar,Zab Zbe,Zac u23,Za Zap,Zab ld3,Zaa u23 sz3]
 obtain⟨nm,ps,rs,fu,u⟩:=d
 simp only at hp
 obtain⟨_,⟨hpl,hpw⟩,hrs,_⟩:=hd
 obtain⟨hL1,hL2,hL3⟩:=hL
 simp only at hpl hpw hrs hL1 hL2 hL3
 obtain⟨o1,k1,n1⟩:=Za7 (m:=m) (cs:=[.string ⟨nm.toArray⟩,.slice po ps.length ps.length,.int .i64 rs,.int .i64 fu]) (e:=30) rfl
 obtain⟨xb,hxb⟩:∃ xb,m.next=xb:=⟨_,rfl⟩
 rw [hxb] at o1 n1
 obtain⟨m1,hm1⟩:∃ m1,m.new [.string ⟨nm.toArray⟩,.slice po ps.length ps.length,.int .i64 rs,.int .i64 fu] 30=m1:=⟨_,rfl⟩
 simp only [hxb]
 rw [hm1] at o1 k1 ⊢
 have l1:=o1.load1 (off:=1) rfl
 have l2:=o1.load1 (off:=2) rfl
 have vr:=fun m' t=>Zmu (m:=m') (to:=to) (n:=n) hV t
 have hp1:=hp.keep k1 (by simp)
 have c1:¬ 8 < ps.length:=by omega
 have c1':¬ (8:Int) < ps.length:=by omega
 apply Z2
 case main =>
  rcases hL2 with h0 | hv
  ·intro meth
   simp [-Int.natCast_add,-w139_3,-BitVec.toNat_or,-BitVec.toNat_ofInt,-BitVec.toNat_and,Zah b30,Za Zar,Zab Zbe,Zac u23,Za Zap,Zab ld3,Zaa u23 sz3,l1,l2,c1,c1',h0]
   exact Zcq (E:=[(0,.slice to n n),(3,.pointer (some ⟨xb,0,none⟩))]) meth ⟨by rfl,by rfl,trivial⟩
  ·have vr1:=fun m'=>(vr m' rs).trans (by rw [decide_eq_true hv])
   have h0:¬ rs=0:=fun e=>by rw [e] at hv;exact absurd hv.1 (by decide)
   intro meth
   simp [-Int.natCast_add,-w139_3,-BitVec.toNat_or,-BitVec.toNat_ofInt,-BitVec.toNat_and,Zah b30,Za Zar,Zab Zbe,Zac u23,Za Zap,Zab ld3,Zaa u23 sz3,l1,l2,c1,c1',vr1,h0]
   exact Zcq (E:=[(0,.slice to n n),(3,.pointer (some ⟨xb,0,none⟩))]) meth ⟨by rfl,by rfl,trivial⟩
 simp [-Int.natCast_add,-BitVec.toNat_or,-BitVec.toNat_ofInt,-BitVec.toNat_and,Zah b30,Za Zar,Zab Zbe,Zac u23,Za Zap,Zab ld3,Zaa u23 sz3,l1]
 refine Zbg 27 [27,33] (fun d E mC=>∃ i:Nat,ps.length - i=d∧i≤ps.length∧mC=m1∧E=[(0,.slice to n n),(24,.slice po ps.length ps.length),(25,.int .i64 ps.length),(26,.int .i64 i)]) _ ⟨_,⟨0,rfl,by omega,rfl,rfl⟩,⟨by rfl,by rfl,by rfl,by rfl,trivial⟩⟩ ?_
 rintro d E mC ih ⟨i,hdi,hi,rfl,rfl⟩
 by_cases hlt:i < ps.length
 ·have i1:(i:Int) < ps.length:=by omega
  have em:(i:Int)≤9223372036854775807:=by omega
  have wi:IntKind.i64.wrap ((i:Int)+1)=((i+1:Nat):Int):=by rw [Zbh (by omega) (by omega)];omega
  obtain⟨ab,rfl,hrb⟩:=hp1.rdo (by omega)
  have la:loadRow mC ⟨ab,i,none⟩ 1=some [.int .i64 ps[i]]:=by
   rw [hrb.load (off:=i) 1 (by simp;omega)]
   simp only [Zb,← List.map_drop,← List.map_take]
   rw [List.drop_eq_getElem_cons hlt]
   rfl
  have hv:Zgc n ps[i]:=hL3 _ (List.getElem_mem hlt)
  obtain⟨x,hx⟩:∃ x,ps[i]=x:=⟨_,rfl⟩
  rw [hx] at la hv
  have vr1:=fun m'=>(vr m' x).trans (by rw [decide_eq_true hv])
  simp [-Int.natCast_add,-BitVec.toNat_or,-BitVec.toNat_ofInt,-BitVec.toNat_and,Zah b30,Za Zar,Zab Zbe,Zac u23,Za Zap,Zab ld3,Zaa u23 sz3,i1,em,hlt,la,vr1,wi]
  exact ih _ _ _ _ ⟨i+1,rfl,by omega,rfl,rfl⟩ (by omega) ⟨by rfl,by rfl,by rfl,by simp [Zcm],trivial⟩
 ·have i1:¬ (i:Int) < ps.length:=by omega
  simp [-Int.natCast_add,-BitVec.toNat_or,-BitVec.toNat_ofInt,-BitVec.toNat_and,Zah b30,Za Zar,Zab Zbe,Zac u23,Za Zap,Zab ld3,Zaa u23 sz3,i1]
  exact k1
structure Nk (S:Zed):Prop where
 fields:S 110=[]
 method:S 139=[]
 value:S 111=[]
 unlike:S 140=[]
 cont:S 158=[]
 idx:S 177=[]
def Zos (l:List (List UInt8)):List Value:=l.map fun x=>Value.string ⟨x.toArray⟩
set_option maxHeartbeats 4000000 in
theorem Ztv (hN:Nk S){to:Option Addr}{n:Nat}{d:Zb0.D}{c:List Value}(hd:Zb0.wf d)(h:At m Zb0 d c)(hP:Zso n d)(hk:(d.1=5∧∀ y∈tM d,0≤y.2.2.2.1)∨(d.1=7∧∀ y∈tM d,y.2.2.2.1=-1)) :
  ∃ v m1,Zbi Tryz.prog TT S 110 [.slice to n n,.agg c.toArray] m=some (v,m1)∧v=.bool true∧Zao m m1 []:=by
 obtain⟨ao,bo,ca,cb,f,g,ty⟩:=Zc3 h
 rw [ty.c]
 obtain⟨k,nm,el,fs,ms,u⟩:=d
 have hty:=ty
 obtain⟨_,_,hf12,hm12,hfv,hmv,hnd⟩:=hP
 simp only [tF,tM,Zi6] at hf12 hm12 hfv hmv hnd hk
 refine Zey 42 [42,62] Z8z hN.fields rfl ?_
 simp [-Int.natCast_add,-w110_2,-BitVec.toNat_or,-BitVec.toNat_ofInt,-BitVec.toNat_and,Zah b33,Za Zay,Zab Zce,Zac u28,Za Zaq,Zab Zb1,Zac u31,Zaa u28 Zcc,Zae Zhx,Zag Zup,Zaf Zcc,Za Za9,Zab ld3,Za Zdo,Zab ld9,Zad u42 bs9 rfl,Zax u42 sz9,Zaa u31 Zbd,Zae Zc6,Zag Zcw,Zaf Zbd,Za Za3,Za Zbq,Zaw u4 .neq (Or.inr rfl),Za Zbr]
 obtain⟨o1,k1,n1⟩:=Za7 (m:=m) (cs:=[.int .i64 k,.string ⟨nm.toArray⟩,.int .i64 el,.slice ao fs.length fs.length,.slice bo ms.length ms.length]) (e:=33) rfl
 obtain⟨xb,hxb⟩:∃ xb,m.next=xb:=⟨_,rfl⟩
 rw [hxb] at o1 n1
 obtain⟨m1,hm1⟩:∃ m1,m.new [.int .i64 k,.string ⟨nm.toArray⟩,.int .i64 el,.slice ao fs.length fs.length,.slice bo ms.length ms.length] 33=m1:=⟨_,rfl⟩
 simp only [hxb]
 rw [hm1] at o1 k1 n1 ⊢
 have l3:=o1.load1 (off:=3) rfl
 have l4:=o1.load1 (off:=4) rfl
 have vr:=fun m' t=>Zmu (m:=m') (to:=to) (n:=n) hN.value t
 have c1:¬ 12 < fs.length:=by omega
 have c2:¬ 12 < ms.length:=by omega
 have c1':¬ (12:Int) < fs.length:=by omega
 have c2':¬ (12:Int) < ms.length:=by omega
 simp [-Int.natCast_add,-BitVec.toNat_or,-BitVec.toNat_ofInt,-BitVec.toNat_and,Zah b33,Za Zay,Zab Zce,Zac u28,Za Zaq,Zab Zb1,Zac u31,Zaa u28 Zcc,Zae Zhx,Zag Zup,Zaf Zcc,Za Za9,Zab ld3,Za Zdo,Zab ld9,Zad u42 bs9 rfl,Zax u42 sz9,Zaa u31 Zbd,Zae Zc6,Zag Zcw,Zaf Zbd,Za Za3,Za Zbq,Zaw u4 .neq (Or.inr rfl),Za Zbr,l3,l4,c1,c1',c2,c2']
 refine Zbg 42 [42,62] (fun dd E mC=>∃ (i:Nat) (ns:List (List UInt8)) (no:Option Addr) (nf:Nat),fs.length - i=dd∧i≤fs.length∧ns=(fs.take i).map (·.1)∧Sl mC no ns.length (Zos ns) 9 1 nf∧(no≠none→m1.next≤nf)∧Zao m1 mC []∧
  E=[(0,.slice to n n),(3,.pointer (some ⟨xb,0,none⟩)),(5,.slice no ns.length ns.length),(21,.slice ao fs.length fs.length),(22,.int .i64 fs.length),(23,.int .i64 i)]) _ ⟨_,⟨0,[],none,0,rfl,by omega,rfl,Sl.nil _ _ _ _,fun h=>absurd rfl h,Zaj _,rfl⟩,⟨by rfl,by rfl,by rfl,by rfl,by rfl,by rfl,trivial⟩⟩ ?_
 rintro dd E mC ih ⟨i,ns,no,nf,hdi,hi,hns,sN,hnf,kC,rfl⟩
 have hnl:ns.length=i:=by rw [hns];simp;omega
 by_cases hlt:i < fs.length
 ·have i1:(i:Int) < fs.length:=by omega
  have em:(i:Int)≤9223372036854775807:=by omega
  have wi:IntKind.i64.wrap ((i:Int)+1)=((i+1:Nat):Int):=by rw [Zbh (by omega) (by omega)];omega
  have K1C:=k1.trans kC
  obtain⟨ab,rfl,hrb⟩:=(ty.fr.keep K1C (by simp)).rdo (by simp only;omega)
  obtain⟨c0,hc0,w0⟩:=At.elem ty.fl ty.fe hlt
  have lx:=hrb.load (off:=i * 2) 2 (by rw [← ty.fr.1];simp only;omega)
  rw [show Zb ca.flatten (i * 2) 2=c0 from w0,Zfp hc0] at lx
  have hv:=hfv _ (List.getElem_mem hlt)
  have hns2:(fs.take (i+1)).map (·.1)=ns++[fs[i].1]:=by rw [List.take_succ_eq_append_getElem hlt,List.map_append,hns];rfl
  obtain⟨zf,hzf⟩:∃ z,fs[i]=z:=⟨_,rfl⟩
  simp only [hzf] at lx hv hns2
  obtain⟨fnm,fty,fu⟩:=zf
  simp only at lx hv hns2
  obtain⟨oF0,kF0,nF⟩:=Za7 (m:=mC) (cs:=[.string ⟨#[]⟩,.int .i64 0]) (e:=27) rfl
  obtain⟨fb,hfb⟩:∃ fb,mC.next=fb:=⟨_,rfl⟩
  rw [hfb] at oF0 nF
  obtain⟨mF0,hmF⟩:∃ mF,mC.new [.string ⟨#[]⟩,.int .i64 0] 27=mF:=⟨_,rfl⟩
  rw [hmF] at oF0 kF0 nF
  simp [-Int.natCast_add,-w110_2,-BitVec.toNat_or,-BitVec.toNat_ofInt,-BitVec.toNat_and,Zah b33,Za Zay,Zab Zce,Zac u28,Za Zaq,Zab Zb1,Zac u31,Zaa u28 Zcc,Zae Zhx,Zag Zup,Zaf Zcc,Za Za9,Zab ld3,Za Zdo,Zab ld9,Zad u42 bs9 rfl,Zax u42 sz9,Zaa u31 Zbd,Zae Zc6,Zag Zcw,Zaf Zbd,Za Za3,Za Zbq,Zaw u4 .neq (Or.inr rfl),Za Zbr,i1,em,hlt,wi,lx,hfb,hmF]
  generalize hrp:Za8 _ _ _=rp
  obtain⟨mF,rfl,oF,kF1⟩:=Za4 hrp oF0 (by simp) (by simp [Zbk,Zco])
  simp [-Int.natCast_add,Zdh] at oF
  have kF:Zao mC mF []:=kF0.fresh kF1 (by intro f hf;rw [List.mem_singleton.1 hf];omega)
  have lf0:=oF.load1 (off:=0) rfl
  have lf1:=oF.load1 (off:=1) rfl
  have K1F:=kC.trans kF
  have vr1:=fun m'=>(vr m' fty).trans (by rw [decide_eq_true hv])
  simp [-Int.natCast_add,-w110_2,-BitVec.toNat_or,-BitVec.toNat_ofInt,-BitVec.toNat_and,Zah b33,Za Zay,Zab Zce,Zac u28,Za Zaq,Zab Zb1,Zac u31,Zaa u28 Zcc,Zae Zhx,Zag Zup,Zaf Zcc,Za Za9,Zab ld3,Za Zdo,Zab ld9,Zad u42 bs9 rfl,Zax u42 sz9,Zaa u31 Zbd,Zae Zc6,Zag Zcw,Zaf Zbd,Za Za3,Za Zbq,Zaw u4 .neq (Or.inr rfl),Za Zbr,lf0,lf1,vr1]
  generalize hra:Zcd _ _ _ _ _ _=ra
  obtain⟨mI,nb2,nf2,rfl,oN,kI,hnf2,_⟩:=Zkt hra u42 ap9 (sN.keepz kF (by simp)) (by omega) (by simp) (by simp [Zco]) (by omega) (by omega)
  have KI:Zao m1 mI []:=K1F.fresh kI (by
   intro f hf
   split at hf
   ·simp at hf
   ·rename_i hn
    rw [List.mem_singleton.1 hf]
    exact hnf hn)
  have sI:Sl mI (some ⟨nb2,0,none⟩) (ns++[fnm]).length (Zos (ns++[fnm])) 9 1 nf2:=⟨by simp [Zos],Or.inr ⟨nb2,rfl,by simpa [Zos] using oN⟩⟩
  have hge:m1.next≤nf2:=by
   rcases hnf2 with⟨h,h2⟩ | h
   ·rw [h2];exact hnf h
   ·have:=K1F.1;omega
  have el:ns.length+1=(ns++[fnm]).length:=by simp
  obtain⟨ns2,hns3⟩:∃ z,ns++[fnm]=z:=⟨_,rfl⟩
  rw [hns3] at el sI hns2
  simp [-Int.natCast_add,-w110_2,-BitVec.toNat_or,-BitVec.toNat_ofInt,-BitVec.toNat_and,Zah b33,Za Zay,Zab Zce,Zac u28,Za Zaq,Zab Zb1,Zac u31,Zaa u28 Zcc,Zae Zhx,Zag Zup,Zaf Zcc,Za Za9,Zab ld3,Za Zdo,Zab ld9,Zad u42 bs9 rfl,Zax u42 sz9,Zaa u31 Zbd,Zae Zc6,Zag Zcw,Zaf Zbd,Za Za3,Za Zbq,Zaw u4 .neq (Or.inr rfl),Za Zbr,el,wi]
  exact ih _ _ _ _ ⟨i+1,ns2,some ⟨nb2,0,none⟩,nf2,rfl,by omega,hns2.symm,sI,fun _=>hge,KI,rfl⟩ (by omega) ⟨by rfl,by rfl,by rfl,by rfl,by rfl,by simp [Zcm],trivial⟩
 ·have i1:¬ (i:Int) < fs.length:=by omega
  have l4C:=(o1.keep kC (by simp)).load1 (off:=4) rfl
  rw [List.take_of_length_le (by omega)] at hns
  simp [-Int.natCast_add,-w110_2,-BitVec.toNat_or,-BitVec.toNat_ofInt,-BitVec.toNat_and,Zah b33,Za Zay,Zab Zce,Zac u28,Za Zaq,Zab Zb1,Zac u31,Zaa u28 Zcc,Zae Zhx,Zag Zup,Zaf Zcc,Za Za9,Zab ld3,Za Zdo,Zab ld9,Zad u42 bs9 rfl,Zax u42 sz9,Zaa u31 Zbd,Zae Zc6,Zag Zcw,Zaf Zbd,Za Za3,Za Zbq,Zaw u4 .neq (Or.inr rfl),Za Zbr,i1,l4C]
  refine Zbg 42 [42,62] (fun dd E mD=>∃ (j:Nat) (ns:List (List UInt8)) (no:Option Addr) (nf:Nat),ms.length - j=dd∧j≤ms.length∧ns=fs.map (·.1)++(ms.take j).map (·.1)∧Sl mD no ns.length (Zos ns) 9 1 nf∧(no≠none→m1.next≤nf)∧Zao m1 mD []∧
   E=[(0,.slice to n n),(3,.pointer (some ⟨xb,0,none⟩)),(5,.slice no ns.length ns.length),(39,.slice bo ms.length ms.length),(40,.int .i64 ms.length),(41,.int .i64 j)]) _ ⟨_,⟨0,ns,no,nf,rfl,by omega,by simp [hns],sN,hnf,kC,rfl⟩,⟨by rfl,by rfl,by rfl,by rfl,by rfl,by rfl,trivial⟩⟩ ?_
  clear ih hns hnl
  rintro de E mD ihM ⟨j,ns,no,nf,hdj,hj,hns,sN,hnf,kD,rfl⟩
  have hnl:ns.length≤24:=by rw [hns];simp;omega
  by_cases hlj:j < ms.length
  ·have i1:(j:Int) < ms.length:=by omega
   have em:(j:Int)≤9223372036854775807:=by omega
   have wi:IntKind.i64.wrap ((j:Int)+1)=((j+1:Nat):Int):=by rw [Zbh (by omega) (by omega)];omega
   have K1D:=k1.trans kD
   obtain⟨bb,rfl,hrb⟩:=(ty.mr.keep K1D (by simp)).rdo (by simp only;omega)
   obtain⟨c0,hc0,w0⟩:=At.elem ty.ml ty.me hlj
   have hwm:=hd.2.2.2.2.1.2 _ (List.getElem_mem hlj)
   have hmL:=hmv _ (List.getElem_mem hlj)
   obtain⟨po,pf,hcc,hp⟩:=Zfo hc0
   have lx:=hrb.load (off:=j * 4) 4 (by rw [← ty.mr.1];simp only;omega)
   rw [show Zb cb.flatten (j * 4) 4=c0 from w0,hcc] at lx
   have hns2:fs.map (·.1)++(ms.take (j+1)).map (·.1)=ns++[ms[j].1]:=by rw [List.take_succ_eq_append_getElem hlj,List.map_append,hns];simp
   have hkj:(k=5∧0≤ms[j].2.2.2.1)∨(k=7∧ms[j].2.2.2.1=-1):=by
    rcases hk with⟨e,h⟩ | ⟨e,h⟩
    ·exact Or.inl ⟨e,h _ (List.getElem_mem hlj)⟩
    ·exact Or.inr ⟨e,h _ (List.getElem_mem hlj)⟩
   obtain⟨zf,hzf⟩:∃ z,ms[j]=z:=⟨_,rfl⟩
   simp only [hzf] at lx hc0 hwm hcc hp hmL hns2 hkj
   obtain⟨mnm,mps,mrs,mfu,mu⟩:=zf
   simp only at lx hcc hns2 hkj
   obtain⟨oF0,kF0,nF⟩:=Za7 (m:=mD) (cs:=[.string ⟨#[]⟩,.slice none 0 0,.int .i64 0,.int .i64 0]) (e:=30) rfl
   obtain⟨fb,hfb⟩:∃ fb,mD.next=fb:=⟨_,rfl⟩
   rw [hfb] at oF0 nF
   obtain⟨mF0,hmF⟩:∃ mF,mD.new [.string ⟨#[]⟩,.slice none 0 0,.int .i64 0,.int .i64 0] 30=mF:=⟨_,rfl⟩
   rw [hmF] at oF0 kF0 nF
   simp [-Int.natCast_add,-w110_2,-BitVec.toNat_or,-BitVec.toNat_ofInt,-BitVec.toNat_and,Zah b33,Za Zay,Zab Zce,Zac u28,Za Zaq,Zab Zb1,Zac u31,Zaa u28 Zcc,Zae Zhx,Zag Zup,Zaf Zcc,Za Za9,Zab ld3,Za Zdo,Zab ld9,Zad u42 bs9 rfl,Zax u42 sz9,Zaa u31 Zbd,Zae Zc6,Zag Zcw,Zaf Zbd,Za Za3,Za Zbq,Zaw u4 .neq (Or.inr rfl),Za Zbr,i1,em,hlj,wi,lx,hfb,hmF]
   generalize hrp:Za8 _ _ _=rp
   obtain⟨mF,rfl,oF,kF1⟩:=Za4 hrp oF0 (by simp) (by simp [Zbk,Zco,Zbp])
   simp [-Int.natCast_add,Zdh] at oF
   have kF:Zao mD mF []:=kF0.fresh kF1 (by intro f hf;rw [List.mem_singleton.1 hf];omega)
   have lf:=oF.load (off:=0) 4 (by simp)
   simp [Zb] at lf
   have lf0:=oF.load1 (off:=0) rfl
   have hcF:=(hc0.keep K1D).keep kF
   obtain⟨mG,hmr,kG⟩:=Zut (to:=to) (n:=n) hN.method hN.value hwm hcF hmL
   rw [hcc] at hmr
   have KG:=(kD.trans kF).trans kG
   have lx0:=((o1.keep ((kD.trans kF)) (by simp)).keep kG (by simp)).load1 (off:=0) rfl
   have lfG0:=(oF.keep kG (by simp)).load1 (off:=0) rfl
   have lfG3:=(oF.keep kG (by simp)).load1 (off:=3) rfl
   have fin:∀ {mI:Mem} {nb2 nf2:Nat},Own mI nb2 (Zos ns++[.string ⟨mnm.toArray⟩]) 9 nf2→Zao mG mI (if no=none then [] else [nf])→((no≠none∧nf2=nf)∨mG.next≤nf2)→Sl mI (some ⟨nb2,0,none⟩) (ns++[mnm]).length (Zos (ns++[mnm])) 9 1 nf2∧m1.next≤nf2∧Zao m1 mI []:=by
    intro mI nb2 nf2 oN kI hnf2
    refine⟨⟨by simp [Zos],Or.inr ⟨nb2,rfl,by simpa [Zos] using oN⟩⟩,?_,?_⟩
    ·rcases hnf2 with⟨h,h2⟩ | h
     ·rw [h2];exact hnf h
     ·have:=KG.1;omega
    ·exact KG.fresh kI (by
      intro f hf
      split at hf
      ·simp at hf
      ·rename_i hn
       rw [List.mem_singleton.1 hf]
       exact hnf hn)
   have el:ns.length+1=(ns++[mnm]).length:=by simp
   obtain⟨ns2,hns3⟩:∃ z,ns++[mnm]=z:=⟨_,rfl⟩
   rw [hns3] at el hns2
   rw [hns3] at fin
   simp [-Int.natCast_add,-w110_2,-BitVec.toNat_or,-BitVec.toNat_ofInt,-BitVec.toNat_and,Zah b33,Za Zay,Zab Zce,Zac u28,Za Zaq,Zab Zb1,Zac u31,Zaa u28 Zcc,Zae Zhx,Zag Zup,Zaf Zcc,Za Za9,Zab ld3,Za Zdo,Zab ld9,Zad u42 bs9 rfl,Zax u42 sz9,Zaa u31 Zbd,Zae Zc6,Zag Zcw,Zaf Zbd,Za Za3,Za Zbq,Zaw u4 .neq (Or.inr rfl),Za Zbr,lf,hmr]
   rcases hkj with⟨hk5,hm0⟩ | ⟨hk7,hm1'⟩
   ·subst hk5
    have cm:¬ mfu=-1:=fun e=>by rw [e] at hm0;exact absurd hm0 (by decide)
    have cl:¬ @LT.lt Int _ mfu (-1):=Int.not_lt.2 (Int.le_trans (by decide) hm0)
    simp [-Int.natCast_add,-w110_2,-BitVec.toNat_or,-BitVec.toNat_ofInt,-BitVec.toNat_and,Zah b33,Za Zay,Zab Zce,Zac u28,Za Zaq,Zab Zb1,Zac u31,Zaa u28 Zcc,Zae Zhx,Zag Zup,Zaf Zcc,Za Za9,Zab ld3,Za Zdo,Zab ld9,Zad u42 bs9 rfl,Zax u42 sz9,Zaa u31 Zbd,Zae Zc6,Zag Zcw,Zaf Zbd,Za Za3,Za Zbq,Zaw u4 .neq (Or.inr rfl),Za Zbr,lx0,lfG0,lfG3,cm,cl]
    generalize hra:Zcd _ _ _ _ _ _=ra
    obtain⟨mI,nb2,nf2,rfl,oN,kI,hnf2,_⟩:=Zkt hra u42 ap9 ((sN.keepz kF (by simp)).keepz kG (by simp)) (by omega) (by simp) (by simp [Zco]) (by omega) (by omega)
    obtain⟨sI,hge,KI⟩:=fin oN kI hnf2
    simp [-Int.natCast_add,-w110_2,-BitVec.toNat_or,-BitVec.toNat_ofInt,-BitVec.toNat_and,Zah b33,Za Zay,Zab Zce,Zac u28,Za Zaq,Zab Zb1,Zac u31,Zaa u28 Zcc,Zae Zhx,Zag Zup,Zaf Zcc,Za Za9,Zab ld3,Za Zdo,Zab ld9,Zad u42 bs9 rfl,Zax u42 sz9,Zaa u31 Zbd,Zae Zc6,Zag Zcw,Zaf Zbd,Za Za3,Za Zbq,Zaw u4 .neq (Or.inr rfl),Za Zbr,el,wi]
    exact ihM _ _ _ _ ⟨j+1,ns2,some ⟨nb2,0,none⟩,nf2,rfl,by omega,hns2.symm,sI,fun _=>hge,KI,rfl⟩ (by omega) ⟨by rfl,by rfl,by rfl,by rfl,by rfl,by simp [Zcm],trivial⟩
   ·subst hk7
    subst hm1'
    simp [-Int.natCast_add,-w110_2,-BitVec.toNat_or,-BitVec.toNat_ofInt,-BitVec.toNat_and,Zah b33,Za Zay,Zab Zce,Zac u28,Za Zaq,Zab Zb1,Zac u31,Zaa u28 Zcc,Zae Zhx,Zag Zup,Zaf Zcc,Za Za9,Zab ld3,Za Zdo,Zab ld9,Zad u42 bs9 rfl,Zax u42 sz9,Zaa u31 Zbd,Zae Zc6,Zag Zcw,Zaf Zbd,Za Za3,Za Zbq,Zaw u4 .neq (Or.inr rfl),Za Zbr,lx0,lfG0,lfG3]
    generalize hra:Zcd _ _ _ _ _ _=ra
    obtain⟨mI,nb2,nf2,rfl,oN,kI,hnf2,_⟩:=Zkt hra u42 ap9 ((sN.keepz kF (by simp)).keepz kG (by simp)) (by omega) (by simp) (by simp [Zco]) (by omega) (by omega)
    obtain⟨sI,hge,KI⟩:=fin oN kI hnf2
    simp [-Int.natCast_add,-w110_2,-BitVec.toNat_or,-BitVec.toNat_ofInt,-BitVec.toNat_and,Zah b33,Za Zay,Zab Zce,Zac u28,Za Zaq,Zab Zb1,Zac u31,Zaa u28 Zcc,Zae Zhx,Zag Zup,Zaf Zcc,Za Za9,Zab ld3,Za Zdo,Zab ld9,Zad u42 bs9 rfl,Zax u42 sz9,Zaa u31 Zbd,Zae Zc6,Zag Zcw,Zaf Zbd,Za Za3,Za Zbq,Zaw u4 .neq (Or.inr rfl),Za Zbr,el,wi]
    exact ihM _ _ _ _ ⟨j+1,ns2,some ⟨nb2,0,none⟩,nf2,rfl,by omega,hns2.symm,sI,fun _=>hge,KI,rfl⟩ (by omega) ⟨by rfl,by rfl,by rfl,by rfl,by rfl,by simp [Zcm],trivial⟩
  ·have i1:¬ (j:Int) < ms.length:=by omega
   rw [List.take_of_length_le (by omega)] at hns
   have hu:=Zuq (m:=mD) hN.unlike hN.cont hN.idx (l:=ns) (by omega) sN (by rw [hns];exact hnd)
   simp [-Int.natCast_add,-w110_2,-BitVec.toNat_or,-BitVec.toNat_ofInt,-BitVec.toNat_and,Zah b33,Za Zay,Zab Zce,Zac u28,Za Zaq,Zab Zb1,Zac u31,Zaa u28 Zcc,Zae Zhx,Zag Zup,Zaf Zcc,Za Za9,Zab ld3,Za Zdo,Zab ld9,Zad u42 bs9 rfl,Zax u42 sz9,Zaa u31 Zbd,Zae Zc6,Zag Zcw,Zaf Zbd,Za Za3,Za Zbq,Zaw u4 .neq (Or.inr rfl),Za Zbr,i1,hu]
   exact k1.trans kD
end Go.Proofs.YtbldiceiindbdaaGreatDoor.base
