/- This text proves that turnstonehand.SameWords compares, and that turnstonehand.Heap gives the program's heap with the same words, Zbr the abstract run. Condition: nothing is known of their calls ahead ('S f = []'). -/
import Derived.Test.YtlogdohlcdhepaaDoorM2
import Derived.Test.YtlogdohlcdhepaaDoorGen
import Derived.Test.YtlogdohlcdhepaaDoorM12
set_option linter.unusedVariables false
set_option linter.unusedSimpArgs false
section
set_option maxRecDepth 100000
namespace Go.Proofs.YtlogdohlcdhepaaDoor.base
open Go.Sh gen
variable {S:Zb2}{m:Mem}
def wO (os:List (Int × List Int)):List Int:=0::os.flatMap fun o=>Zb9 o.1 o.2.length::o.2
structure OkO (os:List (Int × List Int))(room:Int):Prop where
 r:1≤room∧room≤65536
 l:(wO os).length≤room
 n:os.length≤8
 o:∀ o∈os,5≤o.1∧o.1≤7∧o.2.length≤100∧Wd o.2
theorem Zyg (os:List (Int × List Int))(t:Int)(B:List Int):wO (os++[(t,B)])=wO os++Zb9 t B.length::B:=by
 simp [wO]
theorem Z9c {os:List (Int × List Int)}{room:Int}(h:OkO os room):Wd (wO os):=by
 have h2:=h.o
 clear h
 refine Zr2.2 ⟨by omega,?_⟩
 induction os with
 | nil=>intro w hw;simp at hw
 | cons o os ih =>
  have h1:=h2 o (by simp)
  rw [List.flatMap_cons]
  exact Zxo.2 ⟨Zr2.2 ⟨Zzi (by omega) (by omega),h1.2.2.2⟩,ih (fun o ho=>h2 o (by simp [ho]))⟩
theorem Zxs {α:Type}{a b:List α}{i:Nat}(ha:i < a.length)(hb:i < b.length)(h:a[i]≠b[i]):a≠b:=fun e=>by subst e;exact h rfl
theorem Zrp (hS:S 19=[]){ao bo:Option Addr}{a b:List Int}{af bf ae be:Nat}(ha:Rs m ao a.length (words a) ae 1 af)(hb:Rs m bo b.length (words b) be 1 bf)(hal:a.length≤4611686018427387904)(hbl:b.length≤4611686018427387904) :
  ∃ q:Bool,Zag Tryd.prog TT S 19 [.slice ao a.length a.length,.slice bo b.length b.length] m=some (.bool q,m)∧(q=true↔a=b):=by
 suffices h:∃ v m1,Zag Tryd.prog TT S 19 [.slice ao a.length a.length,.slice bo b.length b.length] m=some (v,m1)∧∃ q:Bool,v=.bool q∧(q=true↔a=b)∧m1=m by
  obtain⟨_,_,h,q,rfl,hq,rfl⟩:=h
  exact⟨q,h,hq⟩
 refine Zfi 6 [10,14,25] k19 hS rfl ?_
 by_cases hll:a.length=b.length
 ·simp [-Int.natCast_add,hll]
  rw [hll] at ha
  refine Zai 6 [10,14,25] (fun d E m2=>∃ i:Nat,b.length - i=d∧i≤b.length∧a.take i=b.take i∧m2=m∧E=[(0,.slice ao b.length b.length),(1,.slice bo b.length b.length),(5,.int .i64 i)]) _ ⟨_,⟨0,rfl,by omega,by simp,rfl,rfl⟩,⟨by rfl,by rfl,by rfl,trivial⟩⟩ ?_
  rintro d E m2 ih ⟨i,hd,hi,heq,rfl,rfl⟩
  by_cases hlt:i < b.length
  ·have em:(i:Int)≤9223372036854775807:=by omega
   have hlt':(i:Int) < b.length:=by omega
   have wi:IntKind.i64.wrap ((i:Int)+1)=((i+1:Nat):Int):=by rw [Zab (by omega) (by omega)];omega
   have hla:i < a.length:=by omega
   obtain⟨ab,rfl,oa⟩:=ha.rdo (by omega)
   obtain⟨bb,rfl,ob⟩:=hb.rdo (by omega)
   have la:loadRow m2 ⟨ab,i,none⟩ 1=some [.int .u64 a[i]]:=oa.load1 (by simp [words,hla])
   have lb:loadRow m2 ⟨bb,i,none⟩ 1=some [.int .u64 b[i]]:=ob.load1 (by simp [words,hlt])
   have ta:a.take (i+1)=a.take i++[a[i]]:=List.take_succ_eq_append_getElem hla
   have tb:b.take (i+1)=b.take i++[b[i]]:=List.take_succ_eq_append_getElem hlt
   have hne:=Zxs hla hlt
   generalize a[i]=x at *
   generalize b[i]=y at *
   by_cases c:x=y
   ·subst c
    simp [-Int.natCast_add,hlt,hlt',em,la,lb,wi]
    exact ih _ _ _ _ ⟨i+1,rfl,by omega,by rw [ta,tb,heq],rfl,rfl⟩ (by omega) ⟨by rfl,by rfl,by rfl,trivial⟩
   ·simp [-Int.natCast_add,hlt,hlt',em,la,lb,c]
    exact hne c
  ·have hlt':¬ (i:Int) < b.length:=by omega
   have e1:a=b:=by
    have h1:a.take i=a:=List.take_of_length_le (by omega)
    have h2:b.take i=b:=List.take_of_length_le (by omega)
    rw [← h1,heq,h2]
   simp [-Int.natCast_add,hlt']
   exact e1
 ·have hll':¬ (a.length:Int)=(b.length:Int):=by omega
  simp [-Int.natCast_add,hll']
  exact fun e=>hll (by rw [e])
structure Hp (S:Zb2):Prop where
 new:S 9=[]
 alloc:S 37=[]
 put:S 38=[]
 words:S 20=[]
 len:S 60=[]
 word:S 55=[]
 type:S 59=[]
 head:S 77=[]
 same:S 19=[]
theorem Zqi {B:List Int}{k:Nat}(h:k < B.length):(B.take k++List.replicate (B.length - k) 0).set k B[k]=B.take (k+1)++List.replicate (B.length - (k+1)) 0:=by
 have e:(B.take k).length=k:=by simp;omega
 rw [List.set_append_right _ _ (by omega),e,Nat.sub_self]
 obtain⟨c,hc⟩:∃ c,B.length - k=c+1:=⟨B.length - k - 1,by omega⟩
 rw [hc,List.replicate_succ,List.set_cons_zero,show B.length - (k+1)=c by omega]
 rw [List.take_succ_eq_append_getElem h]
 simp only [List.append_assoc,List.cons_append,List.nil_append]
theorem Z1g {os:List (Int × List Int)}{j:Nat}(h:j < os.length):∃ R,wO os=wO (os.take j)++Zb9 os[j].1 os[j].2.length::(os[j].2++R):=by
 refine⟨(os.drop (j+1)).flatMap fun o=>Zb9 o.1 o.2.length::o.2,?_⟩
 have e:os=os.take j++os[j]::os.drop (j+1):=by rw [List.getElem_cons_drop,List.take_append_drop]
 generalize os[j]=o at *
 have e2:=congrArg wO e
 rw [e2]
 simp only [wO,List.flatMap_append,List.flatMap_cons,List.cons_append]
set_option maxHeartbeats 4000000 in
theorem Z2t (hS:S 15=[])(hH:Hp S){rb rf vb vf:Nat}{os:List (Int × List Int)}{room:Int}(hos:OkO os room)(hr:Zd8 m rb rf vb vf (wO os) room) :
  ∃ v m1,Zag Tryd.prog TT S 15 [.pointer (some ⟨rb,0,none⟩)] m=some (v,m1)∧(∃ hb hf wb wf,v=.tuple #[.pointer (some ⟨hb,0,none⟩),.bool true]∧Zdn m1 hb hf wb wf (wO os) room∧m.next≤hf∧m.next≤wf)∧Zaa m m1 []:=by
 obtain⟨_,m1,c1,⟨hb,wf,rfl,h1,n1,n2,k1⟩⟩:=Z39 (m:=m) hH.new room hos.r.1 hos.r.2
 have r0:=hr.h.load1 (off:=0) rfl
 have r1:=hr.h.load1 (off:=1) rfl
 have hwl:=hos.l
 have h8:=hos.n
 have hrr:=hos.r
 have hmx:(if 1 < room then room else 1)=room:=by split <;> omega
 refine Zfi 11 [25,32,67,70] k15 hS rfl ?_
 simp [-Int.natCast_add,Zyl u22,r0,hmx,c1]
 refine Zai 11 [25,32,67,70] (fun d E m2=>∃ (j wb:Nat),os.length - j=d∧j≤os.length∧Zdn m2 hb hb wb wf (wO (os.take j)) room∧Zaa m m2 []∧E=[(0,.pointer (some ⟨rb,0,none⟩)),(4,.pointer (some ⟨hb,0,none⟩)),(6,.int .i64 (wO (os.take j)).length)]) _ ⟨_,⟨0,wf,rfl,by omega,h1,k1,rfl⟩,⟨by rfl,by rfl,by rfl,trivial⟩⟩ ?_
 rintro d E m2 ih ⟨j,wb,hd,hj,h2,k2,rfl⟩
 have r12:=(hr.h.keep k2 (by simp)).load1 (off:=1) rfl
 by_cases hlt:j < os.length
 ·obtain⟨R,hR⟩:=Z1g hlt
  have ho:=hos.o _ (List.getElem_mem hlt)
  have ets:os.take (j+1)=os.take j++[(os[j].1,os[j].2)]:=List.take_succ_eq_append_getElem hlt
  generalize os[j]=o at *
  obtain⟨t,B⟩:=o
  simp only at hR ho ets
  obtain⟨A,hA⟩:∃ A,wO (os.take j)=A:=⟨_,rfl⟩
  have eA:wO (os.take (j+1))=A++Zb9 t B.length::B:=by rw [ets,Zyg,hA]
  rw [hA] at hR h2
  rw [hA]
  have hWl:(wO os).length=A.length+1+B.length+R.length:=by rw [hR];simp;omega
  have hvw:∀ (m':Mem),Zaa m m' []→loadRow m' ⟨vb,A.length,none⟩ 1=some [.int .u64 (Zb9 t B.length)]:=fun m' k'=>by
   have e:=Zt4 A (Zb9 t B.length) (B++R)
   rw [← hR] at e
   rw [← e]
   exact (hr.w.keep k' (by simp)).load1 (Zbs (by omega))
  have l2:=hvw m2 k2
  have Zgm:=Zi8 (t:=t) (n:=B.length) (by omega) (by omega)
  have hA1:A.length < (wO os).length:=by omega
  have hA2:(A.length:Int) < (wO os).length:=by omega
  have em:(A.length:Int)≤9223372036854775807:=by omega
  obtain⟨hd1,hhd⟩:∃ hd1,Zb9 t B.length=hd1:=⟨_,rfl⟩
  rw [hhd] at l2 Zgm
  have m1':IntKind.i64.wrap (hd1.tmod 4294967296)=(B.length:Int):=by rw [Int.tmod_eq_emod_of_nonneg (by omega),Zab (by omega) (by omega)];omega
  have e3:(2:Int) ^ min 32 IntKind.u64.bits=4294967296:=by decide
  have s1:IntKind.i64.wrap (hd1.fdiv (2 ^ min 32 IntKind.u64.bits))=t:=by rw [e3,Zzd (by omega),Zab (by omega) (by omega)];omega
  obtain⟨BR,hBR⟩:∃ BR,B.length+R.length=BR:=⟨_,rfl⟩
  have w1:IntKind.i64.wrap (((wO os).length:Int) - A.length)=((BR+1:Nat):Int):=by rw [Zab (by omega) (by omega)];omega
  have w2:IntKind.i64.wrap (((BR+1:Nat):Int) - 1)=(BR:Int):=by rw [Zab (by omega) (by omega)];omega
  have nl:¬ BR < B.length:=by omega
  have nl':¬ (BR:Int) < B.length:=by omega
  obtain⟨_,m3,c3,rfl,⟨wb3,h3⟩,k3⟩:=Zw8 (t:=t) (n:=B.length) hH.alloc h2 (by omega) (by omega) (by unfold Zik;omega)
  rw [List.append_assoc,List.singleton_append] at h3
  simp [-Int.natCast_add,r12,hA1,hA2,em,l2,m1',s1,w1,w2,nl',c3]
  refine Zai 11 [25,32,67,70] (fun d2 E m4=>∃ k:Nat,B.length - k=d2∧k≤B.length∧Zdn m4 hb hb wb3 wf (A++Zb9 t B.length::(B.take k++List.replicate (B.length - k) 0)) room∧Zaa m m4 []∧E=[(0,.pointer (some ⟨rb,0,none⟩)),(4,.pointer (some ⟨hb,0,none⟩)),(6,.int .i64 A.length),(7,.int .i64 B.length),(10,.int .i64 ((k+1:Nat):Int))]) _ ⟨_,⟨0,rfl,by omega,by simpa using h3,k2.fresh k3 (by simp;omega),rfl⟩,(by repeat' constructor)⟩ ?_
  rintro d2 E m4 ih2 ⟨k,hd2,hk,h4,k4,rfl⟩
  by_cases hkn:k < B.length
  ·have hk1:((k+1:Nat):Int)≤B.length:=by omega
   have hk2:k+1≤B.length:=by omega
   have r14:=(hr.h.keep k4 (by simp)).load1 (off:=1) rfl
   obtain⟨p,hp⟩:∃ p,A.length+1+k=p:=⟨_,rfl⟩
   have w3:IntKind.i64.wrap ((A.length:Int)+((k+1:Nat):Int))=(p:Int):=by rw [Zab (by omega) (by omega)];omega
   have up3:IntKind.u64.wrap (p:Int)=(p:Int):=Zbh (by omega) (by omega)
   have w4:IntKind.i64.wrap (((k+1:Nat):Int)+1)=((k+1+1:Nat):Int):=by rw [Zab (by omega) (by omega)];omega
   have pl:p < (wO os).length:=by omega
   have ep:(p:Int)≤9223372036854775807:=by omega
   have lp:loadRow m4 ⟨vb,p,none⟩ 1=some [.int .u64 B[k]]:=by
    have e:=Z0j A (Zb9 t B.length) (B++R) k
    rw [← hR,hp] at e
    have e2:(B++R).getD k 0=B[k]:=by simp [List.getD_eq_getElem?_getD,List.getElem?_append_left hkn,hkn]
    rw [← e2,← e]
    exact (hr.w.keep k4 (by simp)).load1 (Zbs pl)
   obtain⟨_,m5,c5,rfl,h5,k5⟩:=Zzm (i:=p) (v:=B[k]) hH.put h4 (by omega) (by simp;omega) (by simp;omega)
   rw [← hp,Zxt,Zqi hkn] at h5
   simp [-Int.natCast_add,hk1,r14,w3,up3,w4,pl,ep,lp,c5]
   exact ih2 _ _ _ _ ⟨k+1,rfl,by omega,h5,k4.fresh k5 (by simp;omega),rfl⟩ (by omega) (by repeat' constructor)
  ·have ek:k=B.length:=by omega
   subst ek
   have hk1:¬ ((B.length+1:Nat):Int)≤B.length:=by omega
   have w5:IntKind.i64.wrap ((A.length:Int)+B.length)=((A.length+B.length:Nat):Int):=by rw [Zab (by omega) (by omega)];omega
   have w6:IntKind.i64.wrap (((A.length+B.length:Nat):Int)+1)=((A.length+B.length+1:Nat):Int):=by rw [Zab (by omega) (by omega)];omega
   simp [-Int.natCast_add,hk1,w5,w6]
   refine ih _ _ _ _ ⟨j+1,wb3,rfl,by omega,by rw [eA];simpa using h4,k4,rfl⟩ (by omega) ⟨by rfl,by rfl,by rw [eA];simp [Zbu];omega,trivial⟩
 ·have ej:os.take j=os:=List.take_of_length_le (by omega)
  rw [ej] at h2 ⊢
  obtain⟨_,m3,c3,nb,nf,rfl,o3,n3,k3⟩:=Zp3 hH.words h2 (by simp [wO]) (by omega)
  have s3:Rs m3 (some ⟨nb,0,none⟩) (wO os).length (words (wO os)) 45 1 nf:=(Sl.of o3 (by rw [Ze5];simp)).rs
  have kk:=k2.trans k3
  have r13:=(hr.h.keep kk (by simp)).load1 (off:=1) rfl
  have sr:Rs m3 (some ⟨vb,0,none⟩) (wO os).length (words (wO os)) 45 1 vf:=(Sl.of (hr.w.keep kk (by simp)) (by rw [Ze5];simp)).rs
  obtain⟨q,c4,hq⟩:=Zrp (m:=m3) hH.same s3 sr (by omega) (by omega)
  have hqt:=hq.2 rfl
  subst hqt
  simp [-Int.natCast_add,r12,c3,r13,c4]
  exact⟨⟨hb,wb,wf,h2.keep k3 (by simp) (by simp),n1,n2⟩,kk⟩
end Go.Proofs.YtlogdohlcdhepaaDoor.base
end
section
set_option maxRecDepth 100000
namespace Go.Proofs.YtlogdohlcdhepaaDoor.base
open Go.Sh gen
variable {S:Zb2}{m:Mem}
def Zru (x:Int):Int × List Int:=(5+x % 3,(List.range (x % 5).toNat).map fun k=>x / 2 ^ (9 * k))
def Zp (l:List Int):List (Int × List Int):=(l.take 8).map Zru
theorem Zw9 {x:Int}(h:0≤x∧x≤18446744073709551615):Wd (Zru x).2:=by
 intro w hw
 simp only [Zru,List.mem_map] at hw
 obtain⟨k,_,rfl⟩:=hw
 have h2:(0:Int) < 2 ^ (9 * k):=Int.pow_pos (by omega)
 exact⟨Int.ediv_nonneg h.1 (by omega),Int.le_trans (Int.ediv_le_self _ h.1) h.2⟩
theorem Zuj (l:List Int)(h:l.length≤8)(hl:Wd l):(wO (l.map Zru)).length≤1+5 * l.length:=by
 induction l with
 | nil=>simp [wO]
 | cons x r ih =>
  have:=ih (by simp at h;omega) (fun w hw=>hl w (by simp [hw]))
  have hx:=hl x (by simp)
  have h5:(Zru x).2.length≤4:=by simp [Zru];omega
  simp only [wO,List.map_cons,List.flatMap_cons,List.length_cons,List.length_append] at this ⊢
  omega
theorem Zzj {l:List Int}(hl:Wd l):OkO (Zp l) 100:=by
 have h8:(l.take 8).length≤8:=by simp [List.length_take];omega
 have hw:Wd (l.take 8):=fun w h=>hl w (List.mem_of_mem_take h)
 refine⟨by omega,?_,by unfold Zp;rw [List.length_map];exact h8,fun o ho=>?_⟩
 ·have:=Zuj _ h8 hw
  unfold Zp
  omega
 ·simp only [Zp,List.mem_map] at ho
  obtain⟨x,hx,rfl⟩:=ho
  have:=hw x hx
  exact⟨by simp only [Zru];omega,by simp only [Zru];omega,by simp [Zru];omega,Zw9 this⟩
structure Ho (S:Zb2):Prop where
 new:S 21=[]
 alloc:S 23=[]
 set:S 36=[]
 put:S 42=[]
 len:S 40=[]
 word:S 41=[]
set_option maxHeartbeats 4000000 in
theorem Zrs (hS:S 14=[])(hH:Ho S){ao:Option Addr}{l:List Int}{c f e:Nat}(hr:Rs m ao l.length (words l) e 1 f)(hf:l.length≠0→f < m.next)(hl:Wd l) :
  ∃ v m1,Zag Tryd.prog TT S 14 [.slice ao l.length c] m=some (v,m1)∧(∃ rb vb vf,v=.pointer (some ⟨rb,0,none⟩)∧Zd8 m1 rb rb vb vf (wO (Zp l)) 100∧m.next≤rb∧m.next≤vf)∧Zaa m m1 []:=by
 obtain⟨_,mR,cR,⟨rb,vb,rfl,hR,nR1,nR2,kR⟩⟩:=Z1u (m:=m) hH.new 100
 refine Zfi 9 [17,44] k14 hS rfl ?_
 simp [-Int.natCast_add,cR]
 refine Zai 9 [17,44] (fun d E m2=>∃ (i wb:Nat),8 - i=d∧i≤8∧i≤l.length∧Zd8 m2 rb rb wb vb (wO ((l.take i).map Zru)) 100∧Zaa m m2 []∧E=[(0,.slice ao l.length c),(3,.pointer (some ⟨rb,0,none⟩)),(4,.int .i64 (i:Nat))]) _ ⟨_,⟨0,vb,rfl,by omega,by omega,hR,kR,rfl⟩,⟨by rfl,by rfl,by rfl,trivial⟩⟩ ?_
 rintro d E m2 ih ⟨i,wb,rfl,hi8,hil,h2,k2,rfl⟩
 by_cases hc:i < l.length∧i < 8
 ·obtain⟨q1,q2⟩:=hc
  have q1':(i:Int) < l.length:=by omega
  have q2':(i:Int) < 8:=by omega
  have q3:(i:Int)≤9223372036854775807:=by omega
  have wi:IntKind.i64.wrap ((i:Int)+1)=((i+1:Nat):Int):=by rw [Zab (by omega) (by omega)];omega
  obtain⟨ab,rfl,oa⟩:=(hr.keep0 k2 (by simp)).rdo (by omega)
  have la:∀ m',Zaa m m' []→loadRow m' ⟨ab,i,none⟩ 1=some [.int .u64 l[i]]:=fun m' k'=>by
   obtain⟨ab',e,oa'⟩:=(hr.keep0 k' (by simp)).rdo (by omega)
   simp at e
   subst e
   exact oa'.load1 (by simp [words,q1])
  have lx:=la m2 k2
  have hx:0≤l[i]∧l[i]≤18446744073709551615:=hl _ (by simp)
  have et:l.take (i+1)=l.take i++[l[i]]:=List.take_succ_eq_append_getElem q1
  generalize l[i]=x at *
  obtain⟨n,hn⟩:∃ n:Nat,(x % 5).toNat=n:=⟨_,rfl⟩
  have hn5:n≤4:=by omega
  have e5:IntKind.i64.wrap (x.tmod 5)=(n:Int):=by rw [Int.tmod_eq_emod_of_nonneg (by omega),Zab (by omega) (by omega)];omega
  have e3:IntKind.i64.wrap (x.tmod 3)=x % 3:=by rw [Int.tmod_eq_emod_of_nonneg (by omega),Zab (by omega) (by omega)]
  have e53:IntKind.i64.wrap (5+x % 3)=5+x % 3:=Zab (by omega) (by omega)
  obtain⟨B,hB⟩:∃ B,(Zru x).2=B:=⟨_,rfl⟩
  have hBl:B.length=n:=by rw [← hB];simp [Zru,hn]
  have hO:Zru x=(5+x % 3,B):=by rw [← hB];rfl
  have hBk:∀ k (h:k < B.length),B[k]=x / 2 ^ (9 * k):=fun k h=>by subst hB;simp [Zru]
  obtain⟨A,hA⟩:∃ A,wO ((l.take i).map Zru)=A:=⟨_,rfl⟩
  rw [hA] at h2
  have hwl:Wd (l.take i):=fun w h=>hl w (List.mem_of_mem_take h)
  have hAl:A.length≤41:=by
   have:=Zuj (l.take i) (by simp [List.length_take];omega) hwl
   rw [hA,List.length_take] at this
   omega
  have eA:wO ((l.take (i+1)).map Zru)=A++Zb9 (5+x % 3) B.length::B:=by rw [et,List.map_append,List.map_cons,List.map_nil,hO,Zyg,hA]
  obtain⟨_,m3,c3,rfl,⟨wb3,h3⟩,k3⟩:=Zvt (t:=5+x % 3) (n:=n) hH.alloc h2 (by omega) (by omega) (by unfold Zik;omega)
  rw [List.append_assoc,List.singleton_append] at h3
  have hA0:A≠[]:=by rw [← hA];simp [wO]
  have hA1:1≤A.length:=by cases A with | nil=>exact absurd rfl hA0 | cons=>simp
  simp [-Int.natCast_add,q1,q1',q2',q3,lx,e5,e3,e53,c3]
  refine Zai 9 [17,44] (fun d2 E m4=>∃ k:Nat,n - k=d2∧k≤n∧Zd8 m4 rb rb wb3 vb (A++Zb9 (5+x % 3) n::(B.take k++List.replicate (n - k) 0)) 100∧Zaa m m4 []∧E=[(0,.slice (some ⟨ab,0,none⟩) l.length c),(3,.pointer (some ⟨rb,0,none⟩)),(4,.int .i64 (i:Nat)),(5,.int .i64 (n:Nat)),(6,.int .u64 (A.length:Nat)),(7,.bool true),(8,.int .i64 (k:Nat))]) _ ⟨_,⟨0,rfl,by omega,by simpa using h3,k2.fresh k3 (by simp;omega),rfl⟩,(by repeat' constructor)⟩ ?_
  rintro d2 E m4 ih2 ⟨k,hd2,hk,h4,k4,rfl⟩
  have lx4:=la m4 k4
  by_cases hkn:k < n
  ·have hkn':(k:Int) < n:=by omega
   have wk:IntKind.i64.wrap ((k:Int)+1)=((k+1:Nat):Int):=by rw [Zab (by omega) (by omega)];omega
   obtain⟨p,hp⟩:∃ p,9 * k=p:=⟨_,rfl⟩
   have w9:IntKind.i64.wrap ((k:Int) * 9)=(p:Int):=by rw [Zab (by omega) (by omega)];omega
   have up:IntKind.u64.wrap (p:Int)=(p:Int):=Zbh (by omega) (by omega)
   have pn:¬ (p:Int) < 0:=by omega
   have mp:min p IntKind.u64.bits=p:=Nat.min_eq_left (by have:IntKind.u64.bits=64:=rfl;omega)
   have ef:x.fdiv (2 ^ p)=x / 2 ^ p:=Int.fdiv_eq_ediv_of_nonneg _ (Int.le_of_lt (Int.pow_pos (by omega)))
   have hv:=hBk k (by omega)
   rw [hp] at hv
   have z0:(A++Zb9 (5+x % 3) n::(B.take k++List.replicate (n - k) 0)).getD 0 0=0:=by
    rw [← hA];simp [wO]
   have hxx:=Zw9 hx
   rw [hB] at hxx
   have hAw:Wd A:=by rw [← hA];exact Z9c (room:=100) (by have:=Zzj hwl;rw [Zp,List.take_of_length_le (by simp [List.length_take];omega)] at this;exact this)
   have hW:Wd (A++Zb9 (5+x % 3) n::(B.take k++List.replicate (n - k) 0)):=by
    intro w hw
    simp only [List.mem_append,List.mem_cons,List.mem_replicate] at hw
    rcases hw with hw | rfl | hw | ⟨_,rfl⟩
    ·exact hAw w hw
    ·rw [Zi8 (by omega) (by omega)];omega
    ·exact hxx w (List.mem_of_mem_take hw)
    ·omega
   obtain⟨_,m5,c5,rfl,h5,k5⟩:=Z1w (r:=(A.length:Nat)) (i:=(k:Nat)) (v:=x / 2 ^ p) hH.set hH.put hH.len hH.word h4 (by omega) (by simp;omega) hW z0
   rw [Z34 (by omega) (by omega) hkn (by omega),Zn2,if_neg (by simp;omega),Int.toNat_natCast,Zxt] at h5
   have ets:=Zqi (B:=B) (k:=k) (by omega)
   rw [hv,hBl] at ets
   rw [ets] at h5
   simp [-Int.natCast_add,-w14_8,hkn']
   simp [-Int.natCast_add,lx4,q1,q3,w9,up,pn,mp,ef,c5,wk]
   exact ih2 _ _ _ _ ⟨k+1,rfl,by omega,h5,k4.fresh k5 (by simp;omega),rfl⟩ (by omega) (by repeat' constructor)
  ·have ek:k=n:=by omega
   subst ek
   have hkn':¬ (k:Int) < k:=by omega
   simp [-Int.natCast_add,wi]
   refine ih _ _ _ _ ⟨i+1,wb3,rfl,by omega,by omega,?_,k4,rfl⟩ (by omega) ⟨by rfl,by rfl,by rfl,trivial⟩
   rw [eA,hBl]
   have:B.take k=B:=List.take_of_length_le (by omega)
   simpa [this] using h4
 ·have hfin:Zd8 m2 rb rb wb vb (wO (Zp l)) 100:=by
   have:l.take i=l.take 8:=by
    by_cases q:i < 8
    ·rw [List.take_of_length_le (by omega),List.take_of_length_le (by omega)]
    ·rw [show i=8 by omega]
   unfold Zp
   rw [← this];exact h2
  by_cases q1:i < l.length
  ·have q1':(i:Int) < l.length:=by omega
   have q2:¬ i < 8:=fun h=>hc ⟨q1,h⟩
   have q2':¬ (i:Int) < 8:=by omega
   simp [-Int.natCast_add,q1',q2']
   exact⟨⟨wb,vb,hfin,nR1,nR2⟩,k2⟩
  ·have q1':¬ (i:Int) < l.length:=by omega
   simp [-Int.natCast_add,q1']
   exact⟨⟨wb,vb,hfin,nR1,nR2⟩,k2⟩
end Go.Proofs.YtlogdohlcdhepaaDoor.base
end
section
set_option maxRecDepth 100000
namespace Go.Proofs.YtlogdohlcdhepaaDoor.base
open Go.Sh gen
theorem Zsd:Tryd.prog.follows .mixedOrders=true:=by kernel_rfl
def Zk1:List FuncId:=[9,10,11,12,22,25,26,27,28,29,46,47,48,49,50,51,52,53,54,57,58,61,64,65,66,67,68,69,70,71,72,73,74,75,76,79,78,80,81,82,83,84,86,87,90,91,93,97]
theorem Ybf:Sh.tabCheck Tryd.prog Zk1=true:=by kernel_rfl
theorem nm1:Sh.isVal (.string ⟨[80,97,114,97,109].toArray⟩) (Sh.call Tryd.prog (Sh.tabOf Tryd.prog Zk1) Sh.noSums 100000 66 [.int .i64 1] (Sh.memG Tryd.prog []))=true:=by kernel_rfl
theorem nm2:Sh.isVal (.string ⟨[67,111,110,115,116].toArray⟩) (Sh.call Tryd.prog (Sh.tabOf Tryd.prog Zk1) Sh.noSums 100000 66 [.int .i64 2] (Sh.memG Tryd.prog []))=true:=by kernel_rfl
theorem nm3:Sh.isVal (.string ⟨[65,100,100].toArray⟩) (Sh.call Tryd.prog (Sh.tabOf Tryd.prog Zk1) Sh.noSums 100000 66 [.int .i64 3] (Sh.memG Tryd.prog []))=true:=by kernel_rfl
theorem nm4:Sh.isVal (.string ⟨[83,117,98].toArray⟩) (Sh.call Tryd.prog (Sh.tabOf Tryd.prog Zk1) Sh.noSums 100000 66 [.int .i64 4] (Sh.memG Tryd.prog []))=true:=by kernel_rfl
theorem nm5:Sh.isVal (.string ⟨[77,117,108].toArray⟩) (Sh.call Tryd.prog (Sh.tabOf Tryd.prog Zk1) Sh.noSums 100000 66 [.int .i64 5] (Sh.memG Tryd.prog []))=true:=by kernel_rfl
theorem nm6:Sh.isVal (.string ⟨[68,105,118].toArray⟩) (Sh.call Tryd.prog (Sh.tabOf Tryd.prog Zk1) Sh.noSums 100000 66 [.int .i64 6] (Sh.memG Tryd.prog []))=true:=by kernel_rfl
theorem nm7:Sh.isVal (.string ⟨[82,101,109].toArray⟩) (Sh.call Tryd.prog (Sh.tabOf Tryd.prog Zk1) Sh.noSums 100000 66 [.int .i64 7] (Sh.memG Tryd.prog []))=true:=by kernel_rfl
theorem nm8:Sh.isVal (.string ⟨[78,101,103].toArray⟩) (Sh.call Tryd.prog (Sh.tabOf Tryd.prog Zk1) Sh.noSums 100000 66 [.int .i64 8] (Sh.memG Tryd.prog []))=true:=by kernel_rfl
theorem nm9:Sh.isVal (.string ⟨[78,111,116].toArray⟩) (Sh.call Tryd.prog (Sh.tabOf Tryd.prog Zk1) Sh.noSums 100000 66 [.int .i64 9] (Sh.memG Tryd.prog []))=true:=by kernel_rfl
theorem Yb1:Sh.isVal (.string ⟨[69,113].toArray⟩) (Sh.call Tryd.prog (Sh.tabOf Tryd.prog Zk1) Sh.noSums 100000 66 [.int .i64 10] (Sh.memG Tryd.prog []))=true:=by kernel_rfl
theorem Ycb:Sh.isVal (.string ⟨[78,101].toArray⟩) (Sh.call Tryd.prog (Sh.tabOf Tryd.prog Zk1) Sh.noSums 100000 66 [.int .i64 11] (Sh.memG Tryd.prog []))=true:=by kernel_rfl
theorem Ycf:Sh.isVal (.string ⟨[76,116].toArray⟩) (Sh.call Tryd.prog (Sh.tabOf Tryd.prog Zk1) Sh.noSums 100000 66 [.int .i64 12] (Sh.memG Tryd.prog []))=true:=by kernel_rfl
theorem Ybw:Sh.isVal (.string ⟨[76,101].toArray⟩) (Sh.call Tryd.prog (Sh.tabOf Tryd.prog Zk1) Sh.noSums 100000 66 [.int .i64 13] (Sh.memG Tryd.prog []))=true:=by kernel_rfl
theorem Ycg:Sh.isVal (.string ⟨[66,101,108,111,119].toArray⟩) (Sh.call Tryd.prog (Sh.tabOf Tryd.prog Zk1) Sh.noSums 100000 66 [.int .i64 14] (Sh.memG Tryd.prog []))=true:=by kernel_rfl
theorem Yb4:Sh.isVal (.string ⟨[84,121,112,101,79,102].toArray⟩) (Sh.call Tryd.prog (Sh.tabOf Tryd.prog Zk1) Sh.noSums 100000 66 [.int .i64 15] (Sh.memG Tryd.prog []))=true:=by kernel_rfl
theorem Ydd:Sh.isVal (.string ⟨[76,101,110,79,102].toArray⟩) (Sh.call Tryd.prog (Sh.tabOf Tryd.prog Zk1) Sh.noSums 100000 66 [.int .i64 16] (Sh.memG Tryd.prog []))=true:=by kernel_rfl
theorem Yc:Sh.isVal (.string ⟨[87,111,114,100].toArray⟩) (Sh.call Tryd.prog (Sh.tabOf Tryd.prog Zk1) Sh.noSums 100000 66 [.int .i64 17] (Sh.memG Tryd.prog []))=true:=by kernel_rfl
theorem Yde:Sh.isVal (.string ⟨[87,111,114,100,65,116].toArray⟩) (Sh.call Tryd.prog (Sh.tabOf Tryd.prog Zk1) Sh.noSums 100000 66 [.int .i64 18] (Sh.memG Tryd.prog []))=true:=by kernel_rfl
theorem Yb6:Sh.isVal (.string ⟨[80,117,116].toArray⟩) (Sh.call Tryd.prog (Sh.tabOf Tryd.prog Zk1) Sh.noSums 100000 66 [.int .i64 19] (Sh.memG Tryd.prog []))=true:=by kernel_rfl
theorem Ydi:Sh.isVal (.string ⟨[80,117,116,65,116].toArray⟩) (Sh.call Tryd.prog (Sh.tabOf Tryd.prog Zk1) Sh.noSums 100000 66 [.int .i64 20] (Sh.memG Tryd.prog []))=true:=by kernel_rfl
theorem Yc3:Sh.isVal (.string ⟨[80,104,105].toArray⟩) (Sh.call Tryd.prog (Sh.tabOf Tryd.prog Zk1) Sh.noSums 100000 66 [.int .i64 21] (Sh.memG Tryd.prog []))=true:=by kernel_rfl
theorem Yb0:Sh.isVal (.string ⟨[71,117,97,114,100].toArray⟩) (Sh.call Tryd.prog (Sh.tabOf Tryd.prog Zk1) Sh.noSums 100000 66 [.int .i64 22] (Sh.memG Tryd.prog []))=true:=by kernel_rfl
theorem Ycz:Sh.isVal (.string ⟨[80,111,108,108].toArray⟩) (Sh.call Tryd.prog (Sh.tabOf Tryd.prog Zk1) Sh.noSums 100000 66 [.int .i64 23] (Sh.memG Tryd.prog []))=true:=by kernel_rfl
def Ybi:List (List UInt8):=[[],[80,97,114,97,109],[67,111,110,115,116],[65,100,100],[83,117,98],[77,117,108],[68,105,118],[82,101,109],[78,101,103],[78,111,116],[69,113],[78,101],[76,116],[76,101],[66,101,108,111,119],[84,121,112,101,79,102],[76,101,110,79,102],[87,111,114,100],[87,111,114,100,65,116],[80,117,116],[80,117,116,65,116],[80,104,105],[71,117,97,114,100],[80,111,108,108]]
def nmL:List (List Value × Value):=[([.int .i64 1],.string ⟨[80,97,114,97,109].toArray⟩),([.int .i64 2],.string ⟨[67,111,110,115,116].toArray⟩),([.int .i64 3],.string ⟨[65,100,100].toArray⟩),([.int .i64 4],.string ⟨[83,117,98].toArray⟩),([.int .i64 5],.string ⟨[77,117,108].toArray⟩),([.int .i64 6],.string ⟨[68,105,118].toArray⟩),([.int .i64 7],.string ⟨[82,101,109].toArray⟩),([.int .i64 8],.string ⟨[78,101,103].toArray⟩),([.int .i64 9],.string ⟨[78,111,116].toArray⟩),([.int .i64 10],.string ⟨[69,113].toArray⟩),([.int .i64 11],.string ⟨[78,101].toArray⟩),([.int .i64 12],.string ⟨[76,116].toArray⟩),([.int .i64 13],.string ⟨[76,101].toArray⟩),([.int .i64 14],.string ⟨[66,101,108,111,119].toArray⟩),([.int .i64 15],.string ⟨[84,121,112,101,79,102].toArray⟩),([.int .i64 16],.string ⟨[76,101,110,79,102].toArray⟩),([.int .i64 17],.string ⟨[87,111,114,100].toArray⟩),([.int .i64 18],.string ⟨[87,111,114,100,65,116].toArray⟩),([.int .i64 19],.string ⟨[80,117,116].toArray⟩),([.int .i64 20],.string ⟨[80,117,116,65,116].toArray⟩),([.int .i64 21],.string ⟨[80,104,105].toArray⟩),([.int .i64 22],.string ⟨[71,117,97,114,100].toArray⟩),([.int .i64 23],.string ⟨[80,111,108,108].toArray⟩)]
def Zzg:Zb2:=fun f=>if f=66 then nmL else []
theorem Zyr:Zl Tryd.prog Zzg:=by
 intro f p hp
 unfold Zzg at hp
 split at hp
 ·rename_i hf
  subst hf
  simp only [nmL,List.mem_cons,List.not_mem_nil,or_false] at hp
  have key:∀ (a:List Value) (v:Value),Zc0 a=true→Zaz v=true→Sh.isVal v (Sh.call Tryd.prog (Sh.tabOf Tryd.prog Zk1) Sh.noSums 100000 66 a (Sh.memG Tryd.prog []))=true→_:=fun a v h1 h2 h=>fun w=>Sh.closed_val Zsd (Sh.tab_ok Ybf) (Sh.noSums_ok _) 100000 66 Tryd.func66 (by kernel_rfl) (gs:=[]) h1 h2 h w (fun p hp=>by simp at hp)
  have fin:Tryd.prog.funcs[66]?=some Tryd.f66:=Tryd.func66
  rcases hp with rfl | rfl | rfl | rfl | rfl | rfl | rfl | rfl | rfl | rfl | rfl | rfl | rfl | rfl | rfl | rfl | rfl | rfl | rfl | rfl | rfl | rfl | rfl
  ·exact⟨rfl,rfl,⟨Tryd.f66,Tryd.func66,by kernel_rfl,by kernel_rfl⟩,key _ _ rfl rfl nm1⟩
  ·exact⟨rfl,rfl,⟨Tryd.f66,Tryd.func66,by kernel_rfl,by kernel_rfl⟩,key _ _ rfl rfl nm2⟩
  ·exact⟨rfl,rfl,⟨Tryd.f66,Tryd.func66,by kernel_rfl,by kernel_rfl⟩,key _ _ rfl rfl nm3⟩
  ·exact⟨rfl,rfl,⟨Tryd.f66,Tryd.func66,by kernel_rfl,by kernel_rfl⟩,key _ _ rfl rfl nm4⟩
  ·exact⟨rfl,rfl,⟨Tryd.f66,Tryd.func66,by kernel_rfl,by kernel_rfl⟩,key _ _ rfl rfl nm5⟩
  ·exact⟨rfl,rfl,⟨Tryd.f66,Tryd.func66,by kernel_rfl,by kernel_rfl⟩,key _ _ rfl rfl nm6⟩
  ·exact⟨rfl,rfl,⟨Tryd.f66,Tryd.func66,by kernel_rfl,by kernel_rfl⟩,key _ _ rfl rfl nm7⟩
  ·exact⟨rfl,rfl,⟨Tryd.f66,Tryd.func66,by kernel_rfl,by kernel_rfl⟩,key _ _ rfl rfl nm8⟩
  ·exact⟨rfl,rfl,⟨Tryd.f66,Tryd.func66,by kernel_rfl,by kernel_rfl⟩,key _ _ rfl rfl nm9⟩
  ·exact⟨rfl,rfl,⟨Tryd.f66,Tryd.func66,by kernel_rfl,by kernel_rfl⟩,key _ _ rfl rfl Yb1⟩
  ·exact⟨rfl,rfl,⟨Tryd.f66,Tryd.func66,by kernel_rfl,by kernel_rfl⟩,key _ _ rfl rfl Ycb⟩
  ·exact⟨rfl,rfl,⟨Tryd.f66,Tryd.func66,by kernel_rfl,by kernel_rfl⟩,key _ _ rfl rfl Ycf⟩
  ·exact⟨rfl,rfl,⟨Tryd.f66,Tryd.func66,by kernel_rfl,by kernel_rfl⟩,key _ _ rfl rfl Ybw⟩
  ·exact⟨rfl,rfl,⟨Tryd.f66,Tryd.func66,by kernel_rfl,by kernel_rfl⟩,key _ _ rfl rfl Ycg⟩
  ·exact⟨rfl,rfl,⟨Tryd.f66,Tryd.func66,by kernel_rfl,by kernel_rfl⟩,key _ _ rfl rfl Yb4⟩
  ·exact⟨rfl,rfl,⟨Tryd.f66,Tryd.func66,by kernel_rfl,by kernel_rfl⟩,key _ _ rfl rfl Ydd⟩
  ·exact⟨rfl,rfl,⟨Tryd.f66,Tryd.func66,by kernel_rfl,by kernel_rfl⟩,key _ _ rfl rfl Yc⟩
  ·exact⟨rfl,rfl,⟨Tryd.f66,Tryd.func66,by kernel_rfl,by kernel_rfl⟩,key _ _ rfl rfl Yde⟩
  ·exact⟨rfl,rfl,⟨Tryd.f66,Tryd.func66,by kernel_rfl,by kernel_rfl⟩,key _ _ rfl rfl Yb6⟩
  ·exact⟨rfl,rfl,⟨Tryd.f66,Tryd.func66,by kernel_rfl,by kernel_rfl⟩,key _ _ rfl rfl Ydi⟩
  ·exact⟨rfl,rfl,⟨Tryd.f66,Tryd.func66,by kernel_rfl,by kernel_rfl⟩,key _ _ rfl rfl Yc3⟩
  ·exact⟨rfl,rfl,⟨Tryd.f66,Tryd.func66,by kernel_rfl,by kernel_rfl⟩,key _ _ rfl rfl Yb0⟩
  ·exact⟨rfl,rfl,⟨Tryd.f66,Tryd.func66,by kernel_rfl,by kernel_rfl⟩,key _ _ rfl rfl Ycz⟩
 ·simp at hp
theorem known:Sh.isVal (.bool true) (Sh.call Tryd.prog (Sh.tabOf Tryd.prog Zk1) Zzg 100000 12 [] (Sh.memG Tryd.prog []))=true:=by kernel_rfl
def Z9d:Zb2:=fun f=>if f=12 then [([],.bool true)] else Zzg f
theorem Z7g:Zl Tryd.prog Z9d:=by
 intro f p hp
 unfold Z9d at hp
 split at hp
 ·rename_i hf
  subst hf
  simp only [List.mem_cons,List.not_mem_nil,or_false] at hp
  subst hp
  exact⟨rfl,rfl,⟨Tryd.f12,Tryd.func12,by kernel_rfl,by kernel_rfl⟩,fun w=>Sh.closed_val Zsd (Sh.tab_ok Ybf) Zyr 100000 12 Tryd.func12 (by kernel_rfl) (gs:=[]) (by kernel_rfl) (by kernel_rfl) known w (fun p hp=>by simp at hp)⟩
 ·exact Zyr f p hp
end Go.Proofs.YtlogdohlcdhepaaDoor.base
end
section
set_option maxRecDepth 100000
namespace Go.Proofs.YtlogdohlcdhepaaDoor.base
open Go.Sh gen
variable {S:Zb2}{m:Mem}
def Zd6 (op:Int):List UInt8:=if 1≤op∧op≤23 then Ybi.getD op.toNat [] else []
theorem Z14 (op:Int):(Zd6 op=[])↔¬ (1≤op∧op≤23):=by
 rcases Zpd op with (rfl | rfl | rfl | rfl | rfl | rfl | rfl | rfl | rfl | rfl | rfl | rfl | rfl | rfl | rfl | rfl | rfl | rfl | rfl | rfl | rfl | rfl | rfl | hno)
 all_goals first
  | (simp [Zd6,Ybi];done)
  | (unfold Zd6;rw [if_neg (by omega)];simp;omega)
theorem Z22 (hS:S 66=nmL)(op:Int):Zag Tryd.prog TT S 66 [.int .i64 op] m=some (.string ⟨(Zd6 op).toArray⟩,m):=by
 rcases Zpd op with (rfl | rfl | rfl | rfl | rfl | rfl | rfl | rfl | rfl | rfl | rfl | rfl | rfl | rfl | rfl | rfl | rfl | rfl | rfl | rfl | rfl | rfl | rfl | hno)
 ·exact Zda (p:=([.int .i64 1],.string ⟨(Zd6 1).toArray⟩)) (by rw [hS];rfl)
 ·exact Zda (p:=([.int .i64 2],.string ⟨(Zd6 2).toArray⟩)) (by rw [hS];rfl)
 ·exact Zda (p:=([.int .i64 3],.string ⟨(Zd6 3).toArray⟩)) (by rw [hS];rfl)
 ·exact Zda (p:=([.int .i64 4],.string ⟨(Zd6 4).toArray⟩)) (by rw [hS];rfl)
 ·exact Zda (p:=([.int .i64 5],.string ⟨(Zd6 5).toArray⟩)) (by rw [hS];rfl)
 ·exact Zda (p:=([.int .i64 6],.string ⟨(Zd6 6).toArray⟩)) (by rw [hS];rfl)
 ·exact Zda (p:=([.int .i64 7],.string ⟨(Zd6 7).toArray⟩)) (by rw [hS];rfl)
 ·exact Zda (p:=([.int .i64 8],.string ⟨(Zd6 8).toArray⟩)) (by rw [hS];rfl)
 ·exact Zda (p:=([.int .i64 9],.string ⟨(Zd6 9).toArray⟩)) (by rw [hS];rfl)
 ·exact Zda (p:=([.int .i64 10],.string ⟨(Zd6 10).toArray⟩)) (by rw [hS];rfl)
 ·exact Zda (p:=([.int .i64 11],.string ⟨(Zd6 11).toArray⟩)) (by rw [hS];rfl)
 ·exact Zda (p:=([.int .i64 12],.string ⟨(Zd6 12).toArray⟩)) (by rw [hS];rfl)
 ·exact Zda (p:=([.int .i64 13],.string ⟨(Zd6 13).toArray⟩)) (by rw [hS];rfl)
 ·exact Zda (p:=([.int .i64 14],.string ⟨(Zd6 14).toArray⟩)) (by rw [hS];rfl)
 ·exact Zda (p:=([.int .i64 15],.string ⟨(Zd6 15).toArray⟩)) (by rw [hS];rfl)
 ·exact Zda (p:=([.int .i64 16],.string ⟨(Zd6 16).toArray⟩)) (by rw [hS];rfl)
 ·exact Zda (p:=([.int .i64 17],.string ⟨(Zd6 17).toArray⟩)) (by rw [hS];rfl)
 ·exact Zda (p:=([.int .i64 18],.string ⟨(Zd6 18).toArray⟩)) (by rw [hS];rfl)
 ·exact Zda (p:=([.int .i64 19],.string ⟨(Zd6 19).toArray⟩)) (by rw [hS];rfl)
 ·exact Zda (p:=([.int .i64 20],.string ⟨(Zd6 20).toArray⟩)) (by rw [hS];rfl)
 ·exact Zda (p:=([.int .i64 21],.string ⟨(Zd6 21).toArray⟩)) (by rw [hS];rfl)
 ·exact Zda (p:=([.int .i64 22],.string ⟨(Zd6 22).toArray⟩)) (by rw [hS];rfl)
 ·exact Zda (p:=([.int .i64 23],.string ⟨(Zd6 23).toArray⟩)) (by rw [hS];rfl)
 ·have hf:(S 66).find? (fun p=>eqL p.1 [Value.int .i64 op])=none:=by
   rw [hS,List.find?_eq_none]
   intro p hp
   simp only [nmL,List.mem_cons,List.not_mem_nil,or_false] at hp
   rcases hp with rfl | rfl | rfl | rfl | rfl | rfl | rfl | rfl | rfl | rfl | rfl | rfl | rfl | rfl | rfl | rfl | rfl | rfl | rfl | rfl | rfl | rfl | rfl
   all_goals (simp [eqL,eqV];omega)
  have e0:Zd6 op=[]:=by unfold Zd6;rw [if_neg (by omega)]
  rw [e0]
  refine Z78 3 [8] k66 hf rfl ?_
  rcases hno with h | h
  ·simp [h]
  ·have h1:¬ op < 1:=by omega
   simp [h,h1]
theorem Z5f (hS:S 66=nmL):Ybl S:=by
 intro m op
 refine⟨Zd6 op,Z22 hS op,?_⟩
 rw [Z14]
 unfold Zvj
 rw [Bool.and_eq_false_iff,decide_eq_false_iff_not,decide_eq_false_iff_not]
 omega
structure Nz (S:Zb2):Prop where
 name:S 66=nmL
 e:∀ f,f≠66→f≠12→S f=[]
theorem nz:Nz Z9d:=⟨rfl,fun f h1 h2=>by simp [Z9d,Zzg,h1,h2]⟩
theorem Nz.nk (h:Nz S):Nk S:=
 ⟨h.e _ (by decide) (by decide),h.e _ (by decide) (by decide),h.e _ (by decide) (by decide),h.e _ (by decide) (by decide),h.e _ (by decide) (by decide),h.e _ (by decide) (by decide),
  ⟨Z5f h.name,h.e _ (by decide) (by decide),h.e _ (by decide) (by decide),h.e _ (by decide) (by decide),h.e _ (by decide) (by decide),h.e _ (by decide) (by decide),h.e _ (by decide) (by decide),h.e _ (by decide) (by decide),h.e _ (by decide) (by decide),h.e _ (by decide) (by decide)⟩,
  ⟨h.e _ (by decide) (by decide),h.e _ (by decide) (by decide),h.e _ (by decide) (by decide),h.e _ (by decide) (by decide)⟩,
  ⟨h.e _ (by decide) (by decide),h.e _ (by decide) (by decide),h.e _ (by decide) (by decide),h.e _ (by decide) (by decide),h.e _ (by decide) (by decide),h.e _ (by decide) (by decide)⟩,
  ⟨h.e _ (by decide) (by decide),h.e _ (by decide) (by decide),h.e _ (by decide) (by decide),h.e _ (by decide) (by decide),h.e _ (by decide) (by decide),h.e _ (by decide) (by decide),h.e _ (by decide) (by decide)⟩⟩
theorem Zyv {u:UnT.D}{s:StS}(h:Znf u=some s):Zis u=true∧Zv0 u=true∧Zdm u=some s∧Zr8 u s.1=true∧Zrf u=true∧Zp0 u=true:=by
 unfold Znf at h
 split at h
 ·rename_i h1
  rw [Bool.and_eq_true] at h1
  obtain⟨h2,h3⟩:=Option.filter_eq_some_iff.1 h
  rw [Bool.and_eq_true,Bool.and_eq_true] at h3
  exact⟨h1.1,h1.2,h2,h3.1.1,h3.1.2,h3.2⟩
 ·cases h
end Go.Proofs.YtlogdohlcdhepaaDoor.base
end
section
set_option maxRecDepth 100000
namespace Go.Proofs.YtlogdohlcdhepaaDoor.base
open Go.Sh gen
variable {S:Zb2}{m:Mem}{Q:Nat→Prop}
theorem Za2.atQ {ao:Option Addr}{l:List Int}(h:Za2 Q m ao l):AtQ Q m (Ty.slice 3 (Ty.int .i64)) l [.slice ao l.length l.length]:=by
 obtain⟨f,h1,h2⟩:=h
 refine⟨ao,l.map fun n=>[Value.int .i64 n],f,rfl,by simp,fun i d c hd hc=>?_,?_,h2⟩
 ·rw [List.getElem?_map,hd] at hc
  simp only [Option.map_some,Option.some.injEq] at hc
  exact hc.symm
 ·rw [← List.flatMap_def,← List.map_eq_flatMap]
  exact h1
theorem Ztd {l:List Int}{e:TypeId}{css:List (List Value)}(h2:css.length=l.length)(h3:∀ (i:Nat) (d:(Ty.int .u64).D) c,l[i]?=some d→css[i]?=some c→At m (Ty.int .u64) d c):css.flatten=words l:=by
 have:css=l.map fun n=>[Value.int .u64 n]:=by
  apply List.ext_getElem?
  intro i
  by_cases hi:i < l.length
  ·have hc:i < css.length:=by omega
   have:=h3 i l[i] css[i] (List.getElem?_eq_getElem hi) (List.getElem?_eq_getElem hc)
   simp only [At] at this
   simp [hi,hc,this]
  ·rw [List.getElem?_eq_none (by omega),List.getElem?_eq_none (by simp;omega)]
 rw [this,← List.flatMap_def]
 exact List.map_eq_flatMap.symm
theorem Zt2 {l:List Int}{c:List Value}(h:AtQ Q m (Ty.slice 45 (Ty.int .u64)) l c):∃ ao f,c=[.slice ao l.length l.length]∧Rs m ao l.length (words l) 45 1 f:=by
 obtain⟨ao,css,fam,h1,h2,h3,h4,h5⟩:=h
 have:=Ztd (e:=45) h2 (fun i d c h6 h7=>(h3 i d c h6 h7).at_)
 rw [this] at h4
 exact⟨ao,fam,h1,h4⟩
theorem Zro {fs:List Z3.D}{fo:Option Addr}(h:AtQ Q m (Ty.slice 44 (Ty.pair (Ty.int .i64) (Ty.pair (Ty.int .i64) (Ty.pair (Ty.slice 45 (Ty.int .u64)) (Ty.pair (Ty.slice 45 (Ty.int .u64)) Ty.unit))))) fs [.slice fo fs.length fs.length]){i:Nat}(hi:i < fs.length) :
  ∃ (b:Nat) (lo so:Option Addr) (f1 f2:Nat),fo=some ⟨b,0,none⟩∧loadRow m ⟨b,i * 4,none⟩ 4=some [.int .i64 (fs[i]).1,.int .i64 (fs[i]).2.1,.slice lo (fs[i]).2.2.1.length (fs[i]).2.2.1.length,.slice so (fs[i]).2.2.2.1.length (fs[i]).2.2.2.1.length]∧
   Rs m lo (fs[i]).2.2.1.length (words (show List Int from (fs[i]).2.2.1)) 45 1 f1∧Rs m so (fs[i]).2.2.2.1.length (words (show List Int from (fs[i]).2.2.2.1)) 45 1 f2:=by
 obtain⟨vb,c,fam,e,hc,hl,hq,_⟩:=Zhw h hi
 obtain⟨_,_,e1,rfl,_,_,e2,rfl,_,_,e3,h3,_,_,e4,h4,h5⟩:=hc
 simp only [AtQ] at h5
 subst h5
 obtain⟨lo,f1,rfl,r1⟩:=Zt2 h3
 obtain⟨so,f2,rfl,r2⟩:=Zt2 h4
 refine⟨vb,lo,so,f1,f2,e,?_,r1,r2⟩
 rw [e1,e2,e3,e4] at hl
 exact hl
def At2 (Q:Nat→Prop)(m:Mem)(t:Ty):List t.D→List (List Value)→Prop
 | [],[]=>True
 | d::r,c::s=>AtQ Q m t d c∧At2 Q m t r s
 | _,_=>False
theorem At2.len {t:Ty}:∀ {l:List t.D} {css:List (List Value)},At2 Q m t l css→css.length=l.length
 | [],[],_=>rfl
 | _::_,_::_,h=>by rw [List.length_cons,List.length_cons,At2.len h.2]
 | [],_::_,h=>h.elim
 | _::_,[],h=>h.elim
theorem At2.get {t:Ty}:∀ {l:List t.D} {css:List (List Value)},At2 Q m t l css→∀ (i:Nat) d c,l[i]?=some d→css[i]?=some c→AtQ Q m t d c
 | [],[],_,i,d,c,h1,_=>by simp at h1
 | a::r,b::s,h,0,d,c,h1,h2=>by simp at h1 h2;rw [← h1,← h2];exact h.1
 | a::r,b::s,h,i+1,d,c,h1,h2=>At2.get h.2 i d c (by simpa using h1) (by simpa using h2)
 | [],_::_,h,_,_,_,_,_=>h.elim
 | _::_,[],h,_,_,_,_,_=>h.elim
end Go.Proofs.YtlogdohlcdhepaaDoor.base
end
