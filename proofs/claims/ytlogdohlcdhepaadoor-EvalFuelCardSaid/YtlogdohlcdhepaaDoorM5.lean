/- This text holds small facts of rows (zeros, numbers), for what follows. No condition. -/
import Derived.Test.YtlogdohlcdhepaaDoorM4
set_option linter.unusedVariables false
set_option linter.unusedSimpArgs false
section
set_option maxRecDepth 100000
namespace Go.Proofs.YtlogdohlcdhepaaDoor.base
open Go.Sh gen
variable {S:Zc}{m:Mem}
def Yb6 (P:Program)(e bt:Nat)(l:List Value):Bool:=match P.info? e with
 | some i=>match i.zero with
  | some z=>Zb0 z.cells && (z.cells.size == i.size) && (i.bytes == bt) && eqL z.cells.toList l
  | none=>false
 | none=>false
theorem Zm {P:Program}{e bt:Nat}{v:Value}(h:Yb6 P e bt [v]=true)(k:Nat)(hk:k * bt≤281474976710656):Zcu P e k=some (List.replicate k v):=by
 unfold Yb6 at h
 unfold Zcu
 cases hi:P.info? e with
 | none=>rw [hi] at h;cases h
 | some i =>
  rw [hi] at h
  dsimp only at h ⊢
  cases hz:i.zero with
  | none=>rw [hz] at h;cases h
  | some z =>
   rw [hz] at h
   dsimp only at h ⊢
   simp only [Bool.and_eq_true,beq_iff_eq] at h
   obtain⟨⟨⟨h1,h2⟩,h3⟩,h4⟩:=h
   rw [h1,h2,h3,Zm8 _ _ h4]
   simp [hk]
theorem Zrq (k:Nat)(hk:k≤1000000):Zcu Tryd.prog 3 k=some (List.replicate k (Value.int .i64 0)):=Zm (bt:=8) (by kernel_rfl) k (by omega)
theorem Zx0 (k:Nat)(hk:k≤1000000):Zcu Tryd.prog 4 k=some (List.replicate k (Value.bool false)):=Zm (bt:=1) (by kernel_rfl) k (by omega)
abbrev Zbx (u:UnT.D)(at_:Nat):Zf9.D:=(show List Zf9.D from u.2.2.2.1).getD at_ (([]:List Int),(0:Int),(0:Int),([]:List Int),([]:List Int),(0:Int),())
theorem Zcz {u:UnT.D}{i:Nat}(h:i < nb u):Zbx u i=u.2.2.2.1[i]:=by
 unfold Zbx
 rw [List.getD_eq_getElem?_getD,List.getElem?_eq_getElem h];rfl
abbrev Zcj (u:UnT.D)(vo bo so:Option Addr):List Value:=[.int .i64 u.1,.int .i64 u.2.1,.slice vo (nv u) (nv u),.slice bo (nb u) (nb u),.slice so (ns u) (ns u)]
abbrev stD (u:UnT.D)(st:Nat):List Znw.D:=(show List StT.D from u.2.2.2.2.1).getD st (([]:List Znw.D),()) |>.1
theorem Zid {u:UnT.D}{i:Nat}(h:i < ns u):stD u i=(u.2.2.2.2.1[i]).1:=by
 unfold stD
 rw [List.getD_eq_getElem?_getD,List.getElem?_eq_getElem h];rfl
abbrev ints (l:List Int):List Value:=l.map (Value.int .i64)
abbrev Zoc (l:List Bool):List Value:=l.map Value.bool
theorem Zr (n:Nat):List.replicate n (Value.int .i64 0)=ints (List.replicate n 0):=by simp
theorem Zw5 (n:Nat):List.replicate n (Value.bool false)=Zoc (List.replicate n false):=by simp
theorem Zys {l:List Int}{i:Nat}(v:Int)(h:i < l.length):Zb5 (ints l) i [.int .i64 v]=ints (l.set i v):=by
 simp [Zb5,List.set_eq_take_append_cons_drop,h,List.map_take,List.map_drop]
theorem Zwi {l:List Bool}{i:Nat}(v:Bool)(h:i < l.length):Zb5 (Zoc l) i [.bool v]=Zoc (l.set i v):=by
 simp [Zb5,List.set_eq_take_append_cons_drop,h,List.map_take,List.map_drop]
theorem Z4 {l:List Bool}{i:Nat}(h:i < l.length):(Zoc l)[i]?=some (.bool (l.getD i false)):=by
 rw [List.getElem?_map,List.getElem?_eq_getElem h,List.getD_eq_getElem?_getD,List.getElem?_eq_getElem h];rfl
theorem Zbf {m m1 m2:Mem}{fs gs:List Nat}(h:Zag m m1 fs)(k:Zag m1 m2 gs)(hg:∀ g:Nat,g < m.next→g∈gs→g∈fs):Zag m m2 fs:=
 ⟨Nat.le_trans h.1 k.1,fun l bl hl hb hq hf=>k.2.1 l bl (Nat.lt_of_lt_of_le hl h.1) (h.2.1 l bl hl hb hq hf) (Nat.lt_of_lt_of_le hq h.1) (fun hx=>hf (hg _ hq hx)),fun f hl hf=>by rw [k.2.2.1 f (Nat.lt_of_lt_of_le hl h.1) (fun hx=>hf (hg _ hl hx)),h.2.2.1 f hl hf],fun f hl hf=>by rw [k.2.2.2 f (Nat.lt_of_lt_of_le hl h.1) (fun hx=>hf (hg _ hl hx)),h.2.2.2 f hl hf]⟩
theorem Zu7 (n i:Nat)(a b:Int)(h:i < n):(List.replicate i b++List.replicate (n - i) a).set i b=List.replicate (i+1) b++List.replicate (n - (i+1)) a:=by
 rw [List.set_append_right _ _ (by simp)]
 simp only [List.length_replicate,Nat.sub_self]
 obtain⟨k,hk⟩:∃ k,n - i=k+1:=⟨n - i - 1,by omega⟩
 rw [hk,List.replicate_succ,List.set_cons_zero,List.replicate_succ',show n - (i+1)=k by omega]
 simp
theorem Zij {b f:Nat}{l:List Int}(h:Own m b (ints l) 3 f){i:Nat}(hi:i < l.length)(v:Int) :
  ∃ m1,Zaj m ⟨b,i,none⟩ [.int .i64 v]=some m1∧Own m1 b (ints (l.set i v)) 3 f∧Zag m m1 [f]:=by
 obtain⟨m1,e1,o1,k1⟩:=Zap (r:=_) rfl h (off:=i) (vs:=[.int .i64 v]) (by simp;omega) (by simp [Zau])
 rw [Zys v hi] at o1
 exact⟨m1,e1,o1,k1⟩
theorem Zvw {b f:Nat}{l:List Bool}(h:Own m b (Zoc l) 4 f){i:Nat}(hi:i < l.length)(v:Bool) :
  ∃ m1,Zaj m ⟨b,i,none⟩ [.bool v]=some m1∧Own m1 b (Zoc (l.set i v)) 4 f∧Zag m m1 [f]:=by
 obtain⟨m1,e1,o1,k1⟩:=Zap (r:=_) rfl h (off:=i) (vs:=[.bool v]) (by simp;omega) (by simp)
 rw [Zwi v hi] at o1
 exact⟨m1,e1,o1,k1⟩
end Go.Proofs.YtlogdohlcdhepaaDoor.base
end
section
set_option maxRecDepth 100000
namespace Go.Proofs.YtlogdohlcdhepaaDoor.base
open Go.Sh gen
variable {S:Zc}{m:Mem}
abbrev ckC (u:UnT.D)(vo bo so:Option Addr)(r1 r2 r3:Value):List Value:=[.int .i64 u.1,.int .i64 u.2.1,.slice vo (nv u) (nv u),.slice bo (nb u) (nb u),.slice so (ns u) (ns u),r1,r2,r3]
def Zlh (u:UnT.D)(f:Znw.D):Bool:=!decide (40 < List.length f.2.2.1) && !decide (60 < List.length f.2.2.2.1) && Zcm u f.2.2.1 && Zcm u f.2.2.2.1
def Zfa (u:UnT.D)(fs:List Znw.D):Bool:=!decide (fs.length=0) && !decide (30 < fs.length) && fs.all (Zlh u)
set_option maxHeartbeats 4000000 in
theorem Zy7 (hS:S 47=[])(hT:S 64=[])(hB:S 65=[]){Q:Nat→Prop}{u:UnT.D}{vo bo so:Option Addr}(hU:UAt Q m u vo bo so)(hnu:nv u≤1000000){cb cf:Nat}{r1 r2 r3:Value}(hC:Own m cb (ckC u vo bo so r1 r2 r3) 99 cf)
  {i:Nat} (hi:i < ns u) (hns:ns u≤1000000) {fs:List Znw.D} (hfs:(u.2.2.2.2.1[i]).1=fs) (hfl:fs.length≤20000000000000) (hfi:∀ f∈fs,List.length f.2.2.1≤20000000000000∧List.length f.2.2.2.1≤20000000000000) :
  ∃ v m1,Zal Tryd.prog TT S 47 [.pointer (some ⟨cb,0,none⟩),.int .i64 (i:Int)] m=some (v,m1)∧v=.bool (Zfa u fs)∧Zag m m1 []:=by
 obtain⟨sb,fo,hso,lds,hfo⟩:=Zqg hU hi
 rw [hfs] at lds hfo
 have l4:=hC.load1 (off:=4) rfl
 rw [hso] at l4
 have s1:(i:Int) < ns u:=by omega
 have s2:(i:Int)≤9223372036854775807:=by omega
 have ld0:=lds m [] (Zag.refl _ _) (by simp)
 obtain⟨oZ,kZ,nZ⟩:=Zay (m:=m) (cs:=[.slice none 0 0]) (e:=67) rfl
 obtain⟨bx,hbx⟩:∃ bx,m.next=bx:=⟨_,rfl⟩
 obtain⟨m3,e3,oX,kX⟩:=Zap (r:=_) rfl oZ (off:=0) (vs:=[.slice fo fs.length fs.length]) (by simp) (by simp [Zai])
 simp [Zb5] at oX
 have k3:=kZ.fresh kX (by simp)
 rw [hbx] at oX nZ e3
 have x0:=oX.load1 (off:=0) rfl
 refine Zfz 30 [30,56] k47 hS rfl ?_
 simp [-Int.natCast_add,-w47_2,Za Zbt,Za Zdb,Zaa Zmv,Zab u32 Z8q,Zao Yck,Zas Yct,Zad Z8q,l4,s2,hi,ld0,hbx,e3]
 by_cases z0:fs.length=0
 ·have z1:fs=[]:=List.length_eq_zero_iff.1 z0
  have:Zfa u fs=false:=by rw [z1];rfl
  rw [this]
  simp [-Int.natCast_add,Za Zry,Zaa Yab,Zac u65,x0,z1]
  exact k3
 have z1:¬ fs=[]:=fun e=>z0 (by rw [e];rfl)
 by_cases z2:30 < fs.length
 ·have z3:(30:Int) < fs.length:=by omega
  have:Zfa u fs=false:=by simp [Zfa,z2]
  rw [this]
  simp [-Int.natCast_add,Za Zry,Zaa Yab,Zac u65,x0,z0,z3]
  exact k3
 have z3:¬ (30:Int) < fs.length:=by omega
 simp [-Int.natCast_add,Za Zry,Zaa Yab,Zac u65,x0,z0,z3]
 have hfo3:=hfo.keep k3 (by simp)
 refine Zaq 30 [30,56] (fun d E mF=>∃ (j:Nat),fs.length - j=d∧j≤fs.length∧(fs.drop j).all (Zlh u)=fs.all (Zlh u)∧Zag m3 mF []∧
  E=[(0,.pointer (some ⟨cb,0,none⟩)),(27,.slice fo fs.length fs.length),(28,.int .i64 fs.length),(29,.int .i64 (j:Int))]) _ ⟨_,⟨0,rfl,by omega,by rw [List.drop_zero],.refl _ _,rfl⟩,⟨by rfl,by rfl,by rfl,by rfl,trivial⟩⟩ ?_
 rintro d E mF ih ⟨j,hd,hj,ha,kF,rfl⟩
 have jm:(j:Int)≤9223372036854775807:=by omega
 have eS:Zfa u fs=fs.all (Zlh u):=by simp [Zfa,z1,z2]
 by_cases hlt:j < fs.length
 ·have j1:(j:Int) < fs.length:=by omega
  have wj:IntKind.i64.wrap ((j:Int)+1)=((j+1:Nat):Int):=by rw [Zaf (by omega) (by omega)];omega
  obtain⟨fb,la,sa,hfb,ldf,hla,hsa⟩:=Zqk (hfo3.keep kF (by simp)) hlt
  have hmm:=hfi _ (List.getElem_mem hlt)
  rw [List.drop_eq_getElem_cons hlt,List.all_cons] at ha
  rw [hfb] at ih ⊢
  generalize fs[j]=F at *
  obtain⟨oY,kY,nY⟩:=Zay (m:=mF) (cs:=[.int .i64 0,.int .i64 0,.slice none 0 0,.slice none 0 0]) (e:=64) rfl
  obtain⟨zb,hzb⟩:∃ zb,mF.next=zb:=⟨_,rfl⟩
  obtain⟨mG,eG,oG,kG'⟩:=Zap (r:=_) rfl oY (off:=0) (vs:=frC F la sa) (by simp) (by simp [Zau,Zai])
  simp [Zb5] at oG
  have kG:=kY.fresh kG' (by simp)
  rw [hzb] at oG nY eG
  have K3:Zag m mG []:=(k3.trans kF).trans kG
  have g2:=oG.load1 (off:=2) rfl
  have g3:=oG.load1 (off:=3) rfl
  have hCG:=(hC.keep K3 (by simp)).load1 (off:=2) rfl
  have t1:=Zki hT hB (hU.keep K3 (by simp)) hnu hCG hmm.1 (hla.keep kG (by simp))
  have t2:=Zki hT hB (hU.keep K3 (by simp)) hnu hCG hmm.2 (hsa.keep kG (by simp))
  obtain⟨n1,hn1⟩:∃ n1:Nat,List.length F.2.2.1=n1:=⟨_,rfl⟩
  obtain⟨n2,hn2⟩:∃ n2:Nat,List.length F.2.2.2.1=n2:=⟨_,rfl⟩
  obtain⟨b1,hb1⟩:∃ b1,Zcm u F.2.2.1=b1:=⟨_,rfl⟩
  obtain⟨b2,hb2⟩:∃ b2,Zcm u F.2.2.2.1=b2:=⟨_,rfl⟩
  have eF:Zlh u F=(!decide (40 < n1) && !decide (60 < n2) && b1 && b2):=by unfold Zlh;rw [hn1,hn2,hb1,hb2]
  rw [hb1] at t1
  rw [hb2] at t2
  rw [eF] at ha
  unfold frC at eG g2 g3 ldf
  rw [hn1] at t1 g2
  rw [hn2] at t2 g3
  rw [hn1,hn2] at ldf eG
  by_cases q1:40 < n1
  ·have q1':(40:Int) < n1:=by omega
   have:Zfa u fs=false:=by rw [eS,← ha];simp [q1]
   rw [this]
   simp [-Int.natCast_add,Zab u65 Zpq,Zao Z1r,Zas Z1s,Zad Zpq,Za Zh2,Zaa Zb3,Zac u36,Za Zi9,j1,jm,hlt,ldf,hzb,eG,g2,q1']
   exact K3
  have q1':¬ (40:Int) < n1:=by omega
  by_cases q2:60 < n2
  ·have q2':(60:Int) < n2:=by omega
   have:Zfa u fs=false:=by rw [eS,← ha];simp [q2]
   rw [this]
   simp [-Int.natCast_add,Zab u65 Zpq,Zao Z1r,Zas Z1s,Zad Zpq,Za Zh2,Zaa Zb3,Zac u36,Za Zi9,j1,jm,hlt,ldf,hzb,eG,g2,g3,q1',q2']
   exact K3
  have q2':¬ (60:Int) < n2:=by omega
  cases b1
  ·have:Zfa u fs=false:=by rw [eS,← ha];simp
   rw [this]
   simp [-Int.natCast_add,Zab u65 Zpq,Zao Z1r,Zas Z1s,Zad Zpq,Za Zh2,Zaa Zb3,Zac u36,Za Zi9,j1,jm,hlt,ldf,hzb,eG,g2,g3,q1',q2',t1]
   exact K3
  cases b2
  ·have:Zfa u fs=false:=by rw [eS,← ha];simp
   rw [this]
   simp [-Int.natCast_add,Zab u65 Zpq,Zao Z1r,Zas Z1s,Zad Zpq,Za Zh2,Zaa Zb3,Zac u36,Za Zi9,j1,jm,hlt,ldf,hzb,eG,g2,g3,q1',q2',t1,t2]
   exact K3
  simp [-Int.natCast_add,Zab u65 Zpq,Zao Z1r,Zas Z1s,Zad Zpq,Za Zh2,Zaa Zb3,Zac u36,Za Zi9,j1,jm,hlt,ldf,hzb,eG,g2,g3,q1',q2',t1,t2,wj]
  exact ih _ _ _ _ ⟨j+1,rfl,by omega,by rw [← ha];simp [q1,q2],kF.trans kG,rfl⟩ (by omega) ⟨by rfl,by rfl,by rfl,by rfl,trivial⟩
 have j1:¬ (j:Int) < fs.length:=by omega
 rw [List.drop_of_length_le (by omega)] at ha
 have:Zfa u fs=true:=by rw [eS,← ha];rfl
 rw [this]
 simp [-Int.natCast_add,j1]
 exact k3.trans kF
end Go.Proofs.YtlogdohlcdhepaaDoor.base
end
section
set_option maxRecDepth 100000
namespace Go.Proofs.YtlogdohlcdhepaaDoor.base
open Go.Sh gen
variable {S:Zc}{m:Mem}
def Zfb (p:Nat→Bool)(i:Nat):Nat→Bool
 | 0=>true
 | d+1=>p i && Zfb p (i+1) d
set_option maxHeartbeats 4000000 in
theorem Zne (hS:S 46=[]){g cb:Nat}{n:Nat}(hn:n≤1000000)(p:Nat→Bool)
  (h:∀ (i:Nat) (mF:Mem),i < n→Zag m mF []→∃ mG,Zal Tryd.prog TT S g [.pointer (some ⟨cb,0,none⟩),.int .i64 (i:Int)] mF=some (.bool (p i),mG)∧Zag mF mG []) :
  ∃ v m1,Zal Tryd.prog TT S 46 [.pointer (some ⟨cb,0,none⟩),.int .i64 (n:Int),.func (.func g) #[.pointer (some ⟨cb,0,none⟩)] #[]] m=some (v,m1)∧v=.bool (Zfb p 0 n)∧Zag m m1 []:=by
 refine Zfz 8 [10,16] k46 hS rfl ?_
 simp [-Int.natCast_add]
 refine Zaq 8 [10,16] (fun d E mF=>∃ (i:Nat),n - i=d∧i≤n∧Zfb p i (n - i)=Zfb p 0 n∧Zag m mF []∧
  E=[(1,.int .i64 (n:Int)),(2,.func (.func g) #[.pointer (some ⟨cb,0,none⟩)] #[]),(7,.int .i64 (i:Int))]) _ ⟨_,⟨0,rfl,by omega,rfl,.refl _ _,rfl⟩,⟨by rfl,by rfl,by rfl,trivial⟩⟩ ?_
 rintro d E mF ih ⟨i,hd,hi,ha,kF,rfl⟩
 have im:(i:Int)≤9223372036854775807:=by omega
 by_cases hlt:i < n
 ·have i1:(i:Int) < n:=by omega
  have wi:IntKind.i64.wrap ((i:Int)+1)=((i+1:Nat):Int):=by rw [Zaf (by omega) (by omega)];omega
  obtain⟨mG,c,kG⟩:=h i mF hlt kF
  obtain⟨e,he⟩:∃ e,n - i=e+1:=⟨n - i - 1,by omega⟩
  have he2:n - (i+1)=e:=by omega
  rw [he,Zfb] at ha
  cases hp:p i
  ·rw [hp] at ha c
   have:Zfb p 0 n=false:=by rw [← ha];rfl
   rw [this]
   simp [-Int.natCast_add,i1,c]
   exact kF.trans kG
  ·rw [hp] at ha c
   simp [-Int.natCast_add,i1,c,wi]
   exact ih _ _ _ _ ⟨i+1,rfl,by omega,by rw [he2,← ha];rfl,kF.trans kG,rfl⟩ (by omega) ⟨by rfl,by rfl,by rfl,trivial⟩
 have i1:¬ (i:Int) < n:=by omega
 rw [show n - i=0 by omega] at ha
 have:Zfb p 0 n=true:=by rw [← ha];rfl
 rw [this]
 simp [-Int.natCast_add,i1]
 exact kF
end Go.Proofs.YtlogdohlcdhepaaDoor.base
end
section
set_option maxRecDepth 100000
namespace Go.Proofs.YtlogdohlcdhepaaDoor.base
open Go.Sh gen
variable {S:Zc}{m:Mem}
def Znz (u:UnT.D)(b:Zf9.D):Bool:=(show List Int from b.2.2.2.1).all (fun k=>Zcf k (nb u)) &&
 (if b.2.1=1 then decide (List.length b.2.2.2.1=1) else if b.2.1=2 then decide (List.length b.2.2.2.1=2) && Zcm u [(show Int from b.2.2.1)] else
  if b.2.1=3 then decide (List.length b.2.2.2.1=0) && Zcf (show Int from b.2.2.2.2.2.1) (ns u) else false)
set_option maxHeartbeats 8000000 in
theorem Z20 (hS:S 50=[])(hT:S 64=[])(hB:S 65=[]){Q:Nat→Prop}{u:UnT.D}{vo bo so:Option Addr}(hU:UAt Q m u vo bo so)(hnu:nv u≤1000000)(hnb:nb u≤1000000){cb cf:Nat}{r1 r2 r3:Value}(hC:Own m cb (ckC u vo bo so r1 r2 r3) 99 cf)
  {i:Nat} (hi:i < nb u) {b:Zf9.D} (hb:u.2.2.2.1[i]=b) (hbl:List.length b.2.2.2.1≤20000000000000) :
  ∃ v m1,Zal Tryd.prog TT S 50 [.pointer (some ⟨cb,0,none⟩),.int .i64 (i:Int)] m=some (v,m1)∧v=.bool (Znz u b)∧Zag m m1 []:=by
 obtain⟨bb,vo',no',po',hbo,ldb,hvo',hno',hpo'⟩:=Zh0 hU hi
 rw [hb] at ldb hno'
 have l3:=hC.load1 (off:=3) rfl
 rw [hbo] at l3
 have s1:(i:Int) < nb u:=by omega
 have s2:(i:Int)≤9223372036854775807:=by omega
 obtain⟨oZ,kZ,nZ⟩:=Zay (m:=m) (cs:=[.slice none 0 0,.int .i64 0,.int .i64 0,.slice none 0 0,.slice none 0 0,.int .i64 0]) (e:=40) rfl
 obtain⟨bx,hbx⟩:∃ bx,m.next=bx:=⟨_,rfl⟩
 obtain⟨m3,e3,oX,kX⟩:=Zap (r:=_) rfl oZ (off:=0) (vs:=Z1n b vo' no' po') (by simp) (by simp [Zau,Zai])
 simp [Zb5] at oX
 have k3:=kZ.fresh kX (by simp)
 rw [hbx] at oX nZ e3
 obtain⟨nl,hnl⟩:∃ nl:List Int,b.2.2.2.1=nl:=⟨_,rfl⟩
 have x3:=oX.load1 (off:=3) rfl
 rw [hnl] at x3 hbl hno'
 have hC3:=(hC.keep k3 (by simp)).load1 (off:=3) rfl
 have br:=fun k n=>Zg6 (m:=m3) hB k n
 refine Zfz 35 [35,41,54] k50 hS rfl ?_
 simp [-Int.natCast_add,Za Zbt,Za Zbl,Zaa Zgb,Zab u31 Zje,Zao Z48,Zas Z4m,Zad Zje,Za Zhu,Zaa Zb3,Zac u36,l3,s2,hi,ldb,hbx,e3,x3]
 have hn3:=hno'.keep k3 (by simp)
 have eF:Znz u b=(nl.all (fun k=>Zcf k (nb u)) && (if b.2.1=1 then decide (nl.length=1) else if b.2.1=2 then decide (nl.length=2) && Zcm u [(show Int from b.2.2.1)] else if b.2.1=3 then decide (nl.length=0) && Zcf (show Int from b.2.2.2.2.2.1) (ns u) else false)):=by unfold Znz;rw [hnl]
 refine Zaq 35 [35,41,54] (fun d E mF=>∃ (j:Nat),nl.length - j=d∧j≤nl.length∧mF=m3∧(nl.drop j).all (fun k=>Zcf k (nb u))=nl.all (fun k=>Zcf k (nb u))∧
  E=[(0,.pointer (some ⟨cb,0,none⟩)),(5,.pointer (some ⟨bx,0,none⟩)),(17,.slice no' nl.length nl.length),(18,.int .i64 nl.length),(19,.int .i64 (j:Int))]) _ ⟨_,⟨0,rfl,by omega,rfl,by rw [List.drop_zero],rfl⟩,⟨by rfl,by rfl,by rfl,by rfl,by rfl,trivial⟩⟩ ?_
 rintro d E mF ih ⟨j,hd,hj,rfl,ha,rfl⟩
 have jm:(j:Int)≤9223372036854775807:=by omega
 by_cases hlt:j < nl.length
 ·have j1:(j:Int) < nl.length:=by omega
  have wj:IntKind.i64.wrap ((j:Int)+1)=((j+1:Nat):Int):=by rw [Zaf (by omega) (by omega)];omega
  obtain⟨lb,hlb,li⟩:=hn3.get hlt
  rw [hlb] at ih ⊢
  obtain⟨k,hk⟩:∃ k,nl.getD j 0=k:=⟨_,rfl⟩
  rw [hk] at li
  have hdrop:nl.drop j=k::nl.drop (j+1):=by
   rw [List.drop_eq_getElem_cons hlt,← hk,List.getD_eq_getElem?_getD,List.getElem?_eq_getElem hlt];rfl
  rw [hdrop,List.all_cons] at ha
  cases hbk:Zcf k (nb u)
  ·rw [hbk] at ha
   have:Znz u b=false:=by rw [eF,← ha];rfl
   rw [this]
   simp [-Int.natCast_add,Za Zbt,Za Zbl,Zaa Zgb,Zab u36 sz3,Zaa ld3,Zac u31,j1,jm,hlt,li,hC3,br,hbk]
   exact k3
  ·rw [hbk] at ha
   simp [-Int.natCast_add,Za Zbt,Za Zbl,Zaa Zgb,Zab u36 sz3,Zaa ld3,Zac u31,j1,jm,hlt,li,hC3,br,hbk,wj]
   exact ih _ _ _ _ ⟨j+1,rfl,by omega,rfl,by rw [← ha];rfl,rfl⟩ (by omega) ⟨by rfl,by rfl,by rfl,by rfl,by rfl,trivial⟩
 clear ih
 have j1:¬ (j:Int) < nl.length:=by omega
 rw [List.drop_of_length_le (by omega),List.all_nil] at ha
 rw [← ha,Bool.true_and] at eF
 have x1:=oX.load1 (off:=1) rfl
 have x2:=oX.load1 (off:=2) rfl
 have x5:=oX.load1 (off:=5) rfl
 obtain⟨en,hen⟩:∃ en:Int,b.2.1=en:=⟨_,rfl⟩
 obtain⟨cd,hcd⟩:∃ cd:Int,b.2.2.1=cd:=⟨_,rfl⟩
 obtain⟨st,hst⟩:∃ st:Int,b.2.2.2.2.2.1=st:=⟨_,rfl⟩
 rw [hen] at x1 eF
 rw [hcd] at x2
 rw [hst] at x5
 rw [show (show Int from b.2.2.1)=cd from hcd,show (show Int from b.2.2.2.2.2.1)=st from hst] at eF
 have hC4:=(hC.keep k3 (by simp)).load1 (off:=4) rfl
 rw [eF]
 by_cases e1:en=1
 ·simp [-Int.natCast_add,Za Zhu,Zaa Zb3,Zac u36,Zaa ld3,Za Zhx,j1,x1,e1,x3]
  exact⟨by first | omega | (constructor <;> intro h <;> omega) | rfl,k3⟩
 by_cases e2:en=2
 ·simp [-Int.natCast_add,-w50_12,Zaa ld3,Za Zhx,j1,x1,e2]
  by_cases q:nl.length=2
  ·have q':(nl.length:Int)=2:=by omega
   obtain⟨oN,kN,nN⟩:=Zay (m:=mF) (cs:=[.int .i64 cd]) (e:=3) rfl
   have hCN:=((hC.keep k3 (by simp)).keep kN (by simp)).load1 (off:=2) rfl
   have ta:=Zki (l:=[cd]) (Q2:=fun _=>True) hT hB ((hU.keep k3 (by simp)).keep kN (by simp)) hnu hCN (by simp) ⟨_,⟨by simp,Or.inr ⟨_,rfl,oN.rdo⟩⟩,fun _=>trivial⟩
   simp only [List.length_cons,List.length_nil,Nat.zero_add] at ta
   simp [-Int.natCast_add,Za Zhu,Zaa Zb3,Zac u36,Zaa ld3,Za Zr1,Zae u36 bs3 rfl,x3,x2,q,ta]
   exact k3.trans kN
  ·have q':¬ (nl.length:Int)=2:=by omega
   simp [-Int.natCast_add,Za Zhu,Zaa Zb3,Zac u36,Zaa ld3,Za Zr1,Zae u36 bs3 rfl,x3,q,q']
   exact k3
 by_cases e4:en=3
 ·simp [-Int.natCast_add,-w50_14,Zaa ld3,Za Zhx,j1,x1,e4]
  by_cases q:nl.length=0
  ·have q2:nl=[]:=List.length_eq_zero_iff.1 q
   rw [q2] at x3
   simp [-Int.natCast_add,Za Zbt,Za Zhu,Zaa Zb3,Zac u36,Zaa ld3,Za Zu4,Za Zdb,Zaa Zmv,Zac u32,x3,x5,hC4,br]
   exact⟨fun _=>q2,k3⟩
  ·have q2:¬ nl=[]:=fun e=>q (by rw [e];rfl)
   simp [-Int.natCast_add,Za Zbt,Za Zhu,Zaa Zb3,Zac u36,Zaa ld3,Za Zu4,Za Zdb,Zaa Zmv,Zac u32,x3,q,q2]
   exact k3
 simp [-Int.natCast_add,Zaa ld3,Za Zhx,j1,x1,e1,e2,e4]
 exact k3
end Go.Proofs.YtlogdohlcdhepaaDoor.base
end
