/- This text proves what eval's 'left' answers, Zbx the abstract run: the row of Z9a that a frame's places have, and the frames. Condition: nothing is known of the calls ahead ('S f = []'). -/
import Derived.Test.YtcgmchechmbmeaaDoorM1
set_option linter.unusedVariables false
set_option linter.unusedSimpArgs false
section
set_option maxRecDepth 100000
namespace Go.Proofs.YtcgmchechmbmeaaDoor.base
open Go.Sh gen
variable {S:Zb4}{m:Mem}
end Go.Proofs.YtcgmchechmbmeaaDoor.base
end
section
set_option maxRecDepth 100000
namespace Go.Proofs.YtcgmchechmbmeaaDoor.base
open Go.Sh gen
variable {S:Zb4}{m:Mem}
abbrev ns (u:UnT.D):Nat:=u.2.2.2.2.1.length
theorem Zfi {Q:Nat→Prop}{e:TypeId}{t:Ty}{l:List t.D}{ao:Option Addr}(h:AtI Q m (Ty.slice e t) l [.slice ao l.length l.length]){i:Nat}(hi:i < l.length)(hs:Zi5 t=true:=by rfl) :
  ∃ (vb:Nat) (c:List Value),ao=some ⟨vb,0,none⟩∧AtI Q m t l[i] c∧∀ (m':Mem) (fs:List Nat),Zaa m m' fs→(∀ f∈fs,¬ Q f)→loadRow m' ⟨vb,i * t.size,none⟩ t.size=some c:=by
 obtain⟨css,fam,hcl,hce,hr,hq⟩:=Zp0 h hs
 obtain⟨vb,rfl,o⟩:=hr.rdo (by omega)
 have hci:i < css.length:=by omega
 have hat:=hce i l[i] css[i] (List.getElem?_eq_getElem hi) (List.getElem?_eq_getElem hci)
 have hlen:∀ x∈css,x.length=t.size:=by
  intro x hx
  obtain⟨j,hj⟩:=List.getElem?_of_mem hx
  have hjl:j < l.length:=by have:=(List.getElem?_eq_some_iff.1 hj).1;omega
  exact (hce j l[j] x (List.getElem?_eq_getElem hjl) hj).len
 have hwin:=Zpz hlen hci
 have hfl:css.flatten.length=css.length * t.size:=Zj9 hlen
 have hb:i * t.size+t.size≤css.flatten.length:=by
  rw [hfl,← Nat.succ_mul]
  exact Nat.mul_le_mul_right _ hci
 refine⟨vb,css[i],rfl,hat,fun m' fs k hf=>?_⟩
 rw [(o.keep k (fun hm=>hf fam hm (hq (by omega)))).load t.size hb,hwin]
theorem Zlw {Q:Nat→Prop}{u:UnT.D}{vo bo so:Option Addr}(h:UAt Q m u vo bo so){i:Nat}(hi:i < ns u) :
  ∃ (b:Nat) (fo:Option Addr),so=some ⟨b,0,none⟩∧(∀ (m':Mem) (fs:List Nat),Zaa m m' fs→(∀ f∈fs,¬ Q f)→loadRow m' ⟨b,i,none⟩ 1=some [.slice fo (u.2.2.2.2.1[i]).1.length (u.2.2.2.2.1[i]).1.length])∧AtI Q m (Ty.slice 52 (Ty.pair (Ty.int .i64) (Ty.pair (Ty.int .i64) (Ty.pair (Ty.slice 3 (Ty.int .i64)) (Ty.pair (Ty.slice 3 (Ty.int .i64)) Ty.unit))))) (u.2.2.2.2.1[i]).1 [.slice fo (u.2.2.2.2.1[i]).1.length (u.2.2.2.2.1[i]).1.length]:=by
 obtain⟨vb,c,e,hc,hl⟩:=Zfi h.s hi
 obtain⟨_,_,e1,h1,h2⟩:=hc
 simp only [AtI] at h2
 subst h2
 have h1':=h1
 obtain⟨ao,css,fm,rfl,_⟩:=h1
 refine⟨vb,ao,e,fun m' fs k hf=>?_,h1'⟩
 have hl':=hl m' fs k hf
 rw [e1] at hl'
 rw [show (Ty.pair (Ty.slice 52 Zeg) Ty.unit).size=1 from rfl] at hl'
 simpa using hl'
abbrev frC (f:Zeg.D)(lo so:Option Addr):List Value:=[.int .i64 f.1,.int .i64 f.2.1,.slice lo f.2.2.1.length f.2.2.1.length,.slice so f.2.2.2.1.length f.2.2.2.1.length]
theorem Zou {Q:Nat→Prop}{fs:List Zeg.D}{fo:Option Addr}(h:AtI Q m (Ty.slice 52 (Ty.pair (Ty.int .i64) (Ty.pair (Ty.int .i64) (Ty.pair (Ty.slice 3 (Ty.int .i64)) (Ty.pair (Ty.slice 3 (Ty.int .i64)) Ty.unit))))) fs [.slice fo fs.length fs.length]){i:Nat}(hi:i < fs.length) :
  ∃ (b:Nat) (lo so:Option Addr),fo=some ⟨b,0,none⟩∧loadRow m ⟨b,i * 4,none⟩ 4=some (frC fs[i] lo so)∧Zah Q m lo (fs[i]).2.2.1∧Zah Q m so (fs[i]).2.2.2.1:=by
 obtain⟨vb,c,fam,e,hc,hl,hq,_⟩:=Zkv h hi
 obtain⟨_,_,e1,rfl,_,_,e2,rfl,_,_,e3,h3,_,_,e4,h4,h5⟩:=hc
 simp only [AtI] at h5
 subst h5
 obtain⟨ao3,f3,rfl,hr3,hqf3⟩:=Zdv h3
 obtain⟨ao4,f4,rfl,hr4,hqf4⟩:=Zdv h4
 refine⟨vb,ao3,ao4,e,?_,⟨f3,hr3,hqf3⟩,⟨f4,hr4,hqf4⟩⟩
 rw [e1,e2,e3,e4] at hl
 exact hl
end Go.Proofs.YtcgmchechmbmeaaDoor.base
end
section
set_option maxRecDepth 100000
namespace Go.Proofs.YtcgmchechmbmeaaDoor.base
open Go.Sh gen
variable {S:Zb4}{m:Mem}
def Zas (k n:Int):Bool:=decide (0≤k) && decide (k < n)
theorem Zgm (hS:S 54=[])(k n:Int):Zaq Tryd.prog TT S 54 [.int .i64 k,.int .i64 n] m=some (.bool (Zas k n),m):=by
 refine Zlm 5 [] k54 hS rfl ?_
 unfold Zas
 by_cases h:0≤k
 ·simp [h]
 ·simp [h]
def noW (op:Int):Bool:=decide (op=19) || decide (op=20) || decide (op=22) || decide (op=23)
def Zcb (u:UnT.D)(l:List Int):Bool:=l.all fun k=>Zas k (nv u) && !noW (Za3 u k).1
set_option maxHeartbeats 4000000 in
theorem Zkd (hS:S 53=[])(hB:S 54=[]){Q Q2:Nat→Prop}{u:UnT.D}{vo bo so:Option Addr}(hU:UAt Q m u vo bo so)(hnu:nv u≤1000000){cb:Nat}(h2:loadRow m ⟨cb,2,none⟩ 1=some [.slice vo (nv u) (nv u)])
  {l:List Int} (hl:l.length≤20000000000000) {ao:Option Addr} (hi:Zah Q2 m ao l) :
  Zaq Tryd.prog TT S 53 [.pointer (some ⟨cb,0,none⟩),.slice ao l.length l.length] m=some (.bool (Zcb u l),m):=by
 have br:=fun k n=>Zgm (m:=m) hB k n
 refine Zlm 31 [31,31,31,31] k53 hS rfl ?_
 simp [-Int.natCast_add]
 refine Zag 31 [31,31,31,31] (fun d E mF=>∃ (i:Nat),l.length - i=d∧i≤l.length∧mF=m∧Zcb u (l.drop i)=Zcb u l∧
  E=[(0,.pointer (some ⟨cb,0,none⟩)),(7,.slice ao l.length l.length),(8,.int .i64 l.length),(9,.int .i64 (i:Int))]) _ ⟨_,⟨0,rfl,by omega,rfl,by rw [List.drop_zero],rfl⟩,(by repeat' constructor)⟩ ?_
 rintro d E mF ih ⟨i,hd,hi',rfl,ht,rfl⟩
 have im:(i:Int)≤9223372036854775807:=by omega
 by_cases hlt:i < l.length
 ·have i1:(i:Int) < l.length:=by omega
  have wi:IntKind.i64.wrap ((i:Int)+1)=((i+1:Nat):Int):=by rw [Zab (by omega) (by omega)];omega
  obtain⟨lb,hlb,li⟩:=hi.get hlt
  rw [hlb] at ih ⊢
  obtain⟨k,hk⟩:∃ k,l.getD i 0=k:=⟨_,rfl⟩
  rw [hk] at li
  have hdrop:l.drop i=k::l.drop (i+1):=by
   rw [List.drop_eq_getElem_cons hlt,← hk,List.getD_eq_getElem?_getD,List.getElem?_eq_getElem hlt];rfl
  rw [hdrop] at ht
  have ht':(Zas k (nv u) && !noW (Za3 u k).1 && Zcb u (l.drop (i+1)))=Zcb u l:=ht
  by_cases hb:Zas k (nv u)=true
  ·have hb2:=hb
   unfold Zas at hb2
   simp only [Bool.and_eq_true,decide_eq_true_eq] at hb2
   obtain⟨n,rfl⟩:∃ n:Nat,k=(n:Int):=⟨k.toNat,by omega⟩
   have hn:n < nv u:=by omega
   have hn1:(n:Int) < nv u:=by omega
   have hn2:(n:Int)≤9223372036854775807:=by omega
   obtain⟨xb,ao',fa,hxv,ldx,_,_⟩:=Ziy hU hn
   rw [hxv] at h2
   have lop:=Zbo (k:=0) ldx rfl
   rw [Nat.add_zero] at lop
   rw [Zc6 hn,hb] at ht'
   obtain⟨o,ho⟩:∃ o:Int,(u.2.2.1[n]).1=o:=⟨_,rfl⟩
   rw [ho] at lop
   rw [show (u.2.2.1[n]).1=o from ho] at ht'
   by_cases c19:o=19
   ·have:Zcb u l=false:=by rw [← ht'];simp [noW,c19]
    simp [-Int.natCast_add,-List.getD_eq_getElem?_getD,i1,im,hlt,li,h2,br,hb,hn,hn2,lop,c19,this]
   by_cases c20:o=20
   ·have:Zcb u l=false:=by rw [← ht'];simp [noW,c20]
    simp [-Int.natCast_add,-List.getD_eq_getElem?_getD,i1,im,hlt,li,h2,br,hb,hn,hn2,lop,c20,this]
   by_cases c22:o=22
   ·have:Zcb u l=false:=by rw [← ht'];simp [noW,c22]
    simp [-Int.natCast_add,-List.getD_eq_getElem?_getD,i1,im,hlt,li,h2,br,hb,hn,hn2,lop,c22,this]
   by_cases c23:o=23
   ·have:Zcb u l=false:=by rw [← ht'];simp [noW,c23]
    simp [-Int.natCast_add,-List.getD_eq_getElem?_getD,i1,im,hlt,li,h2,br,hb,hn,hn2,lop,c23,this]
   have hno:noW o=false:=by simp [noW,c19,c20,c22,c23]
   simp [-Int.natCast_add,-List.getD_eq_getElem?_getD,i1,im,hlt,li,h2,br,hb,hn,hn2,lop,c19,c20,c22,c23,wi]
   exact ih _ _ _ _ ⟨i+1,rfl,by omega,rfl,by rw [← ht',hno];rfl,rfl⟩ (by omega) (by repeat' constructor)
  ·have hb':Zas k (nv u)=false:=by simpa using hb
   have:Zcb u l=false:=by rw [← ht',hb'];rfl
   simp [-Int.natCast_add,-List.getD_eq_getElem?_getD,i1,im,hlt,li,h2,br,hb',this]
 have i1:¬ (i:Int) < l.length:=by omega
 rw [List.drop_of_length_le (by omega)] at ht
 have:Zcb u l=true:=by rw [← ht];rfl
 simp [-Int.natCast_add,i1,this]
end Go.Proofs.YtcgmchechmbmeaaDoor.base
end
section
set_option maxRecDepth 100000
namespace Go.Proofs.YtcgmchechmbmeaaDoor.base
open Go.Sh gen
variable {S:Zb4}{m:Mem}
def Z9y (P:Program)(e bt:Nat)(l:List Value):Bool:=match P.info? e with
 | some i=>match i.zero with
  | some z=>Zbs z.cells && (z.cells.size == i.size) && (i.bytes == bt) && eqL z.cells.toList l
  | none=>false
 | none=>false
theorem Zlv {P:Program}{e bt:Nat}{v:Value}(h:Z9y P e bt [v]=true)(k:Nat)(hk:k * bt≤281474976710656):Zdx P e k=some (List.replicate k v):=by
 unfold Z9y at h
 unfold Zdx
 cases hi:P.info? e with
 | none=>rw [hi] at h;cases h
 | some i =>
  rw [hi] at h
  dsimp only at h ⊢
  cases hz:i.zero with
  | none=>rw [hz] at h;cases h
  | some z =>
   rw [hz] at h
   dsimp only at h ⊢
   simp only [Bool.and_eq_true,beq_iff_eq] at h
   obtain⟨⟨⟨h1,h2⟩,h3⟩,h4⟩:=h
   rw [h1,h2,h3,Zm9 _ _ h4]
   simp [hk]
theorem Zl8 (k:Nat)(hk:k≤1000000):Zdx Tryd.prog 3 k=some (List.replicate k (Value.int .i64 0)):=Zlv (bt:=8) (by kernel_rfl) k (by omega)
theorem Zid (k:Nat)(hk:k≤1000000):Zdx Tryd.prog 4 k=some (List.replicate k (Value.bool false)):=Zlv (bt:=1) (by kernel_rfl) k (by omega)
abbrev Zda (u:UnT.D)(at_:Nat):Zct.D:=(show List Zct.D from u.2.2.2.1).getD at_ (([]:List Int),(0:Int),(0:Int),([]:List Int),([]:List Int),(0:Int),())
theorem Zb2 {u:UnT.D}{i:Nat}(h:i < nb u):Zda u i=u.2.2.2.1[i]:=by
 unfold Zda
 rw [List.getD_eq_getElem?_getD,List.getElem?_eq_getElem h];rfl
abbrev Za1 (u:UnT.D)(vo bo so:Option Addr):List Value:=[.int .i64 u.1,.int .i64 u.2.1,.slice vo (nv u) (nv u),.slice bo (nb u) (nb u),.slice so (ns u) (ns u)]
abbrev stD (u:UnT.D)(st:Nat):List Zeg.D:=(show List StT.D from u.2.2.2.2.1).getD st (([]:List Zeg.D),()) |>.1
theorem Ziz {u:UnT.D}{i:Nat}(h:i < ns u):stD u i=(u.2.2.2.2.1[i]).1:=by
 unfold stD
 rw [List.getD_eq_getElem?_getD,List.getElem?_eq_getElem h];rfl
abbrev ints (l:List Int):List Value:=l.map (Value.int .i64)
abbrev Zc8 (l:List Bool):List Value:=l.map Value.bool
theorem Zqg (n:Nat):List.replicate n (Value.int .i64 0)=ints (List.replicate n 0):=by simp
theorem Zv8 (n:Nat):List.replicate n (Value.bool false)=Zc8 (List.replicate n false):=by simp
theorem Zgg {l:List Int}{i:Nat}(v:Int)(h:i < l.length):Zbx (ints l) i [.int .i64 v]=ints (l.set i v):=by
 simp [Zbx,List.set_eq_take_append_cons_drop,h,List.map_take,List.map_drop]
theorem Zog {l:List Bool}{i:Nat}(v:Bool)(h:i < l.length):Zbx (Zc8 l) i [.bool v]=Zc8 (l.set i v):=by
 simp [Zbx,List.set_eq_take_append_cons_drop,h,List.map_take,List.map_drop]
theorem Zhf {l:List Bool}{i:Nat}(h:i < l.length):(Zc8 l)[i]?=some (.bool (l.getD i false)):=by
 rw [List.getElem?_map,List.getElem?_eq_getElem h,List.getD_eq_getElem?_getD,List.getElem?_eq_getElem h];rfl
theorem Zcs {m m1 m2:Mem}{fs gs:List Nat}(h:Zaa m m1 fs)(k:Zaa m1 m2 gs)(hg:∀ g:Nat,g < m.next→g∈gs→g∈fs):Zaa m m2 fs:=
 ⟨Nat.le_trans h.1 k.1,fun l bl hl hb hq hf=>k.2.1 l bl (Nat.lt_of_lt_of_le hl h.1) (h.2.1 l bl hl hb hq hf) (Nat.lt_of_lt_of_le hq h.1) (fun hx=>hf (hg _ hq hx)),fun f hl hf=>by rw [k.2.2.1 f (Nat.lt_of_lt_of_le hl h.1) (fun hx=>hf (hg _ hl hx)),h.2.2.1 f hl hf],fun f hl hf=>by rw [k.2.2.2 f (Nat.lt_of_lt_of_le hl h.1) (fun hx=>hf (hg _ hl hx)),h.2.2.2 f hl hf]⟩
theorem Zua (n i:Nat)(a b:Int)(h:i < n):(List.replicate i b++List.replicate (n - i) a).set i b=List.replicate (i+1) b++List.replicate (n - (i+1)) a:=by
 rw [List.set_append_right _ _ (by simp)]
 simp only [List.length_replicate,Nat.sub_self]
 obtain⟨k,hk⟩:∃ k,n - i=k+1:=⟨n - i - 1,by omega⟩
 rw [hk,List.replicate_succ,List.set_cons_zero,List.replicate_succ',show n - (i+1)=k by omega]
 simp
theorem Zfz {b f:Nat}{l:List Int}(h:Own m b (ints l) 3 f){i:Nat}(hi:i < l.length)(v:Int) :
  ∃ m1,Zad m ⟨b,i,none⟩ [.int .i64 v]=some m1∧Own m1 b (ints (l.set i v)) 3 f∧Zaa m m1 [f]:=by
 obtain⟨m1,e1,o1,k1⟩:=Zap (r:=_) rfl h (off:=i) (vs:=[.int .i64 v]) (by simp;omega) (by simp [Zau])
 rw [Zgg v hi] at o1
 exact⟨m1,e1,o1,k1⟩
theorem Zi {b f:Nat}{l:List Bool}(h:Own m b (Zc8 l) 4 f){i:Nat}(hi:i < l.length)(v:Bool) :
  ∃ m1,Zad m ⟨b,i,none⟩ [.bool v]=some m1∧Own m1 b (Zc8 (l.set i v)) 4 f∧Zaa m m1 [f]:=by
 obtain⟨m1,e1,o1,k1⟩:=Zap (r:=_) rfl h (off:=i) (vs:=[.bool v]) (by simp;omega) (by simp)
 rw [Zog v hi] at o1
 exact⟨m1,e1,o1,k1⟩
end Go.Proofs.YtcgmchechmbmeaaDoor.base
end
section
set_option maxRecDepth 100000
namespace Go.Proofs.YtcgmchechmbmeaaDoor.base
open Go.Sh gen
variable {S:Zb4}{m:Mem}
abbrev ckC (u:UnT.D)(vo bo so:Option Addr)(r1 r2 r3:Value):List Value:=[.int .i64 u.1,.int .i64 u.2.1,.slice vo (nv u) (nv u),.slice bo (nb u) (nb u),.slice so (ns u) (ns u),r1,r2,r3]
def Zh5 (u:UnT.D)(f:Zeg.D):Bool:=!decide (40 < List.length f.2.2.1) && !decide (60 < List.length f.2.2.2.1) && Zcb u f.2.2.1 && Zcb u f.2.2.2.1
def Zee (u:UnT.D)(fs:List Zeg.D):Bool:=!decide (fs.length=0) && !decide (30 < fs.length) && fs.all (Zh5 u)
set_option maxHeartbeats 4000000 in
theorem Zy9 (hS:S 34=[])(hT:S 53=[])(hB:S 54=[]){Q:Nat→Prop}{u:UnT.D}{vo bo so:Option Addr}(hU:UAt Q m u vo bo so)(hnu:nv u≤1000000){cb cf:Nat}{r1 r2 r3:Value}(hC:Own m cb (ckC u vo bo so r1 r2 r3) 70 cf)
  {i:Nat} (hi:i < ns u) (hns:ns u≤1000000) {fs:List Zeg.D} (hfs:(u.2.2.2.2.1[i]).1=fs) (hfl:fs.length≤20000000000000) (hfi:∀ f∈fs,List.length f.2.2.1≤20000000000000∧List.length f.2.2.2.1≤20000000000000) :
  ∃ v m1,Zaq Tryd.prog TT S 34 [.pointer (some ⟨cb,0,none⟩),.int .i64 (i:Int)] m=some (v,m1)∧v=.bool (Zee u fs)∧Zaa m m1 []:=by
 obtain⟨sb,fo,hso,lds,hfo⟩:=Zlw hU hi
 rw [hfs] at lds hfo
 have l4:=hC.load1 (off:=4) rfl
 rw [hso] at l4
 have s1:(i:Int) < ns u:=by omega
 have s2:(i:Int)≤9223372036854775807:=by omega
 have ld0:=lds m [] (Zaa.refl _ _) (by simp)
 obtain⟨oZ,kZ,nZ⟩:=Zar (m:=m) (cs:=[.slice none 0 0]) (e:=41) rfl
 obtain⟨bx,hbx⟩:∃ bx,m.next=bx:=⟨_,rfl⟩
 obtain⟨m3,e3,oX,kX⟩:=Zap (r:=_) rfl oZ (off:=0) (vs:=[.slice fo fs.length fs.length]) (by simp) (by simp [Zae])
 simp [Zbx] at oX
 have k3:=kZ.fresh kX (by simp)
 rw [hbx] at oX nZ e3
 have x0:=oX.load1 (off:=0) rfl
 refine Zhk 30 [30,56] k34 hS rfl ?_
 simp [-Int.natCast_add,-w34_2,l4,s2,hi,ld0,hbx,e3]
 by_cases z0:fs.length=0
 ·have z1:fs=[]:=List.length_eq_zero_iff.1 z0
  have:Zee u fs=false:=by rw [z1];rfl
  rw [this]
  simp [-Int.natCast_add,x0,z1]
  exact k3
 have z1:¬ fs=[]:=fun e=>z0 (by rw [e];rfl)
 by_cases z2:30 < fs.length
 ·have z3:(30:Int) < fs.length:=by omega
  have:Zee u fs=false:=by simp [Zee,z2]
  rw [this]
  simp [-Int.natCast_add,x0,z0,z3]
  exact k3
 have z3:¬ (30:Int) < fs.length:=by omega
 simp [-Int.natCast_add,x0,z0,z3]
 have hfo3:=hfo.keep k3 (by simp)
 refine Zag 30 [30,56] (fun d E mF=>∃ (j:Nat),fs.length - j=d∧j≤fs.length∧(fs.drop j).all (Zh5 u)=fs.all (Zh5 u)∧Zaa m3 mF []∧
  E=[(0,.pointer (some ⟨cb,0,none⟩)),(27,.slice fo fs.length fs.length),(28,.int .i64 fs.length),(29,.int .i64 (j:Int))]) _ ⟨_,⟨0,rfl,by omega,by rw [List.drop_zero],.refl _ _,rfl⟩,(by repeat' constructor)⟩ ?_
 rintro d E mF ih ⟨j,hd,hj,ha,kF,rfl⟩
 have jm:(j:Int)≤9223372036854775807:=by omega
 have eS:Zee u fs=fs.all (Zh5 u):=by simp [Zee,z1,z2]
 by_cases hlt:j < fs.length
 ·have j1:(j:Int) < fs.length:=by omega
  have wj:IntKind.i64.wrap ((j:Int)+1)=((j+1:Nat):Int):=by rw [Zab (by omega) (by omega)];omega
  obtain⟨fb,la,sa,hfb,ldf,hla,hsa⟩:=Zou (hfo3.keep kF (by simp)) hlt
  have hmm:=hfi _ (List.getElem_mem hlt)
  rw [List.drop_eq_getElem_cons hlt,List.all_cons] at ha
  rw [hfb] at ih ⊢
  generalize fs[j]=F at *
  obtain⟨oY,kY,nY⟩:=Zar (m:=mF) (cs:=[.int .i64 0,.int .i64 0,.slice none 0 0,.slice none 0 0]) (e:=52) rfl
  obtain⟨zb,hzb⟩:∃ zb,mF.next=zb:=⟨_,rfl⟩
  obtain⟨mG,eG,oG,kG'⟩:=Zap (r:=_) rfl oY (off:=0) (vs:=frC F la sa) (by simp) (by simp [Zau,Zae])
  simp [Zbx] at oG
  have kG:=kY.fresh kG' (by simp)
  rw [hzb] at oG nY eG
  have K3:Zaa m mG []:=(k3.trans kF).trans kG
  have g2:=oG.load1 (off:=2) rfl
  have g3:=oG.load1 (off:=3) rfl
  have hCG:=(hC.keep K3 (by simp)).load1 (off:=2) rfl
  have t1:=Zkd hT hB (hU.keep K3 (by simp)) hnu hCG hmm.1 (hla.keep kG (by simp))
  have t2:=Zkd hT hB (hU.keep K3 (by simp)) hnu hCG hmm.2 (hsa.keep kG (by simp))
  obtain⟨n1,hn1⟩:∃ n1:Nat,List.length F.2.2.1=n1:=⟨_,rfl⟩
  obtain⟨n2,hn2⟩:∃ n2:Nat,List.length F.2.2.2.1=n2:=⟨_,rfl⟩
  obtain⟨b1,hb1⟩:∃ b1,Zcb u F.2.2.1=b1:=⟨_,rfl⟩
  obtain⟨b2,hb2⟩:∃ b2,Zcb u F.2.2.2.1=b2:=⟨_,rfl⟩
  have eF:Zh5 u F=(!decide (40 < n1) && !decide (60 < n2) && b1 && b2):=by unfold Zh5;rw [hn1,hn2,hb1,hb2]
  rw [hb1] at t1
  rw [hb2] at t2
  rw [eF] at ha
  unfold frC at eG g2 g3 ldf
  rw [hn1] at t1 g2
  rw [hn2] at t2 g3
  rw [hn1,hn2] at ldf eG
  by_cases q1:40 < n1
  ·have q1':(40:Int) < n1:=by omega
   have:Zee u fs=false:=by rw [eS,← ha];simp [q1]
   rw [this]
   simp [-Int.natCast_add,j1,jm,hlt,ldf,hzb,eG,g2,q1']
   exact K3
  have q1':¬ (40:Int) < n1:=by omega
  by_cases q2:60 < n2
  ·have q2':(60:Int) < n2:=by omega
   have:Zee u fs=false:=by rw [eS,← ha];simp [q2]
   rw [this]
   simp [-Int.natCast_add,j1,jm,hlt,ldf,hzb,eG,g2,g3,q1',q2']
   exact K3
  have q2':¬ (60:Int) < n2:=by omega
  cases b1
  ·have:Zee u fs=false:=by rw [eS,← ha];simp
   rw [this]
   simp [-Int.natCast_add,j1,jm,hlt,ldf,hzb,eG,g2,g3,q1',q2',t1]
   exact K3
  cases b2
  ·have:Zee u fs=false:=by rw [eS,← ha];simp
   rw [this]
   simp [-Int.natCast_add,j1,jm,hlt,ldf,hzb,eG,g2,g3,q1',q2',t1,t2]
   exact K3
  simp [-Int.natCast_add,j1,jm,hlt,ldf,hzb,eG,g2,g3,q1',q2',t1,t2,wj]
  exact ih _ _ _ _ ⟨j+1,rfl,by omega,by rw [← ha];simp [q1,q2],kF.trans kG,rfl⟩ (by omega) (by repeat' constructor)
 have j1:¬ (j:Int) < fs.length:=by omega
 rw [List.drop_of_length_le (by omega)] at ha
 have:Zee u fs=true:=by rw [eS,← ha];rfl
 rw [this]
 simp [-Int.natCast_add,j1]
 exact k3.trans kF
end Go.Proofs.YtcgmchechmbmeaaDoor.base
end
section
set_option maxRecDepth 100000
namespace Go.Proofs.YtcgmchechmbmeaaDoor.base
open Go.Sh gen
variable {S:Zb4}{m:Mem}
def Zdo (p:Nat→Bool)(i:Nat):Nat→Bool
 | 0=>true
 | d+1=>p i && Zdo p (i+1) d
set_option maxHeartbeats 4000000 in
theorem Zm (hS:S 33=[]){g cb:Nat}{n:Nat}(hn:n≤1000000)(p:Nat→Bool)
  (h:∀ (i:Nat) (mF:Mem),i < n→Zaa m mF []→∃ mG,Zaq Tryd.prog TT S g [.pointer (some ⟨cb,0,none⟩),.int .i64 (i:Int)] mF=some (.bool (p i),mG)∧Zaa mF mG []) :
  ∃ v m1,Zaq Tryd.prog TT S 33 [.pointer (some ⟨cb,0,none⟩),.int .i64 (n:Int),.func (.func g) #[.pointer (some ⟨cb,0,none⟩)] #[]] m=some (v,m1)∧v=.bool (Zdo p 0 n)∧Zaa m m1 []:=by
 refine Zhk 8 [10,16] k33 hS rfl ?_
 simp [-Int.natCast_add]
 refine Zag 8 [10,16] (fun d E mF=>∃ (i:Nat),n - i=d∧i≤n∧Zdo p i (n - i)=Zdo p 0 n∧Zaa m mF []∧
  E=[(1,.int .i64 (n:Int)),(2,.func (.func g) #[.pointer (some ⟨cb,0,none⟩)] #[]),(7,.int .i64 (i:Int))]) _ ⟨_,⟨0,rfl,by omega,rfl,.refl _ _,rfl⟩,⟨by rfl,by rfl,by rfl,trivial⟩⟩ ?_
 rintro d E mF ih ⟨i,hd,hi,ha,kF,rfl⟩
 have im:(i:Int)≤9223372036854775807:=by omega
 by_cases hlt:i < n
 ·have i1:(i:Int) < n:=by omega
  have wi:IntKind.i64.wrap ((i:Int)+1)=((i+1:Nat):Int):=by rw [Zab (by omega) (by omega)];omega
  obtain⟨mG,c,kG⟩:=h i mF hlt kF
  obtain⟨e,he⟩:∃ e,n - i=e+1:=⟨n - i - 1,by omega⟩
  have he2:n - (i+1)=e:=by omega
  rw [he,Zdo] at ha
  cases hp:p i
  ·rw [hp] at ha c
   have:Zdo p 0 n=false:=by rw [← ha];rfl
   rw [this]
   simp [-Int.natCast_add,i1,c]
   exact kF.trans kG
  ·rw [hp] at ha c
   simp [-Int.natCast_add,i1,c,wi]
   exact ih _ _ _ _ ⟨i+1,rfl,by omega,by rw [he2,← ha];rfl,kF.trans kG,rfl⟩ (by omega) ⟨by rfl,by rfl,by rfl,trivial⟩
 have i1:¬ (i:Int) < n:=by omega
 rw [show n - i=0 by omega] at ha
 have:Zdo p 0 n=true:=by rw [← ha];rfl
 rw [this]
 simp [-Int.natCast_add,i1]
 exact kF
end Go.Proofs.YtcgmchechmbmeaaDoor.base
end
section
set_option maxRecDepth 100000
namespace Go.Proofs.YtcgmchechmbmeaaDoor.base
open Go.Sh gen
variable {S:Zb4}{m:Mem}
def Zhn (u:UnT.D)(b:Zct.D):Bool:=(show List Int from b.2.2.2.1).all (fun k=>Zas k (nb u)) &&
 (if b.2.1=1 then decide (List.length b.2.2.2.1=1) else if b.2.1=2 then decide (List.length b.2.2.2.1=2) && Zcb u [(show Int from b.2.2.1)] else
  if b.2.1=3 then decide (List.length b.2.2.2.1=0) && Zas (show Int from b.2.2.2.2.2.1) (ns u) else false)
set_option maxHeartbeats 8000000 in
theorem Z0u (hS:S 37=[])(hT:S 53=[])(hB:S 54=[]){Q:Nat→Prop}{u:UnT.D}{vo bo so:Option Addr}(hU:UAt Q m u vo bo so)(hnu:nv u≤1000000)(hnb:nb u≤1000000){cb cf:Nat}{r1 r2 r3:Value}(hC:Own m cb (ckC u vo bo so r1 r2 r3) 70 cf)
  {i:Nat} (hi:i < nb u) {b:Zct.D} (hb:u.2.2.2.1[i]=b) (hbl:List.length b.2.2.2.1≤20000000000000) :
  ∃ v m1,Zaq Tryd.prog TT S 37 [.pointer (some ⟨cb,0,none⟩),.int .i64 (i:Int)] m=some (v,m1)∧v=.bool (Zhn u b)∧Zaa m m1 []:=by
 obtain⟨bb,vo',no',po',hbo,ldb,hvo',hno',hpo'⟩:=Zf0 hU hi
 rw [hb] at ldb hno'
 have l3:=hC.load1 (off:=3) rfl
 rw [hbo] at l3
 have s1:(i:Int) < nb u:=by omega
 have s2:(i:Int)≤9223372036854775807:=by omega
 obtain⟨oZ,kZ,nZ⟩:=Zar (m:=m) (cs:=[.slice none 0 0,.int .i64 0,.int .i64 0,.slice none 0 0,.slice none 0 0,.int .i64 0]) (e:=36) rfl
 obtain⟨bx,hbx⟩:∃ bx,m.next=bx:=⟨_,rfl⟩
 obtain⟨m3,e3,oX,kX⟩:=Zap (r:=_) rfl oZ (off:=0) (vs:=Zwe b vo' no' po') (by simp) (by simp [Zau,Zae])
 simp [Zbx] at oX
 have k3:=kZ.fresh kX (by simp)
 rw [hbx] at oX nZ e3
 obtain⟨nl,hnl⟩:∃ nl:List Int,b.2.2.2.1=nl:=⟨_,rfl⟩
 have x3:=oX.load1 (off:=3) rfl
 rw [hnl] at x3 hbl hno'
 have hC3:=(hC.keep k3 (by simp)).load1 (off:=3) rfl
 have br:=fun k n=>Zgm (m:=m3) hB k n
 refine Zhk 35 [35,41,54] k37 hS rfl ?_
 simp [-Int.natCast_add,l3,s2,hi,ldb,hbx,e3,x3]
 have hn3:=hno'.keep k3 (by simp)
 have eF:Zhn u b=(nl.all (fun k=>Zas k (nb u)) && (if b.2.1=1 then decide (nl.length=1) else if b.2.1=2 then decide (nl.length=2) && Zcb u [(show Int from b.2.2.1)] else if b.2.1=3 then decide (nl.length=0) && Zas (show Int from b.2.2.2.2.2.1) (ns u) else false)):=by unfold Zhn;rw [hnl]
 refine Zag 35 [35,41,54] (fun d E mF=>∃ (j:Nat),nl.length - j=d∧j≤nl.length∧mF=m3∧(nl.drop j).all (fun k=>Zas k (nb u))=nl.all (fun k=>Zas k (nb u))∧
  E=[(0,.pointer (some ⟨cb,0,none⟩)),(5,.pointer (some ⟨bx,0,none⟩)),(17,.slice no' nl.length nl.length),(18,.int .i64 nl.length),(19,.int .i64 (j:Int))]) _ ⟨_,⟨0,rfl,by omega,rfl,by rw [List.drop_zero],rfl⟩,(by repeat' constructor)⟩ ?_
 rintro d E mF ih ⟨j,hd,hj,rfl,ha,rfl⟩
 have jm:(j:Int)≤9223372036854775807:=by omega
 by_cases hlt:j < nl.length
 ·have j1:(j:Int) < nl.length:=by omega
  have wj:IntKind.i64.wrap ((j:Int)+1)=((j+1:Nat):Int):=by rw [Zab (by omega) (by omega)];omega
  obtain⟨lb,hlb,li⟩:=hn3.get hlt
  rw [hlb] at ih ⊢
  obtain⟨k,hk⟩:∃ k,nl.getD j 0=k:=⟨_,rfl⟩
  rw [hk] at li
  have hdrop:nl.drop j=k::nl.drop (j+1):=by
   rw [List.drop_eq_getElem_cons hlt,← hk,List.getD_eq_getElem?_getD,List.getElem?_eq_getElem hlt];rfl
  rw [hdrop,List.all_cons] at ha
  cases hbk:Zas k (nb u)
  ·rw [hbk] at ha
   have:Zhn u b=false:=by rw [eF,← ha];rfl
   rw [this]
   simp [-Int.natCast_add,j1,jm,hlt,li,hC3,br,hbk]
   exact k3
  ·rw [hbk] at ha
   simp [-Int.natCast_add,j1,jm,hlt,li,hC3,br,hbk,wj]
   exact ih _ _ _ _ ⟨j+1,rfl,by omega,rfl,by rw [← ha];rfl,rfl⟩ (by omega) (by repeat' constructor)
 clear ih
 have j1:¬ (j:Int) < nl.length:=by omega
 rw [List.drop_of_length_le (by omega),List.all_nil] at ha
 rw [← ha,Bool.true_and] at eF
 have x1:=oX.load1 (off:=1) rfl
 have x2:=oX.load1 (off:=2) rfl
 have x5:=oX.load1 (off:=5) rfl
 obtain⟨en,hen⟩:∃ en:Int,b.2.1=en:=⟨_,rfl⟩
 obtain⟨cd,hcd⟩:∃ cd:Int,b.2.2.1=cd:=⟨_,rfl⟩
 obtain⟨st,hst⟩:∃ st:Int,b.2.2.2.2.2.1=st:=⟨_,rfl⟩
 rw [hen] at x1 eF
 rw [hcd] at x2
 rw [hst] at x5
 rw [show (show Int from b.2.2.1)=cd from hcd,show (show Int from b.2.2.2.2.2.1)=st from hst] at eF
 have hC4:=(hC.keep k3 (by simp)).load1 (off:=4) rfl
 rw [eF]
 by_cases e1:en=1
 ·simp [-Int.natCast_add,j1,x1,e1,x3]
  exact⟨by first | omega | (constructor <;> intro h <;> omega) | rfl,k3⟩
 by_cases e2:en=2
 ·simp [-Int.natCast_add,-w37_12,j1,x1,e2]
  by_cases q:nl.length=2
  ·have q':(nl.length:Int)=2:=by omega
   obtain⟨oN,kN,nN⟩:=Zar (m:=mF) (cs:=[.int .i64 cd]) (e:=3) rfl
   have hCN:=((hC.keep k3 (by simp)).keep kN (by simp)).load1 (off:=2) rfl
   have ta:=Zkd (l:=[cd]) (Q2:=fun _=>True) hT hB ((hU.keep k3 (by simp)).keep kN (by simp)) hnu hCN (by simp) ⟨_,Zp1 ⟨by simp,Or.inr ⟨_,rfl,oN.rdo⟩⟩,fun _=>trivial⟩
   simp only [List.length_cons,List.length_nil,Nat.zero_add] at ta
   simp [-Int.natCast_add,Za u22 bs3 rfl,x3,x2,q,ta]
   exact k3.trans kN
  ·have q':¬ (nl.length:Int)=2:=by omega
   simp [-Int.natCast_add,Za u22 bs3 rfl,x3,q,q']
   exact k3
 by_cases e4:en=3
 ·simp [-Int.natCast_add,-w37_14,j1,x1,e4]
  by_cases q:nl.length=0
  ·have q2:nl=[]:=List.length_eq_zero_iff.1 q
   rw [q2] at x3
   simp [-Int.natCast_add,x3,x5,hC4,br]
   exact⟨fun _=>q2,k3⟩
  ·have q2:¬ nl=[]:=fun e=>q (by rw [e];rfl)
   simp [-Int.natCast_add,x3,q,q2]
   exact k3
 simp [-Int.natCast_add,j1,x1,e1,e2,e4]
 exact k3
end Go.Proofs.YtcgmchechmbmeaaDoor.base
end
