/- This text proves what ssa.checker's 'seenState' answers, Zb1 the abstract run. Condition: nothing is known of the calls ahead ('S f = []'). -/
import Derived.Test.YtcgmchechmbmeaaDoorM5
set_option linter.unusedVariables false
set_option linter.unusedSimpArgs false
section
set_option maxRecDepth 100000
namespace Go.Proofs.YtcgmchechmbmeaaDoor.base
open Go.Sh gen
variable {S:Zb7}{m:Mem}
def Zn4 (u:UnT.D)(bl pl I:List Int)(block place:Int)(f:Zei.D):Bool:=Zgx u bl pl I block place f.2.2.1 && Zgx u bl pl I block place f.2.2.2.1
def Zfz (u:UnT.D)(bl pl I:List Int)(block place:Int)(fs:List Zei.D):Bool:=fs.all (Zn4 u bl pl I block place)
def Yai (u:UnT.D)(f:Zei.D):Prop:=List.length f.2.2.1≤1000∧List.length f.2.2.2.1≤1000∧(∀ v∈(show List Int from f.2.2.1),(0:Int)≤v∧v < nv u)∧(∀ v∈(show List Int from f.2.2.2.1),(0:Int)≤v∧v < nv u)
set_option maxHeartbeats 4000000 in
theorem Zj8 (hS:S 63=[])(hE:S 62=[])(hD:S 70=[]){Q:Nat→Prop}{u:UnT.D}{vo bo so:Option Addr}(hU:UAt Q m u vo bo so){cb cf b1 b2 f1 f2 ix:Nat}{bl pl I:List Int}(hC:Ck3 m u vo bo so cb cf b1 b2 f1 f2 ix bl pl I)(hR:Rok u bl pl I)(hnb:nb u≤1000)(hnv:nv u≤1000000)
  {i:Nat} (hi:i < ns u) (hns:ns u≤1000000) {fs:List Zei.D} (hfs:(u.2.2.2.2.1[i]).1=fs) (hfl:fs.length≤1000) (hfo:∀ f∈fs,Yai u f) {block:Nat} (hb:block < nb u) {place:Int} :
  ∃ v m1,Zaq Tryd.prog TT S 63 [.pointer (some ⟨cb,0,none⟩),.int .i64 (i:Int),.int .i64 (block:Int),.int .i64 place] m=some (v,m1)∧v=.bool (Zfz u bl pl I block place fs)∧Zaa m m1 []:=by
 obtain⟨sb,fo,hso,lds,hfA⟩:=Zl5 hU hi
 rw [hfs] at lds hfA
 have l4:=hC.c.c.load1 (off:=4) rfl
 rw [hso] at l4
 have s1:(i:Int) < ns u:=by omega
 have s2:(i:Int)≤9223372036854775807:=by omega
 have ld0:=lds m [] (Zaa.refl _ _) (by simp)
 obtain⟨R,hRe⟩:∃ R,Zfz u bl pl I block place fs=R:=⟨_,rfl⟩
 rw [hRe]
 refine Zho 22 [22,40] k63 hS rfl ?_
 simp [-Int.natCast_add,l4,s2,hi,ld0]
 refine Zah 22 [22,40] (fun d E mF=>∃ (j:Nat),fs.length - j=d∧j≤fs.length∧(fs.drop j).all (Zn4 u bl pl I block place)=R∧Zaa m mF []∧
  E=[(0,.pointer (some ⟨cb,0,none⟩)),(2,.int .i64 (block:Int)),(3,.int .i64 place),(19,.slice fo fs.length fs.length),(20,.int .i64 fs.length),(21,.int .i64 (j:Int))]) _ ⟨_,⟨0,rfl,by omega,by rw [List.drop_zero];exact hRe,.refl _ _,rfl⟩,(by repeat' constructor)⟩ ?_
 rintro d E mF ih ⟨j,hd,hj,ha,kF,rfl⟩
 have jm:(j:Int)≤9223372036854775807:=by omega
 by_cases hlt:j < fs.length
 ·have j1:(j:Int) < fs.length:=by omega
  have wj:IntKind.i64.wrap ((j:Int)+1)=((j+1:Nat):Int):=by rw [Zab (by omega) (by omega)];omega
  obtain⟨fb,la,sa,hfb,ldf,hla,hsa⟩:=Zo8 (hfA.keep kF (by simp)) hlt
  have hmm:=hfo _ (List.getElem_mem hlt)
  rw [List.drop_eq_getElem_cons hlt,List.all_cons] at ha
  rw [hfb] at ih ⊢
  generalize fs[j]=F at *
  obtain⟨oY,kY,nY⟩:=Zas (m:=mF) (cs:=[.int .i64 0,.int .i64 0,.slice none 0 0,.slice none 0 0]) (e:=52) rfl
  obtain⟨zb,hzb⟩:∃ zb,mF.next=zb:=⟨_,rfl⟩
  obtain⟨mG,eG,oG,kG'⟩:=Zao (r:=_) rfl oY (off:=0) (vs:=frC F la sa) (by simp) (by simp [Zau,Zae])
  simp [Zb1] at oG
  have kG:=kY.fresh kG' (by simp)
  rw [hzb] at oG nY eG
  have K3:Zaa m mG []:=kF.trans kG
  have g2:=oG.load1 (off:=2) rfl
  have g3:=oG.load1 (off:=3) rfl
  have hC3:=hC.keep0 K3
  have t1:=Zki (place:=place) hE hD hC3 hR hnb hnv (hla.keep kG (by simp)) (by have:=hmm.1;omega) hmm.2.2.1 hb
  have t2:=Zki (place:=place) hE hD hC3 hR hnb hnv (hsa.keep kG (by simp)) (by have:=hmm.2.1;omega) hmm.2.2.2 hb
  obtain⟨n1,hn1⟩:∃ n1:Nat,List.length F.2.2.1=n1:=⟨_,rfl⟩
  obtain⟨n2,hn2⟩:∃ n2:Nat,List.length F.2.2.2.1=n2:=⟨_,rfl⟩
  obtain⟨q1,hq1⟩:∃ b1,Zgx u bl pl I block place F.2.2.1=b1:=⟨_,rfl⟩
  obtain⟨q2,hq2⟩:∃ b2,Zgx u bl pl I block place F.2.2.2.1=b2:=⟨_,rfl⟩
  have eF:Zn4 u bl pl I block place F=(q1 && q2):=by unfold Zn4;rw [hq1,hq2]
  rw [hq1] at t1
  rw [hq2] at t2
  rw [eF] at ha
  unfold frC at eG g2 g3 ldf
  rw [hn1] at t1 g2
  rw [hn2] at t2 g3
  rw [hn1,hn2] at ldf eG
  cases q1
  ·have:R=false:=by rw [← ha];simp
   rw [this]
   simp [-Int.natCast_add,j1,jm,hlt,ldf,hzb,eG,g2,t1]
   exact K3
  cases q2
  ·have:R=false:=by rw [← ha];simp
   rw [this]
   simp [-Int.natCast_add,j1,jm,hlt,ldf,hzb,eG,g2,g3,t1,t2]
   exact K3
  simp [-Int.natCast_add,j1,jm,hlt,ldf,hzb,eG,g2,g3,t1,t2,wj]
  exact ih _ _ _ _ ⟨j+1,rfl,by omega,by rw [← ha];simp,K3,rfl⟩ (by omega) (by repeat' constructor)
 have j1:¬ (j:Int) < fs.length:=by omega
 rw [List.drop_of_length_le (by omega),List.all_nil] at ha
 rw [← ha]
 simp [-Int.natCast_add,j1]
 exact kF
end Go.Proofs.YtcgmchechmbmeaaDoor.base
end
section
set_option maxRecDepth 100000
namespace Go.Proofs.YtcgmchechmbmeaaDoor.base
open Go.Sh gen
variable {S:Zb7}{m:Mem}
abbrev vlD (u:UnT.D)(i:Nat):List Int:=(Zcl u i).1
def Z0d (u:UnT.D)(bl pl I:List Int):List Int→List Int→Bool
 | a::r,p::q=>Zgx u bl pl I p (vlD u p.toNat).length [a] && Z0d u bl pl I r q
 | _,_=>true
def Zom (u:UnT.D)(bl pl I:List Int)(i k:Nat)(n:Int):Bool:=
 if (Za0 u n).1=21 then Z0d u bl pl I (Za0 u n).2.2.2.2.1 (prD u i) else
 Zgx u bl pl I i k (Zfj (Za0 u n)) && (!lvs (Za0 u n).1 || Zfz u bl pl I i k (stD u (show Int from (Za0 u n).2.2.2.2.2.1).toNat))
def Zh8 (u:UnT.D)(bl pl I:List Int)(i:Nat):Nat→List Int→Bool
 | _,[]=>true
 | k,n::r=>Zom u bl pl I i k n && Zh8 u bl pl I i (k+1) r
def Zm0 (u:UnT.D)(bl pl I:List Int)(i:Nat):Bool:=
 if (Zcl u i).2.1=2 then Zgx u bl pl I i (vlD u i).length [(show Int from (Zcl u i).2.2.1)] else
 if (Zcl u i).2.1=3 then Zfz u bl pl I i (vlD u i).length (stD u (show Int from (Zcl u i).2.2.2.2.2.1).toNat) else true
def Zia (u:UnT.D)(bl pl I:List Int)(i:Nat):Bool:=Zh8 u bl pl I i 0 (vlD u i) && Zm0 u bl pl I i
structure Yax (u:UnT.D):Prop where
 bv:∀ i < nb u,(vlD u i).length≤20000000000000∧∀ n∈vlD u i,(0:Int)≤n∧n < nv u
 pr:∀ i < nb u,∀ p∈prD u i,(0:Int)≤p∧p < nb u
 us:∀ n < nv u,∀ z∈Zfj (Za0 u (n:Nat)),(0:Int)≤z∧z < nv u
 al:∀ n < nv u,(Za0 u (n:Nat)).2.2.2.2.1.length * 8≤140737488351232
 ph:∀ i < nb u,∀ n∈vlD u i,(Za0 u n).1=21→List.length (Za0 u n).2.2.2.2.1=(prD u i).length
 lv:∀ n < nv u,lvs (Za0 u (n:Nat)).1=true→(0:Int)≤(Za0 u (n:Nat)).2.2.2.2.2.1∧(show Int from (Za0 u (n:Nat)).2.2.2.2.2.1) < ns u
 st:∀ s < ns u,(stD u s).length≤1000∧∀ f∈stD u s,Yai u f
 cd:∀ i < nb u,(Zcl u i).2.1=2→(0:Int)≤(Zcl u i).2.2.1∧(show Int from (Zcl u i).2.2.1) < nv u
 os:∀ i < nb u,(Zcl u i).2.1=3→(0:Int)≤(Zcl u i).2.2.2.2.2.1∧(show Int from (Zcl u i).2.2.2.2.2.1) < ns u
structure Nt (S:Zb7):Prop where
 taken:S 41=[]
 seen:S 62=[]
 seenState:S 63=[]
 dominates:S 70=[]
 uses:S 13=[]
 parts:S 42=[]
 leaves:S 55=[]
theorem Z2t {Q:Nat→Prop}{u:UnT.D}{vo bo so:Option Addr}(h:UAt Q m u vo bo so){i:Nat}(hi:i < nb u) :
  ∃ (b:Nat) (vl:Option Addr),bo=some ⟨b,0,none⟩∧∀ (m':Mem) (fs:List Nat),Zaa m m' fs→(∀ f∈fs,¬ Q f)→loadRow m' ⟨b,i * 6,none⟩ 1=some [.slice vl (vlD u i).length (vlD u i).length]:=by
 obtain⟨vb,c,e,hc,hl⟩:=Zfu h.b hi
 obtain⟨_,_,e1,h1,_⟩:=hc
 obtain⟨ao1,f1,rfl,hr1,hqf1⟩:=Zd h1
 refine⟨vb,ao1,e,fun m' fs k hf=>?_⟩
 have:=Zbr (k:=0) (hl m' fs k hf) (by rw [e1];rfl)
 rw [Nat.add_zero] at this
 rw [show vlD u i=(u.2.2.2.1[i]).1 from congrArg (fun x:Zcj.D=>x.1) (Zb4 hi)]
 exact this
theorem Zy2 {m:Mem}{Q:Nat→Prop}(v:Int):Zag (fun _=>True) (m.new [.int .i64 v] 3) (some ⟨m.next,0,none⟩) [v]:=⟨m.next,Zpg ⟨by simp,Or.inr ⟨_,rfl,(Own.new m [.int .i64 v] 3).rdo⟩⟩,fun _=>trivial⟩
set_option maxHeartbeats 16000000 in
theorem Zx3 (hN:Nt S){Q:Nat→Prop}{u:UnT.D}{vo bo so:Option Addr}(hU:UAt Q m u vo bo so){cb cf b1 b2 f1 f2 ix:Nat}{bl pl I:List Int}(hC:Ck3 m u vo bo so cb cf b1 b2 f1 f2 ix bl pl I)(hR:Rok u bl pl I)(hnb:nb u≤1000)(hnv:nv u≤1000000)(hns:ns u≤1000000)(hT:Yax u)
  {i:Nat} (hi:i < nb u) :
  ∃ v m1,Zaq Tryd.prog TT S 41 [.pointer (some ⟨cb,0,none⟩),.int .i64 (i:Int)] m=some (v,m1)∧v=.bool (Zia u bl pl I i)∧Zaa m m1 []:=by
 obtain⟨bb,vo',no',po',hbo,ldb,hvo',_,hpo'⟩:=Zf6 hU hi
 have eb:u.2.2.2.1[i]=Zcl u i:=(Zb4 hi).symm
 rw [eb] at ldb hvo' hpo'
 have hbv:=hT.bv i hi
 have hpr:=hT.pr i hi
 have hph:=hT.ph i hi
 have hcd:=hT.cd i hi
 have hos:=hT.os i hi
 have hE:Zm0 u bl pl I i=if (Zcl u i).2.1=2 then Zgx u bl pl I i (vlD u i).length [(show Int from (Zcl u i).2.2.1)] else if (Zcl u i).2.1=3 then Zfz u bl pl I i (vlD u i).length (stD u (show Int from (Zcl u i).2.2.2.2.2.1).toNat) else true:=rfl
 have hF:Zia u bl pl I i=(Zh8 u bl pl I i 0 (vlD u i) && Zm0 u bl pl I i):=rfl
 obtain⟨vl,hvl⟩:∃ vl,vlD u i=vl:=⟨_,rfl⟩
 obtain⟨en,hen⟩:∃ en:Int,(Zcl u i).2.1=en:=⟨_,rfl⟩
 obtain⟨cd,hcde⟩:∃ cd:Int,(Zcl u i).2.2.1=cd:=⟨_,rfl⟩
 obtain⟨st,hst⟩:∃ st:Int,(Zcl u i).2.2.2.2.2.1=st:=⟨_,rfl⟩
 obtain⟨pr,hpre⟩:∃ pr,prD u i=pr:=⟨_,rfl⟩
 obtain⟨nl,hnl⟩:∃ nl,(Zcl u i).2.2.2.1.length=nl:=⟨_,rfl⟩
 unfold Zw1 at ldb
 rw [hnl] at ldb
 rw [hvl] at hbv hph hE hF
 rw [show (Zcl u i).1=vl from hvl] at ldb hvo'
 rw [show (Zcl u i).2.2.2.2.1=pr from hpre] at ldb hpo'
 rw [hpre] at hpr hph
 rw [hen] at ldb hcd hos hE
 rw [hcde] at ldb hcd hE
 rw [hst] at ldb hos hE
 obtain⟨R,hRe⟩:∃ R,Zia u bl pl I i=R:=⟨_,rfl⟩
 obtain⟨RE,hREe⟩:∃ R,Zm0 u bl pl I i=R:=⟨_,rfl⟩
 rw [hRe,hREe] at hF
 rw [hREe] at hE
 rw [hRe]
 have c3:=hC.c.c.load1 (off:=3) rfl
 rw [hbo] at c3
 have i1:(i:Int) < nb u:=by omega
 have i2:(i:Int)≤9223372036854775807:=by omega
 obtain⟨oZ,kZ,nZ⟩:=Zas (m:=m) (cs:=[.slice none 0 0,.int .i64 0,.int .i64 0,.slice none 0 0,.slice none 0 0,.int .i64 0]) (e:=36) rfl
 obtain⟨bx,hbx'⟩:∃ bx,m.next=bx:=⟨_,rfl⟩
 obtain⟨m3,e3,oX,kX3⟩:=Zao (r:=_) rfl oZ (off:=0) (vs:=[.slice vo' vl.length vl.length,.int .i64 en,.int .i64 cd,.slice no' nl nl,.slice po' pr.length pr.length,.int .i64 st]) (by simp) (by simp [Zau,Zae])
 simp [Zb1] at oX
 have k3:=kZ.fresh kX3 (by simp)
 rw [hbx'] at oX nZ e3
 have x0:=oX.load1 (off:=0) rfl
 refine Zho 99 [99,108] k41 hN.taken rfl ?_
 simp [-Int.natCast_add,c3,i2,hi,ldb,hbx',e3,x0]
 obtain⟨RL,hRL⟩:∃ R,Zh8 u bl pl I i 0 vl=R:=⟨_,rfl⟩
 rw [hRL] at hF
 clear ldb e3 c3 x0 oZ kZ kX3 nZ hbo
 have hU3:=hU.keep k3 (by simp)
 have hC3:=hC.keep0 k3
 have hvo3:=hvo'.keep k3 (by simp)
 have hpo3:=hpo'.keep k3 (by simp)
 refine Zah 99 [99,108] (fun d E mF=>∃ (k:Nat),vl.length - k=d∧k≤vl.length∧Zh8 u bl pl I i k (vl.drop k)=RL∧Zaa m3 mF []∧
  E=[(0,.pointer (some ⟨cb,0,none⟩)),(1,.int .i64 (i:Int)),(5,.pointer (some ⟨bx,0,none⟩)),(6,.int .i64 vl.length),(24,.slice vo' vl.length vl.length),(25,.int .i64 vl.length),(26,.int .i64 (k:Int))]) _ ⟨_,⟨0,rfl,by omega,by rw [List.drop_zero];exact hRL,.refl _ _,rfl⟩,(by repeat' constructor)⟩ ?_
 rintro d E mF ih ⟨k,hd,hk,ha,kF,rfl⟩
 have km:(k:Int)≤9223372036854775807:=by omega
 by_cases hlt:k < vl.length
 ·have k1:(k:Int) < vl.length:=by omega
  have wk:IntKind.i64.wrap ((k:Int)+1)=((k+1:Nat):Int):=by rw [Zab (by omega) (by omega)];omega
  obtain⟨yb,hyb,lk0⟩:=(hvo3.keep kF (by simp)).get hlt
  rw [hyb] at ih ⊢
  rw [Za9 hlt,Zh8] at ha
  have hnb':=hbv.2 _ (Za4 hlt)
  have hphk:=hph _ (Za4 hlt)
  obtain⟨n,hn⟩:∃ n:Nat,vl.getD k 0=(n:Int):=⟨(vl.getD k 0).toNat,by omega⟩
  rw [hn] at lk0 hnb' ha hphk
  have hnn:n < nv u:=by omega
  have n1:(n:Int) < nv u:=by omega
  have n2:(n:Int)≤9223372036854775807:=by omega
  have hUF:=hU3.keep kF (by simp)
  have hCF:=hC3.keep0 kF
  obtain⟨xb,ao,fa,hxv,ldx,hra,_⟩:=Zi2 hUF hnn
  rw [show u.2.2.1[n]=Za0 u (n:Int) from (Zdb hnn).symm] at ldx hra
  have hus:=hT.us n hnn
  have hal:=hT.al n hnn
  have hlv:=hT.lv n hnn
  have eV:Zom u bl pl I i k (n:Int)=if (Za0 u n).1=21 then Z0d u bl pl I (Za0 u n).2.2.2.2.1 (prD u i) else
   Zgx u bl pl I i k (Zfj (Za0 u n)) && (!lvs (Za0 u n).1 || Zfz u bl pl I i k (stD u (show Int from (Za0 u n).2.2.2.2.2.1).toNat)):=rfl
  rw [eV,hpre] at ha
  obtain⟨X,hX⟩:∃ X,Za0 u (n:Int)=X:=⟨_,rfl⟩
  rw [hX] at ldx hra hus hal hlv ha hphk
  clear eV
  obtain⟨o,ho⟩:∃ o:Int,X.1=o:=⟨_,rfl⟩
  obtain⟨xa,hxa⟩:∃ o:Int,X.2.1=o:=⟨_,rfl⟩
  obtain⟨xbb,hxbb⟩:∃ o:Int,X.2.2.1=o:=⟨_,rfl⟩
  obtain⟨xn,hxn⟩:∃ o:Int,X.2.2.2.1=o:=⟨_,rfl⟩
  obtain⟨l,hl⟩:∃ o:List Int,X.2.2.2.2.1=o:=⟨_,rfl⟩
  obtain⟨xst,hxst⟩:∃ o:Int,X.2.2.2.2.2.1=o:=⟨_,rfl⟩
  have huse:Zfj X=Zcs o xa xbb l:=by unfold Zfj;rw [ho,hxa,hxbb,hl]
  rw [show List.length X.2.2.2.2.1=l.length by rw [hl]] at hphk hal
  rw [huse] at hus ha
  rw [show (show Int from X.2.2.2.2.2.1)=xst from hxst] at ha hlv
  rw [hxst] at hlv
  unfold Zl4 at ldx
  rw [ho,hxa,hxbb,hxn,hl,hxst] at ldx
  rw [ho] at hlv ha hphk
  rw [hl] at hra ha
  clear hn
  have c2:=hCF.c.c.load1 (off:=2) rfl
  rw [hxv] at c2
  obtain⟨oZ,kZ,nZ⟩:=Zas (m:=mF) (cs:=[.int .i64 0,.int .i64 0,.int .i64 0,.int .i64 0,.slice none 0 0,.int .i64 0]) (e:=43) rfl
  obtain⟨vx,hvx⟩:∃ bx,mF.next=bx:=⟨_,rfl⟩
  obtain⟨m4,e4,oV,kV⟩:=Zao (r:=_) rfl oZ (off:=0) (vs:=[.int .i64 o,.int .i64 xa,.int .i64 xbb,.int .i64 xn,.slice ao l.length l.length,.int .i64 xst]) (by simp) (by simp [Zau,Zae])
  simp [Zb1] at oV
  have k4:=kZ.fresh kV (by simp)
  rw [hvx] at oV nZ e4
  have v0:=oV.load1 (off:=0) rfl
  have v4:=oV.load1 (off:=4) rfl
  have v5:=oV.load1 (off:=5) rfl
  have vw:=oV.load (off:=0) 6 (by simp)
  simp [Zap] at vw
  have k34:=kF.trans k4
  have hC4:=hCF.keep0 k4
  have hU4:=hUF.keep k4 (by simp)
  clear oZ kZ kV
  by_cases c21:o=21
  ·rw [if_pos c21] at ha
   have hlp:=hphk c21
   have husl:∀ z∈l,(0:Int)≤z∧z < nv u:=fun z hz=>hus z (by rw [Zo7,c21];simp [hz])
   have hra4:Zag (fun _=>True) m4 ao l:=⟨fa,hra.keep k4 (by simp),fun _=>trivial⟩
   have hlb:l.length≤20000000000000:=by omega
   obtain⟨RP,hRP⟩:∃ R,Z0d u bl pl I l pr=R:=⟨_,rfl⟩
   rw [hRP] at ha
   have o21:o=21↔True:=by simp [c21]
   simp [-Int.natCast_add,k1,km,hlt,lk0,c2,n2,hnn,ldx,hvx,e4,v0,v4,o21]
   refine Zah 99 [99,108] (fun d2 E mG=>∃ (j:Nat),l.length - j=d2∧j≤l.length∧Z0d u bl pl I (l.drop j) (pr.drop j)=RP∧Zaa m4 mG []∧
    E=[(0,.pointer (some ⟨cb,0,none⟩)),(1,.int .i64 (i:Int)),(5,.pointer (some ⟨bx,0,none⟩)),(6,.int .i64 vl.length),(24,.slice (some ⟨yb.1,yb.2,none⟩) vl.length vl.length),(25,.int .i64 vl.length),(26,.int .i64 (k:Int)),(43,.slice ao l.length l.length),(44,.int .i64 l.length),(45,.int .i64 (j:Int))]) _ ⟨_,⟨0,rfl,by omega,by rw [List.drop_zero,List.drop_zero];exact hRP,.refl _ _,rfl⟩,(by repeat' constructor)⟩ ?_
   rintro d2 E mG ih2 ⟨j,hd2,hj,hp,kG,rfl⟩
   have jm:(j:Int)≤9223372036854775807:=by omega
   by_cases hjt:j < l.length
   ·have j1:(j:Int) < l.length:=by omega
    have wj:IntKind.i64.wrap ((j:Int)+1)=((j+1:Nat):Int):=by rw [Zab (by omega) (by omega)];omega
    have hjp:j < pr.length:=by omega
    have jp1:(j:Int) < pr.length:=by omega
    obtain⟨zb,rfl,lj⟩:=(hra4.keep kG (by simp)).get hjt
    obtain⟨qb,hqb,lq⟩:=((hpo3.keep k34 (by simp)).keep kG (by simp)).get hjp
    have hap:=husl _ (Za4 hjt)
    have hqp:=hpr _ (Za4 hjp)
    rw [Za9 hjt,Za9 hjp,Z0d] at hp
    obtain⟨aa,haa⟩:∃ k:Int,l.getD j 0=k:=⟨_,rfl⟩
    obtain⟨q,hq⟩:∃ k:Nat,pr.getD j 0=(k:Int):=⟨(pr.getD j 0).toNat,by omega⟩
    rw [haa] at lj hap hp
    rw [hq] at lq hqp hp
    rw [Int.toNat_natCast] at hp
    have hqn:q < nb u:=by omega
    have q1:(q:Int) < nb u:=by omega
    have q2:(q:Int)≤9223372036854775807:=by omega
    obtain⟨oN,kN,nN⟩:=Zas (m:=mG) (cs:=[.int .i64 aa]) (e:=3) rfl
    have hUG:=(hU4.keep kG (by simp))
    obtain⟨bb2,vo2,hbo2,hld⟩:=Z2t hUG hqn
    have ldv:=hld mG [] (.refl _ _) (by simp)
    have ldv3:=hld _ [] kN (by simp)
    have hCG:=hC4.keep0 kG
    have c3:=hCG.c.c.load1 (off:=3) rfl
    have c3N:=(hCG.keep0 kN).c.c.load1 (off:=3) rfl
    have oXG:=((oX.keep k34 (by simp)).keep kG (by simp))
    have x4:=oXG.load1 (off:=4) rfl
    have x4N:=(oXG.keep kN (by simp)).load1 (off:=4) rfl
    have lqN:=(((hpo3.keep k34 (by simp)).keep kG (by simp)).keep kN (by simp)).get hjp
    rw [hq] at lqN
    obtain⟨qb',hqb',lqN⟩:=lqN
    have tN:=Zki (place:=((vlD u q).length:Int)) hN.seen hN.dominates (hCG.keep0 kN) hR hnb hnv (Zy2 (Q:=Q) (m:=mG) aa) (by simp) (by intro v hv;simp at hv;subst hv;exact hap) hqn
    simp only [List.length_cons,List.length_nil,Nat.zero_add] at tN
    obtain⟨Z,hZ⟩:∃ Z,Zgx u bl pl I q (vlD u q).length [aa]=Z:=⟨_,rfl⟩
    rw [hZ] at tN hp
    have hqe:qb'=qb:=by rw [hqb] at hqb';simp at hqb';exact Prod.ext hqb'.1.symm hqb'.2.symm
    rw [hqe] at lqN
    rw [hbo2] at c3 c3N
    rw [hqb] at x4 x4N
    have Kg:Zaa m (mG.new [.int .i64 aa] 3) []:=((k3.trans k34).trans kG).trans kN
    cases Z
    ·have hPf:RP=false:=by rw [← hp];rfl
     have hRf:R=false:=by rw [hF,← ha,hPf];simp
     rw [hRf]
     simp [-Int.natCast_add,-List.getD_eq_getElem?_getD,Za u22 bs3 rfl,j1,jm,hjt,lj,hjp,c3,c3N,x4,x4N,lq,lqN,q2,hqn,ldv,ldv3,tN]
     exact Kg
    ·simp [-Int.natCast_add,-List.getD_eq_getElem?_getD,Za u22 bs3 rfl,j1,jm,hjt,lj,hjp,c3,c3N,x4,x4N,lq,lqN,q2,hqn,ldv,ldv3,tN,wj]
     exact ih2 _ _ _ _ ⟨j+1,rfl,by omega,by rw [← hp];rfl,kG.trans kN,rfl⟩ (by omega) (by repeat' constructor)
   clear ih2
   have j1:¬ (j:Int) < l.length:=by omega
   have hPt:RP=true:=by
    rw [← hp,List.drop_of_length_le (show l.length≤j by omega)];rfl
   rw [hPt,Bool.true_and] at ha
   simp [-Int.natCast_add,-List.getD_eq_getElem?_getD,j1,wk]
   exact ih _ _ _ _ ⟨k+1,rfl,by omega,ha,k34.trans kG,rfl⟩ (by omega) (by repeat' constructor)
  ·rw [if_neg c21] at ha
   obtain⟨vU,m5,c5,⟨uo,uf,rfl,hru⟩,k5⟩:=Zuy (m:=m4) hN.uses hN.parts (op:=o) (a:=xa) (b:=xbb) (n:=xn) (st:=xst) hal (hra.keep k4 (by simp))
   have hul:=Zj5 o xa xbb l
   obtain⟨L,hL⟩:∃ L,Zcs o xa xbb l=L:=⟨_,rfl⟩
   rw [hL] at hul c5 hru hus ha
   have hC5:=hC4.keep0 k5
   have hU5:=hU4.keep k5 (by simp)
   have t5:=Zki (place:=(k:Int)) hN.seen hN.dominates hC5 hR hnb hnv ⟨uf,Zpg hru,fun _=>trivial⟩ (Q:=fun _=>True) (by omega) hus hi
   have lv5:=Zpm (m:=m5) hN.leaves o
   have lv4:=Zpm (m:=m4) hN.leaves o
   have oV5:=oV.keep k5 (by simp)
   have y0:=oV5.load1 (off:=0) rfl
   have y5:=oV5.load1 (off:=5) rfl
   have yw:=oV5.load (off:=0) 6 (by simp)
   simp [Zap] at yw
   obtain⟨T,hTe⟩:∃ T,Zgx u bl pl I i k L=T:=⟨_,rfl⟩
   obtain⟨V,hV⟩:∃ V,lvs o=V:=⟨_,rfl⟩
   rw [hTe] at t5 ha
   rw [hV] at lv5 lv4 hlv ha
   have K5:Zaa m m5 []:=(k3.trans k34).trans k5
   simp [-Int.natCast_add,-w41_14,k1,km,hlt,lk0,c2,n2,hnn,ldx,hvx,e4,v0,c21]
   cases T
   ·have hRf:R=false:=by rw [hF,← ha];simp
    rw [hRf]
    simp [-Int.natCast_add,vw,c5,t5]
    exact K5
   cases V
   ·simp [-Int.natCast_add,vw,y0,c5,t5,lv5,wk]
    exact ih _ _ _ _ ⟨k+1,rfl,by omega,by rw [← ha];simp,k34.trans k5,rfl⟩ (by omega) (by repeat' constructor)
   ·have hst2:=hlv rfl
    obtain⟨s,rfl⟩:∃ s:Nat,xst=(s:Int):=⟨xst.toNat,by omega⟩
    have hsn:s < ns u:=by omega
    rw [Int.toNat_natCast] at ha
    have hsS:=hT.st s hsn
    obtain⟨_,m6,c6,rfl,k6⟩:=Zj8 (place:=(k:Int)) hN.seenState hN.seen hN.dominates hU5 hC5 hR hnb hnv hsn hns (Zi4 hsn).symm hsS.1 hsS.2 hi
    obtain⟨Z,hZ⟩:∃ Z,Zfz u bl pl I i k (stD u s)=Z:=⟨_,rfl⟩
    rw [hZ] at c6 ha
    cases Z
    ·have hRf:R=false:=by rw [hF,← ha];simp
     rw [hRf]
     simp [-Int.natCast_add,vw,y0,y5,c5,t5,lv5,c6]
     exact K5.trans k6
    ·simp [-Int.natCast_add,vw,y0,y5,c5,t5,lv5,c6,wk]
     exact ih _ _ _ _ ⟨k+1,rfl,by omega,by rw [← ha];simp,(k34.trans k5).trans k6,rfl⟩ (by omega) (by repeat' constructor)
 ·clear ih
  have k1:¬ (k:Int) < vl.length:=by omega
  rw [List.drop_of_length_le (by omega),Zh8] at ha
  rw [← ha,Bool.true_and] at hF
  have hCF:=hC3.keep0 kF
  have hUF:=hU3.keep kF (by simp)
  have oXF:=oX.keep kF (by simp)
  have x1:=oXF.load1 (off:=1) rfl
  have x2:=oXF.load1 (off:=2) rfl
  have x5:=oXF.load1 (off:=5) rfl
  have KF:=k3.trans kF
  simp [-Int.natCast_add,-w41_18,k1,x1]
  by_cases e2:en=2
  ·rw [if_pos e2] at hE
   rw [hF,hE]
   obtain⟨oN,kN,nN⟩:=Zas (m:=mF) (cs:=[.int .i64 cd]) (e:=3) rfl
   have hCN:=hCF.keep0 kN
   have tN:=Zki (place:=(vl.length:Int)) hN.seen hN.dominates hCN hR hnb hnv (Zy2 (Q:=Q) (m:=mF) cd) (by simp) (by intro v hv;simp at hv;subst hv;exact hcd e2) hi
   simp only [List.length_cons,List.length_nil,Nat.zero_add] at tN
   simp [-Int.natCast_add,Za u22 bs3 rfl,e2,x2,tN]
   exact KF.trans kN
  rw [if_neg e2] at hE
  by_cases e4:en=3
  ·rw [if_pos e4] at hE
   have hst2:(0:Int)≤st∧st < ns u:=hos e4
   obtain⟨s,rfl⟩:∃ s:Nat,st=(s:Int):=⟨st.toNat,by omega⟩
   have hsn:s < ns u:=by omega
   rw [Int.toNat_natCast] at hE
   rw [hF,hE]
   have hsS:=hT.st s hsn
   obtain⟨_,m6,c6,rfl,k6⟩:=Zj8 (place:=(vl.length:Int)) hN.seenState hN.seen hN.dominates hUF hCF hR hnb hnv hsn hns (Zi4 hsn).symm hsS.1 hsS.2 hi
   simp [-Int.natCast_add,e4,x5,c6]
   exact KF.trans k6
  rw [if_neg e4] at hE
  rw [hF,hE]
  simp [-Int.natCast_add,e2,e4]
  exact KF
end Go.Proofs.YtcgmchechmbmeaaDoor.base
end
section
set_option maxRecDepth 100000
namespace Go.Proofs.YtcgmchechmbmeaaDoor.base
open Go.Sh gen
def Z29 (l:List Int):Nat:=l.countP fun x=>decide (0≤x)
theorem Z2v {l:List Int}{k:Nat}{b:Int}(hk:k < l.length)(h:l.getD k 0 < 0)(hb:0≤b):Z29 (l.set k b)=Z29 l+1:=by
 unfold Z29
 induction l generalizing k with
 | nil=>simp at hk
 | cons a r ih =>
  cases k with
  | zero =>
   simp at h
   rw [List.set_cons_zero,List.countP_cons,List.countP_cons,if_pos (by simpa using hb),if_neg (by simpa using h)]
  | succ k =>
   rw [List.set_cons_succ,List.countP_cons,List.countP_cons,ih (by simpa using hk) (by simpa using h)]
   omega
structure Z0k (u:UnT.D)(n:Nat)(s:StS):Prop where
 lb:s.1.length=nv u
 lp:s.2.1.length=nv u
 ct:s.2.2.2=Z29 s.1
 le:∀ i < nv u,s.1.getD i 0 < n
theorem Zhi {u:UnT.D}{b k:Nat}{s s':StS}{v:Int}(h:Ze8 u b k s v=some s'):∃ n:Nat,v=(n:Int)∧n < nv u∧s.1.getD n 0 < 0∧s'=(s.1.set n b,s.2.1.set n k,Zaw (Za0 u v).1,s.2.2.2+1)∧
  ¬ (Zaw (Za0 u v).1 && !s.2.2.1=true∨(decide ((Za0 u v).1=1) != decide (b=0)) && Zaw (Za0 u v).1=true):=by
 unfold Ze8 at h
 split at h
 ·cases h
 ·rename_i h1
  split at h
  ·cases h
  ·rename_i h2
   simp only [Bool.or_eq_true,Bool.not_eq_true',decide_eq_true_eq,not_or] at h1
   obtain⟨h1,h3⟩:=h1
   have h1':Zat v (nv u)=true:=by simpa using h1
   unfold Zat at h1'
   simp only [Bool.and_eq_true,decide_eq_true_eq] at h1'
   refine⟨v.toNat,by omega,by omega,by omega,?_,by simpa using h2⟩
   simpa using h.symm
theorem Z0k.step {u:UnT.D}{N b k:Nat}{s s':StS}{v:Int}(hi:Z0k u N s)(hb:b < N)(h:Ze8 u b k s v=some s'):Z0k u N s':=by
 obtain⟨n,rfl,hn,hneg,rfl,_⟩:=Zhi h
 refine⟨by simpa using hi.lb,by simpa using hi.lp,?_,?_⟩
 ·dsimp only
  rw [Z2v (by rw [hi.lb];exact hn) hneg (by omega),hi.ct]
 ·intro i hiv
  dsimp only
  rw [Zbg _ _ _ _ (by rw [hi.lb];exact hn)]
  split
  ·omega
  ·exact hi.le i hiv
theorem Zs7 {u:UnT.D}{b k:Nat}{s s':StS}{v:Int}(hl:s.1.length=nv u∧s.2.1.length=nv u)(h:Ze8 u b k s v=some s'){i:Nat}(h0:0≤s.1.getD i 0):s'.1.getD i 0=s.1.getD i 0∧s'.2.1.getD i 0=s.2.1.getD i 0:=by
 obtain⟨n,rfl,hn,hneg,rfl,_⟩:=Zhi h
 dsimp only
 have hne:n≠i:=by intro e;rw [e] at hneg;omega
 rw [Zbg _ _ _ _ (by rw [hl.1];exact hn),if_neg hne,Zbg _ _ _ _ (by rw [hl.2];exact hn),if_neg hne]
 exact⟨rfl,rfl⟩
theorem Zwu {u:UnT.D}{N b:Nat}(hb:b < N){l:List Int}{k:Nat}{s s':StS}(hi:Z0k u N s)(h:Zcm u b k l s=some s') :
  Z0k u N s'∧(∀ i,0≤s.1.getD i 0→s'.1.getD i 0=s.1.getD i 0∧s'.2.1.getD i 0=s.2.1.getD i 0)∧
  (∀ j < l.length,∃ n:Nat,l.getD j 0=(n:Int)∧n < nv u∧s'.1.getD n 0=b∧s'.2.1.getD n 0=((k+j:Nat):Int)):=by
 induction l generalizing k s with
 | nil =>
  rw [Zcm,Option.some.injEq] at h
  subst h
  exact⟨hi,fun i _=>⟨rfl,rfl⟩,fun j hj=>by simp at hj⟩
 | cons v r ih =>
  rw [Zcm] at h
  cases hv:Ze8 u b k s v with
  | none=>rw [hv] at h;cases h
  | some s1 =>
   rw [hv,Option.bind_some] at h
   have i1:=hi.step hb hv
   obtain⟨a1,a2,a3⟩:=ih i1 h
   have kp:=fun {i:Nat}=>Zs7 (i:=i) ⟨hi.lb,hi.lp⟩ hv
   refine⟨a1,fun i h0=>?_,fun j hj=>?_⟩
   ·have k1:=kp h0
    have k2:=a2 i (by rw [k1.1];exact h0)
    exact⟨k2.1.trans k1.1,k2.2.trans k1.2⟩
   ·cases j with
    | zero =>
     obtain⟨n,rfl,hn,hneg,e1,_⟩:=Zhi hv
     have e2:s1.1.getD n 0=b:=by rw [e1];dsimp only;rw [Zbg _ _ _ _ (by rw [hi.lb];exact hn),if_pos rfl]
     have e3:s1.2.1.getD n 0=k:=by rw [e1];dsimp only;rw [Zbg _ _ _ _ (by rw [hi.lp];exact hn),if_pos rfl]
     have k2:=a2 n (by rw [e2];omega)
     exact⟨n,rfl,hn,k2.1.trans e2,k2.2.trans e3⟩
    | succ j =>
     obtain⟨n,g1,g2,g3,g4⟩:=a3 j (by simpa using hj)
     exact⟨n,by simpa using g1,g2,g3,by rw [g4];omega⟩
theorem Zor {u:UnT.D}{N:Nat}{bs:List Zcj.D}{b:Nat}{s s':StS}(hN:b+bs.length≤N)(hi:Z0k u N s)(h:Zci u b bs s=some s') :
  Z0k u N s'∧(∀ i,0≤s.1.getD i 0→s'.1.getD i 0=s.1.getD i 0∧s'.2.1.getD i 0=s.2.1.getD i 0)∧
  (∀ (j:Nat) (x:Zcj.D),bs[j]?=some x→∀ q < List.length x.1,∃ n:Nat,(show List Int from x.1).getD q 0=(n:Int)∧n < nv u∧s'.1.getD n 0=((b+j:Nat):Int)∧s'.2.1.getD n 0=(q:Int)):=by
 induction bs generalizing b s with
 | nil =>
  rw [Zci,Option.some.injEq] at h
  subst h
  exact⟨hi,fun i _=>⟨rfl,rfl⟩,fun j x hj=>by simp at hj⟩
 | cons y r ih =>
  rw [Zci] at h
  cases hv:Zcm u b 0 y.1 (s.1,s.2.1,true,s.2.2.2) with
  | none=>rw [hv] at h;cases h
  | some s1 =>
   rw [hv,Option.bind_some] at h
   rw [List.length_cons] at hN
   obtain⟨i1,i2,i3⟩:=Zwu (N:=N) (by omega) (s:=(s.1,s.2.1,true,s.2.2.2)) ⟨hi.lb,hi.lp,hi.ct,hi.le⟩ hv
   obtain⟨a1,a2,a3⟩:=ih (by omega) i1 h
   refine⟨a1,fun i h0=>?_,fun j x hj q hq=>?_⟩
   ·have k1:=i2 i h0
    have k2:=a2 i (by rw [k1.1];exact h0)
    exact⟨k2.1.trans k1.1,k2.2.trans k1.2⟩
   ·cases j with
    | zero =>
     simp at hj
     subst hj
     obtain⟨n,g1,g2,g3,g4⟩:=i3 q hq
     have k2:=a2 n (by rw [g3];omega)
     exact⟨n,g1,g2,k2.1.trans (by rw [g3,Nat.add_zero]),k2.2.trans (by rw [g4,Nat.zero_add])⟩
    | succ j =>
     obtain⟨n,g1,g2,g3,g4⟩:=a3 j x (by simpa using hj) q hq
     exact⟨n,g1,g2,by rw [g3];omega,g4⟩
structure Zhh (u:UnT.D)(bl pl:List Int):Prop where
 lb:bl.length=nv u
 lp:pl.length=nv u
 bb:∀ i < nv u,0≤bl.getD i 0∧bl.getD i 0 < nb u
 at_:∀ b < nb u,∀ q < (vlD u b).length,∃ n:Nat,(vlD u b).getD q 0=(n:Int)∧n < nv u∧bl.getD n 0=(b:Int)∧pl.getD n 0=(q:Int)
theorem Ze5 {u:UnT.D}{s:StS}(h:Zcf u=some s):Zhh u s.1 s.2.1:=by
 unfold Zcf at h
 cases hB:Zci u 0 u.2.2.2.1 (List.replicate (nv u) (-1),List.replicate (nv u) 0,true,0) with
 | none=>rw [hB] at h;cases h
 | some s1 =>
  rw [hB] at h
  have h2:=(Option.filter_eq_some_iff.1 h)
  obtain⟨h3,h4⟩:=h2
  simp only [Option.some.injEq] at h3
  subst h3
  have i0:Z0k u (nb u) (List.replicate (nv u) (-1),List.replicate (nv u) 0,true,0):=by
   refine⟨by simp,by simp,?_,fun i hi=>?_⟩
   ·simp [Z29,List.countP_replicate]
   ·dsimp only
    rw [List.getD_eq_getElem?_getD,List.getElem?_replicate,if_pos hi]
    simp
    omega
  obtain⟨a1,_,a3⟩:=Zor (N:=nb u) (by rw [Nat.zero_add];exact Nat.le_refl _) i0 hB
  have hc:Z29 s1.1=s1.1.length:=by rw [a1.lb,← a1.ct];simpa using h4
  refine⟨a1.lb,a1.lp,fun i hi=>⟨?_,a1.le i hi⟩,fun b hb q hq=>?_⟩
  ·have:=List.countP_eq_length.1 hc
   have:=this (s1.1.getD i 0) (Za4 (by rw [a1.lb];exact hi))
   simpa using this
  ·have e:vlD u b=(u.2.2.2.1[b]).1:=congrArg (fun x:Zcj.D=>x.1) (Zb4 hb)
   rw [e] at hq ⊢
   have:=a3 b _ (List.getElem?_eq_getElem hb) q hq
   rw [Nat.zero_add] at this
   exact this
end Go.Proofs.YtcgmchechmbmeaaDoor.base
end
section
set_option maxRecDepth 100000
namespace Go.Proofs.YtcgmchechmbmeaaDoor.base
open Go.Sh gen
structure Zmq (u:UnT.D):Prop where
 b:∀ b∈u.2.2.2.1,List.length b.1≤20000000000000∧List.length b.2.2.2.1≤20000000000000∧List.length b.2.2.2.2.1≤20000000000000
 s:∀ s∈u.2.2.2.2.1,List.length s.1≤20000000000000∧∀ f∈s.1,List.length f.2.2.1≤20000000000000∧List.length f.2.2.2.1≤20000000000000
 v:∀ v∈u.2.2.1,List.length v.2.2.2.2.1 * 8≤140737488351232
def Zi1 (u:UnT.D):Bool:=!decide (3000 < nv u) && !decide (300 < nb u) && !decide (1000 < ns u) && !decide (nb u=0)
def Zsw (u:UnT.D):Bool:=Zdm (fun i=>Zd9 u (stD u i)) 0 (ns u)
def Zqk (u:UnT.D)(bl:List Int):Bool:=Zdm (Zva u bl) 0 (nv u)
def Zms (u:UnT.D):Bool:=Zdm (fun i=>Zht u (Zcl u i)) 0 (nb u)
def Zns (u:UnT.D):Bool:=Zdm (Zxk u) 0 (nb u)
theorem Z1n {p:Nat→Bool}{i d:Nat}:Zdm p i d=true↔∀ k,i≤k→k < i+d→p k=true:=by
 induction d generalizing i with
 | zero=>simp [Zdm];intro k h1 h2;omega
 | succ d ih =>
  rw [Zdm,Bool.and_eq_true,ih]
  constructor
  ·rintro⟨h1,h2⟩ k hk1 hk2
   by_cases e:k=i
   ·rw [e];exact h1
   ·exact h2 k (by omega) (by omega)
  ·intro h
   exact⟨h i (by omega) (by omega),fun k h1 h2=>h k (by omega) (by omega)⟩
theorem Zco {p:Nat→Bool}{n:Nat}:Zdm p 0 n=true↔∀ k < n,p k=true:=by
 rw [Z1n]
 exact⟨fun h k hk=>h k (by omega) (by omega),fun h k _ hk=>h k (by omega)⟩
theorem Zbd {k n:Int}:Zat k n=true↔0≤k∧k < n:=by
 unfold Zat;simp only [Bool.and_eq_true,decide_eq_true_eq]
theorem Zgm {u:UnT.D}{l:List Int}(h:Zc u l=true):∀ z∈l,(0:Int)≤z∧z < nv u:=by
 intro z hz
 unfold Zc at h
 have:=List.all_eq_true.1 h z hz
 rw [Bool.and_eq_true] at this
 exact Zbd.1 this.1
theorem Zfk {u:UnT.D}{i:Nat}(h:i < nb u):Zcl u i∈u.2.2.2.1:=by rw [Zb4 h];exact List.getElem_mem h
theorem Zg1 {u:UnT.D}{i:Nat}(h:i < nv u):Za0 u (i:Int)∈u.2.2.1:=by rw [Zdb h];exact List.getElem_mem h
theorem Zkh {u:UnT.D}{b:Zcj.D}(h:Zht u b=true):(∀ k∈(show List Int from b.2.2.2.1),(0:Int)≤k∧k < nb u)∧
  ((b.2.1=1∧List.length b.2.2.2.1=1)∨(b.2.1=2∧List.length b.2.2.2.1=2∧Zc u [(show Int from b.2.2.1)]=true)∨(b.2.1=3∧List.length b.2.2.2.1=0∧(0:Int)≤b.2.2.2.2.2.1∧(show Int from b.2.2.2.2.2.1) < ns u)):=by
 unfold Zht at h
 rw [Bool.and_eq_true] at h
 obtain⟨h1,h2⟩:=h
 refine⟨fun k hk=>Zbd.1 (List.all_eq_true.1 h1 k hk),?_⟩
 split at h2
 ·rename_i e;exact Or.inl ⟨e,of_decide_eq_true h2⟩
 ·split at h2
  ·rename_i e
   rw [Bool.and_eq_true] at h2
   exact Or.inr (Or.inl ⟨e,of_decide_eq_true h2.1,h2.2⟩)
  ·split at h2
   ·rename_i e
    rw [Bool.and_eq_true] at h2
    exact Or.inr (Or.inr ⟨e,of_decide_eq_true h2.1,Zbd.1 h2.2⟩)
   ·cases h2
theorem Zng {u:UnT.D}(h:Zms u=true):Znc u:=by
 intro b hb
 obtain⟨i,hi,rfl⟩:=List.mem_iff_getElem.1 hb
 have:=Zco.1 h i hi
 rw [Zb4 hi] at this
 obtain⟨h1,h2⟩:=Zkh this
 refine⟨?_,h1⟩
 rcases h2 with h2 | h2 | h2 <;> omega
theorem Zz {u:UnT.D}(h:Zns u=true)(hb:0 < nb u):∀ k < nb u,(Zak u).getD k []=prD u k∧(k=0→prD u k=[]):=by
 intro k hk
 have h0:=Zco.1 h 0 hb
 unfold Zxk at h0
 rw [Bool.and_eq_true] at h0
 have h1:Zdm (Z0e u) 0 (nb u)=true:=by simpa using h0.1
 have h2:=Zco.1 h1 k hk
 unfold Z0e at h2
 rw [Bool.and_eq_true] at h2
 have e:(Zak u).getD k []=prD u k:=by
  have:=h2.1
  unfold eqF at this
  exact of_decide_eq_true this
 refine⟨e,fun k0=>?_⟩
 have h3:=h2.2
 rw [e] at h3
 simp [k0] at h3
 rw [k0];exact h3
theorem Zr9 {u:UnT.D}(h:Zi1 u=true):nv u≤3000∧nb u≤300∧ns u≤1000∧0 < nb u:=by
 unfold Zi1 at h
 rw [Bool.and_eq_true,Bool.and_eq_true,Bool.and_eq_true] at h
 obtain⟨⟨⟨h1,h2⟩,h3⟩,h4⟩:=h
 have g1:¬ 3000 < nv u:=fun e=>by rw [decide_eq_true e] at h1;cases h1
 have g2:¬ 300 < nb u:=fun e=>by rw [decide_eq_true e] at h2;cases h2
 have g3:¬ 1000 < ns u:=fun e=>by rw [decide_eq_true e] at h3;cases h3
 have g4:¬ nb u=0:=fun e=>by rw [decide_eq_true e] at h4;cases h4
 exact⟨Nat.not_lt.1 g1,Nat.not_lt.1 g2,Nat.not_lt.1 g3,Nat.pos_of_ne_zero g4⟩
theorem Zkj {u:UnT.D}(h:Zi1 u=true):0 < nb u:=(Zr9 h).2.2.2
theorem Z4k {u:UnT.D}(hz:Zmq u)(hsb:Zi1 u=true)(hst:Zsw u=true){s:StS}(hs:Zcf u=some s)(hv:Zqk u s.1=true)(he:Zms u=true)(hl:Zns u=true):Yax u:=by
 have hS:=Ze5 hs
 have hb0:0 < nb u:=Zkj hsb
 have hvv:∀ n < nv u,Zva u s.1 n=true:=Zco.1 hv
 refine⟨fun i hi=>⟨(hz.b _ (Zfk hi)).1,fun n hn=>?_⟩,fun i hi p hp=>?_,fun n hn=>?_,fun n hn=>hz.v _ (Zg1 hn),fun i hi n hn h21=>?_,fun n hn hlv=>?_,fun k hk=>?_,fun i hi h2=>?_,fun i hi h3=>?_⟩
 ·obtain⟨q,hq,rfl⟩:=List.mem_iff_getElem.1 hn
  obtain⟨x,h1,h2,_⟩:=hS.at_ i hi q hq
  rw [List.getD_eq_getElem?_getD,List.getElem?_eq_getElem hq] at h1
  have h1':(vlD u i)[q]=(x:Int):=h1
  rw [h1'];omega
 ·rw [← (Zz hl hb0 i hi).1] at hp
  exact Zgv u i p hp
 ·have:=hvv n hn
  unfold Zva at this
  rw [Bool.and_eq_true,Bool.and_eq_true,Bool.and_eq_true] at this
  exact Zgm this.1.1.2
 ·obtain⟨q,hq,rfl⟩:=List.mem_iff_getElem.1 hn
  obtain⟨x,h1,h2,h4,_⟩:=hS.at_ i hi q hq
  rw [List.getD_eq_getElem?_getD,List.getElem?_eq_getElem hq] at h1
  have h1':(vlD u i)[q]=(x:Int):=h1
  rw [h1'] at h21 ⊢
  have:=hvv x h2
  unfold Zva at this
  rw [Bool.and_eq_true,if_neg (by rw [h21];decide),if_pos h21,h4] at this
  have:=of_decide_eq_true this.2
  rw [this]
  unfold Zlj
  rw [Int.toNat_natCast]
 ·have:=hvv n hn
  unfold Zva at this
  rw [Bool.and_eq_true,Bool.and_eq_true,hlv] at this
  exact Zbd.1 (by simpa using this.1.2)
 ·have:=Zco.1 hst k hk
  unfold Zd9 at this
  simp only [Bool.and_eq_true,Bool.not_eq_true',decide_eq_false_iff_not] at this
  obtain⟨⟨h1,h2⟩,h3⟩:=this
  refine⟨by omega,fun f hf=>?_⟩
  have:=List.all_eq_true.1 h3 f hf
  unfold Zhk at this
  simp only [Bool.and_eq_true,Bool.not_eq_true',decide_eq_false_iff_not] at this
  obtain⟨⟨⟨g1,g2⟩,g3⟩,g4⟩:=this
  exact⟨by omega,by omega,Zgm g3,Zgm g4⟩
 ·obtain⟨_,g⟩:=Zkh (Zco.1 he i hi)
  rcases g with⟨g1,_⟩ | ⟨_,_,g⟩ | ⟨g1,_⟩
  ·rw [g1] at h2;exact absurd h2 (by decide)
  ·exact Zgm g _ (by simp)
  ·rw [g1] at h2;exact absurd h2 (by decide)
 ·obtain⟨_,g⟩:=Zkh (Zco.1 he i hi)
  rcases g with⟨g1,_⟩ | ⟨g1,_⟩ | ⟨_,_,g⟩
  ·rw [g1] at h3;exact absurd h3 (by decide)
  ·rw [g1] at h3;exact absurd h3 (by decide)
  ·exact g
end Go.Proofs.YtcgmchechmbmeaaDoor.base
end
