/- This text proves what eval's 'left' answers, Zbr the abstract run: the frames. Condition: nothing is known of the calls ahead ('S f = []'). -/
import Derived.Test.YtlogdohlcdhepaaDoorM3
set_option linter.unusedVariables false
set_option linter.unusedSimpArgs false
section
set_option maxRecDepth 100000
namespace Go.Proofs.YtlogdohlcdhepaaDoor.base
open Go.Sh gen
variable {S:Zb2}{m:Mem}
abbrev ns (u:UnT.D):Nat:=u.2.2.2.2.1.length
abbrev Z3:Ty:=(Ty.pair (Ty.int .i64) (Ty.pair (Ty.int .i64) (Ty.pair (Ty.slice 45 (Ty.int .u64)) (Ty.pair (Ty.slice 45 (Ty.int .u64)) Ty.unit))))
def frW (ws:List Int)(f:Zmw.D):Z3.D:=((show Int from f.1),(show Int from f.2.1),Zlj ws f.2.2.1,Zlj ws f.2.2.2.1,())
theorem Zix {Q:Nat→Prop}{e:TypeId}{t:Ty}{l:List t.D}{ao:Option Addr}(h:AtQ Q m (Ty.slice e t) l [.slice ao l.length l.length]){i:Nat}(hi:i < l.length) :
  ∃ (vb:Nat) (c:List Value),ao=some ⟨vb,0,none⟩∧AtQ Q m t l[i] c∧∀ (m':Mem) (fs:List Nat),Zaa m m' fs→(∀ f∈fs,¬ Q f)→loadRow m' ⟨vb,i * t.size,none⟩ t.size=some c:=by
 obtain⟨css,fam,hcl,hce,hr,hq⟩:=Zuh h
 obtain⟨vb,rfl,o⟩:=hr.rdo (by omega)
 have hce':∀ (j:Nat) d c,l[j]?=some d→css[j]?=some c→At m t d c:=fun j d c h1 h2=>(hce j d c h1 h2).at_
 have hci:i < css.length:=by omega
 have hat:=hce i l[i] css[i] (List.getElem?_eq_getElem hi) (List.getElem?_eq_getElem hci)
 have hlen:∀ x∈css,x.length=t.size:=by
  intro x hx
  obtain⟨j,hj⟩:=List.getElem?_of_mem hx
  have hjl:j < l.length:=by have:=(List.getElem?_eq_some_iff.1 hj).1;omega
  exact (hce' j l[j] x (List.getElem?_eq_getElem hjl) hj).len
 have hwin:=Zuw hlen hci
 have hfl:css.flatten.length=css.length * t.size:=Zq5 hlen
 have hb:i * t.size+t.size≤css.flatten.length:=by
  rw [hfl,← Nat.succ_mul]
  exact Nat.mul_le_mul_right _ hci
 refine⟨vb,css[i],rfl,hat,fun m' fs k hf=>?_⟩
 rw [(o.keep k (fun hm=>hf fam hm (hq (by omega)))).load t.size hb,hwin]
theorem Zlk {Q:Nat→Prop}{u:UnT.D}{vo bo so:Option Addr}(h:UAt Q m u vo bo so){i:Nat}(hi:i < ns u) :
  ∃ (b:Nat) (fo:Option Addr),so=some ⟨b,0,none⟩∧(∀ (m':Mem) (fs:List Nat),Zaa m m' fs→(∀ f∈fs,¬ Q f)→loadRow m' ⟨b,i,none⟩ 1=some [.slice fo (u.2.2.2.2.1[i]).1.length (u.2.2.2.2.1[i]).1.length])∧AtQ Q m (Ty.slice 64 (Ty.pair (Ty.int .i64) (Ty.pair (Ty.int .i64) (Ty.pair (Ty.slice 3 (Ty.int .i64)) (Ty.pair (Ty.slice 3 (Ty.int .i64)) Ty.unit))))) (u.2.2.2.2.1[i]).1 [.slice fo (u.2.2.2.2.1[i]).1.length (u.2.2.2.2.1[i]).1.length]:=by
 obtain⟨vb,c,e,hc,hl⟩:=Zix h.s hi
 obtain⟨_,_,e1,h1,h2⟩:=hc
 simp only [AtQ] at h2
 subst h2
 have h1':=h1
 obtain⟨ao,css,fm,rfl,_⟩:=h1
 refine⟨vb,ao,e,fun m' fs k hf=>?_,h1'⟩
 have hl':=hl m' fs k hf
 rw [e1] at hl'
 rw [show (Ty.pair (Ty.slice 64 Zmw) Ty.unit).size=1 from rfl] at hl'
 simpa using hl'
abbrev frC (f:Zmw.D)(lo so:Option Addr):List Value:=[.int .i64 f.1,.int .i64 f.2.1,.slice lo f.2.2.1.length f.2.2.1.length,.slice so f.2.2.2.1.length f.2.2.2.1.length]
theorem Zlo {Q:Nat→Prop}{fs:List Zmw.D}{fo:Option Addr}(h:AtQ Q m (Ty.slice 64 (Ty.pair (Ty.int .i64) (Ty.pair (Ty.int .i64) (Ty.pair (Ty.slice 3 (Ty.int .i64)) (Ty.pair (Ty.slice 3 (Ty.int .i64)) Ty.unit))))) fs [.slice fo fs.length fs.length]){i:Nat}(hi:i < fs.length) :
  ∃ (b:Nat) (lo so:Option Addr),fo=some ⟨b,0,none⟩∧loadRow m ⟨b,i * 4,none⟩ 4=some (frC fs[i] lo so)∧Za2 Q m lo (fs[i]).2.2.1∧Za2 Q m so (fs[i]).2.2.2.1:=by
 obtain⟨vb,c,fam,e,hc,hl,hq,_⟩:=Zhw h hi
 obtain⟨_,_,e1,rfl,_,_,e2,rfl,_,_,e3,h3,_,_,e4,h4,h5⟩:=hc
 simp only [AtQ] at h5
 subst h5
 obtain⟨ao3,f3,rfl,hr3,hqf3⟩:=Zfr h3
 obtain⟨ao4,f4,rfl,hr4,hqf4⟩:=Zfr h4
 refine⟨vb,ao3,ao4,e,?_,⟨f3,hr3,hqf3⟩,⟨f4,hr4,hqf4⟩⟩
 rw [e1,e2,e3,e4] at hl
 exact hl
theorem Zq7 {Q:Nat→Prop}{ws:List Int}{F:Zmw.D}{r5 r6:Option Addr}{w5 w6:Nat}(R5:Rs m r5 (List.length F.2.2.1) (words (Zlj ws F.2.2.1)) 45 1 w5)(q5:List.length F.2.2.1≠0→Q w5)
  (R6:Rs m r6 (List.length F.2.2.2.1) (words (Zlj ws F.2.2.2.1)) 45 1 w6) (q6:List.length F.2.2.2.1≠0→Q w6) :
  AtQ Q m Z3 (frW ws F) [.int .i64 F.1,.int .i64 F.2.1,.slice r5 (List.length F.2.2.1) (List.length F.2.2.1),.slice r6 (List.length F.2.2.2.1) (List.length F.2.2.2.1)]:=by
 have a5:AtQ Q m (Ty.slice 45 (Ty.int .u64)) (Zlj ws F.2.2.1) [.slice r5 (List.length F.2.2.1) (List.length F.2.2.1)]:=by
  have:=Zqs (Q:=Q) (m:=m) (l:=Zlj ws F.2.2.1) (ao:=r5) (f:=w5) (by rw [Zh1];exact R5) (by rw [Zh1];exact q5)
  rwa [Zh1] at this
 have a6:AtQ Q m (Ty.slice 45 (Ty.int .u64)) (Zlj ws F.2.2.2.1) [.slice r6 (List.length F.2.2.2.1) (List.length F.2.2.2.1)]:=by
  have:=Zqs (Q:=Q) (m:=m) (l:=Zlj ws F.2.2.2.1) (ao:=r6) (f:=w6) (by rw [Zh1];exact R6) (by rw [Zh1];exact q6)
  rwa [Zh1] at this
 exact⟨[_],_,rfl,rfl,[_],_,rfl,rfl,[_],_,rfl,a5,[_],[],rfl,a6,rfl⟩
set_option maxHeartbeats 16000000 in
theorem Zt9 (hS:S 28=[])(hR:S 57=[]){Q:Nat→Prop}{u:UnT.D}{K:Kv}{V:Vv}(h:Ev Q m u K V)(hnu:nv u≤1000000)(hns:ns u≤1000000){st:Nat}(hst:st < ns u)(val:Int)
  {fs:List Zmw.D} (hfs:(u.2.2.2.2.1[st]).1=fs) (hfl:fs.length≤1000000) (hf:∀ f∈fs,f.2.2.1.length≤1000000∧f.2.2.2.1.length≤1000000∧(∀ v∈(show List Int from f.2.2.1),(0:Int)≤v∧v < (nv u:Int))∧(∀ v∈(show List Int from f.2.2.2.1),(0:Int)≤v∧v < (nv u:Int))) :
  ∃ v m1,Zag Tryd.prog TT S 28 [.pointer (some ⟨K.x,0,none⟩),.int .i64 (st:Int),.int .i64 val] m=some (v,m1)∧
   (∃ fo,v=.agg #[.int .i64 1,.int .i64 (st:Int),.int .i64 val,.slice fo fs.length fs.length,.int .i64 V.steps]∧AtQ (fun f=>m.next≤f) m1 (Ty.slice 44 (Ty.pair (Ty.int .i64) (Ty.pair (Ty.int .i64) (Ty.pair (Ty.slice 45 (Ty.int .u64)) (Ty.pair (Ty.slice 45 (Ty.int .u64)) Ty.unit))))) (fs.map (frW V.ws)) [.slice fo fs.length fs.length])∧Zaa m m1 []:=by
 obtain⟨sb,fo,hso,lds,hfo⟩:=Zlk h.unit hst
 rw [hfs] at lds hfo
 have o4:=h.own.load1 (off:=4) rfl
 rw [hso] at o4
 have s1:(st:Int) < ns u:=by omega
 have s2:(st:Int)≤9223372036854775807:=by omega
 refine Zfi 30 [30] k28 hS rfl ?_
 obtain⟨oP,kP,nP⟩:=Zat (m:=m) (cs:=[.pointer (some ⟨K.x,0,none⟩)]) (e:=76) rfl
 obtain⟨pb,hpb⟩:∃ pb,m.next=pb:=⟨_,rfl⟩
 obtain⟨mA,hmA⟩:∃ mA,m.new [.pointer (some ⟨K.x,0,none⟩)] 76=mA:=⟨_,rfl⟩
 rw [hmA,hpb] at oP nP
 rw [hmA] at kP
 obtain⟨oR,kR,nR⟩:=Zat (m:=mA) (cs:=[.int .i64 0,.int .i64 0,.int .i64 0,.slice none 0 0,.int .i64 0]) (e:=28) rfl
 obtain⟨rb,hrb⟩:∃ rb,mA.next=rb:=⟨_,rfl⟩
 obtain⟨mB,hmB⟩:∃ mB,mA.new [.int .i64 0,.int .i64 0,.int .i64 0,.slice none 0 0,.int .i64 0] 28=mB:=⟨_,rfl⟩
 rw [hmB,hrb] at oR nR
 rw [hmB] at kR
 obtain⟨oY,kY,nY⟩:=Zat (m:=mB) (cs:=[.int .i64 0,.int .i64 0,.int .i64 0,.slice none 0 0,.int .i64 0]) (e:=28) rfl
 obtain⟨yb,hyb⟩:∃ yb,mB.next=yb:=⟨_,rfl⟩
 rw [hyb] at oY nY
 obtain⟨m4,e4,oX,kX⟩:=Zaj (r:=_) rfl oY (off:=0) (vs:=[.int .i64 1,.int .i64 (st:Int),.int .i64 val,.slice none 0 0,.int .i64 V.steps]) (by simp) (by simp [Zam,Zad])
 simp [Zbr] at oX
 have kB4:=kY.fresh kX (by simp;omega)
 have kB:Zaa m mB []:=kP.trans kR
 have k4:Zaa m m4 []:=kB.trans kB4
 have hB:=h.keep0 kB
 have h4:=h.keep0 k4
 have x0B:=(oP.keep kR (by simp)).load1 (off:=0) rfl
 have oP4:=(oP.keep kR (by simp)).keep kB4 (by simp)
 have oR4:=oR.keep kB4 (by simp)
 have x04:=oP4.load1 (off:=0) rfl
 have w8:=hB.own.load1 (off:=8) rfl
 have o44:=h4.own.load1 (off:=4) rfl
 rw [hso] at o44
 have lds4:=lds m4 [] k4 (by simp)
 have hfoB:=hfo.keep kB (by simp)
 have bds:pb < rb∧rb < yb∧m.next=pb∧yb < m4.next:=by
  have:=oP.flt;have:=oR.flt;have:=oX.flt;omega
 have nsL:(ns u:Int)≤9223372036854775807:=by omega
 simp [-Int.natCast_add,Zcu b76,Zau Z7n,hpb,hmA,hrb,hmB,hyb,x0B,w8,e4,x04,o44,s2,hst,lds4]
 refine Zai 30 [30] (fun d E mF=>∃ (i:Nat) (lo:Option Addr) (lf:Nat) (css:List (List Value)),fs.length - i=d∧i≤fs.length∧Own mF yb [.int .i64 1,.int .i64 (st:Int),.int .i64 val,.slice lo i i,.int .i64 V.steps] 28 yb∧css.length=i∧
  (∀ (k:Nat) d c,((fs.map (frW V.ws)).take i)[k]?=some d→css[k]?=some c→AtQ (fun f=>yb < f∧f≠lf) mF Z3 d c)∧Sl mF lo i css.flatten 44 4 lf∧(lo≠none→yb < lf∧lf < mF.next)∧Zaa mB mF []∧
  E=[(6,.pointer (some ⟨rb,0,none⟩)),(7,.pointer (some ⟨yb,0,none⟩)),(8,.func (.func 57) #[] #[.pointer (some ⟨pb,0,none⟩)]),(27,.slice fo fs.length fs.length),(28,.int .i64 fs.length),(29,.int .i64 (i:Int))]) _ ⟨_,⟨0,none,0,[],rfl,by omega,oX,rfl,fun k d c hk=>by simp at hk,Sl.nil _ _ _ _,fun q=>absurd rfl q,kB4,rfl⟩,(by repeat' constructor)⟩ ?_
 rintro d E mF ih ⟨i,lo,lf,css,hd,hi,oYF,hcl,hcs,sL,hlf,kF,rfl⟩
 have im:(i:Int)≤9223372036854775807:=by omega
 have hF:=hB.keep0 kF
 have ybF:=oYF.flt
 by_cases hlt:i < fs.length
 ·have i1:(i:Int) < fs.length:=by omega
  have wi:IntKind.i64.wrap ((i:Int)+1)=((i+1:Nat):Int):=by rw [Zab (by omega) (by omega)];omega
  obtain⟨fb,la,sa,hfb,ldf,hla,hsa⟩:=Zlo (hfoB.keep kF (by simp)) hlt
  obtain⟨f1,f2,f3,f4⟩:=hf _ (List.getElem_mem hlt)
  have etk:(fs.map (frW V.ws)).take (i+1)=(fs.map (frW V.ws)).take i++[frW V.ws fs[i]]:=by rw [List.take_succ_eq_append_getElem (by simpa using hlt)];simp
  rw [hfb] at ih ⊢
  generalize fs[i]=F at *
  obtain⟨oZ,kZ,nZ⟩:=Zat (m:=mF) (cs:=[.int .i64 0,.int .i64 0,.slice none 0 0,.slice none 0 0]) (e:=64) rfl
  obtain⟨zb,hzb⟩:∃ zb,mF.next=zb:=⟨_,rfl⟩
  obtain⟨mG,eG,oG,kG'⟩:=Zaj (r:=_) rfl oZ (off:=0) (vs:=frC F la sa) (by simp) (by simp [Zam,Zad])
  simp [Zbr] at oG
  have kG:=kZ.fresh kG' (by simp)
  rw [hzb] at oG nZ eG
  have hG:=hF.keep0 kG
  have oPG:=((oP.keep kR (by simp)).keep kF (by simp)).keep kG (by simp)
  have oYG:=oYF.keep kG (by simp)
  have y3:=oYG.load1 (off:=3) rfl
  have g0:=oG.load1 (off:=0) rfl
  have g1:=oG.load1 (off:=1) rfl
  have g2:=oG.load1 (off:=2) rfl
  obtain⟨_,m5,c5,⟨r5,w5,rfl,R5,q5⟩,k5⟩:=Zyo hR hG hnu f1 f3 (hla.keep kG (by simp)) oPG
  have h5:=hG.keep0 k5
  have g3:=(oG.keep k5 (by simp)).load1 (off:=3) rfl
  obtain⟨_,m6,c6,⟨r6,w6,rfl,R6,q6⟩,k6⟩:=Zyo hR h5 hnu f2 f4 ((hsa.keep kG (by simp)).keep k5 (by simp)) (oPG.keep k5 (by simp))
  have oY5:=oYG.keep k5 (by simp)
  have oY6:=oY5.keep k6 (by simp)
  have oG5:=oG.keep k5 (by simp)
  have oG6:=oG5.keep k6 (by simp)
  have g05:=oG5.load1 (off:=0) rfl
  have g15:=oG5.load1 (off:=1) rfl
  have g06:=oG6.load1 (off:=0) rfl
  have g16:=oG6.load1 (off:=1) rfl
  have y35:=oY5.load1 (off:=3) rfl
  have y36:=oY6.load1 (off:=3) rfl
  have g25:=oG5.load1 (off:=2) rfl
  have g26:=oG6.load1 (off:=2) rfl
  have g36:=oG6.load1 (off:=3) rfl
  have gG3:=oG.load1 (off:=3) rfl
  obtain⟨oW,kW,nW⟩:=Zat (m:=m6) (cs:=[.int .i64 F.1,.int .i64 F.2.1,.slice r5 (List.length F.2.2.1) (List.length F.2.2.1),.slice r6 (List.length F.2.2.2.1) (List.length F.2.2.2.1)]) (e:=44) rfl
  have gW0:=(oG6.keep kW (by simp)).load1 (off:=0) rfl
  have gW1:=(oG6.keep kW (by simp)).load1 (off:=1) rfl
  have yW3:=(oY6.keep kW (by simp)).load1 (off:=3) rfl
  simp [-Int.natCast_add,Zau Ybm,Za u26 Yb rfl,Za0 u26 Z9t,i1,im,hlt,ldf,hzb,eG,y3,g0,g1,g2,c5,g3,c6]
  generalize hra:Zan _ _ _ _ _ _=ra
  obtain⟨m7,lb7,lf7,rfl,oL7,k7,hlf7,hl7,hz7⟩:=Zg6 hra u26 Ybc ((sL.keepz kG (by simp)).keepz (k5.trans k6) (by simp)) (by omega) (by simp) (by simp [Zam,Zad]) (by omega) (by omega)
  have b5:=k5.1
  have b6:=k6.1
  have bG:=kG.1
  have bF:=kF.1
  have knew:∀ f:Nat,f≤yb∨zb≤f→f∉(if lo=none then [] else [lf]):=by
   intro f hf'
   split
   ·simp
   ·rename_i hn
    have:=hlf hn
    simp;omega
  have oY7:=oY6.keep k7 (knew _ (by omega))
  have oG7:=oG6.keep k7 (knew _ (by omega))
  have y37:=oY7.load1 (off:=3) rfl
  have g07:=oG7.load1 (off:=0) rfl
  have g17:=oG7.load1 (off:=1) rfl
  obtain⟨m8,e8,oY8,k8⟩:=Zaj (r:=_) rfl oY7 (off:=3) (vs:=[.slice (some ⟨lb7,0,none⟩) (i+1) (i+1)]) (by simp) (by simp [Zad])
  simp [Zbr] at oY8
  simp [-Int.natCast_add,y3,g0,g1,g2,g3,g05,g15,g06,g16,y35,y36,yW3,gG3,e8,wi]
  have R57:Rs m8 r5 (List.length F.2.2.1) (words (Zlj V.ws F.2.2.1)) 45 1 w5:=by
   refine ((R5.keep0 k6 (by simp)).keep0 k7 (fun q=>?_)).keep0 k8 (fun q=>?_)
   ·split
    ·simp
    ·rename_i hn
     have:=hlf hn;have:=q5 q
     simp;omega
   ·have:=q5 q
    simp;omega
  have R67:Rs m8 r6 (List.length F.2.2.2.1) (words (Zlj V.ws F.2.2.2.1)) 45 1 w6:=by
   refine (R6.keep0 k7 (fun q=>?_)).keep0 k8 (fun q=>?_)
   ·split
    ·simp
    ·rename_i hn
     have:=hlf hn;have:=q6 q
     simp;omega
   ·have:=q6 q
    simp;omega
  have lfz:(lo≠none∧lf7=lf)∨(lo=none∧m6.next≤lf7):=by
   rcases hlf7 with q | q
   ·exact Or.inl q
   ·by_cases hn:lo=none
    ·exact Or.inr ⟨hn,q⟩
    ·exact Or.inl ⟨hn,hz7 hn⟩
  have hl7':yb < lf7∧(lf7 < mF.next∨m6.next≤lf7):=by
   rcases lfz with⟨q,q2⟩ | ⟨_,q⟩
   ·have:=hlf q;omega
   ·omega
  have at8:=Zq7 (Q:=fun f=>yb < f∧f≠lf7) R57 (fun q=>by have:=q5 q;omega) R67 (fun q=>by have:=q6 q;omega)
  have K8:Zaa mB m8 []:=by
   refine (((kF.trans kG).trans (k5.trans k6)).fresh k7 ?_).fresh k8 (by simp;omega)
   intro f hf'
   split at hf'
   ·simp at hf'
   ·rename_i hn
    simp at hf'
    have:=hlf hn
    rw [hf'];omega
  exact ih _ _ _ _ ⟨i+1,some ⟨lb7,0,none⟩,lf7,css++[[.int .i64 F.1,.int .i64 F.2.1,.slice r5 (List.length F.2.2.1) (List.length F.2.2.1),.slice r6 (List.length F.2.2.2.1) (List.length F.2.2.2.1)]],rfl,by omega,oY8,by simp [hcl],(by
    intro k d c hd' hc'
    rw [etk] at hd'
    have hml:((fs.map (frW V.ws)).take i).length=i:=by rw [List.length_take,List.length_map];omega
    by_cases hk:k < i
    ·rw [List.getElem?_append_left (by omega)] at hd' hc'
     have a1:=hcs k d c hd' hc'
     have hln:lo≠none:=by
      intro e
      rcases sL.2 with⟨_,q⟩ | ⟨b,q,_⟩
      ·omega
      ·rw [e] at q;cases q
     have e7:=hz7 hln
     have a2:=((a1.keep ((kG.trans k5).trans k6) (by simp)).keep k7 (by
      intro f hf'
      rw [if_neg hln] at hf'
      simp at hf'
      rw [hf']
      exact fun q=>q.2 rfl)).keep k8 (by simp)
     rw [e7];exact a2
    ·have hk2:k=i:=by
      have:=(List.getElem?_eq_some_iff.1 hc').1
      simp [hcl] at this
      omega
     subst hk2
     rw [List.getElem?_append_right (by omega),hml,Nat.sub_self] at hd'
     rw [List.getElem?_append_right (by omega),hcl,Nat.sub_self] at hc'
     simp only [List.getElem?_cons_zero,Option.some.injEq] at hd' hc'
     subst hd' hc'
     exact at8),by
    have:=(oL7.keep k8 (by simp;omega))
    exact Sl.of (by simpa using this) (by have:=sL.1;simp [List.length_flatten] at this ⊢;omega),fun _=>⟨hl7'.1,by have:=k8.1;omega⟩,K8,rfl⟩ (by omega) (by repeat' constructor)
 have i1:¬ (i:Int) < fs.length:=by omega
 have ei:i=fs.length:=by omega
 clear ih
 have lY:=oYF.load (off:=0) 5 (by simp)
 simp [Zao] at lY
 obtain⟨m8,e8,oR8,k8⟩:=Zaj (r:=_) rfl (oR.keep kF (by simp)) (off:=0) (vs:=[.int .i64 1,.int .i64 (st:Int),.int .i64 val,.slice lo i i,.int .i64 V.steps]) (by simp) (by simp [Zam,Zad])
 simp [Zbr] at oR8
 have lR:=oR8.load (off:=0) 5 (by simp)
 simp [Zao] at lR
 simp [-Int.natCast_add,Zdf Zwp,i1,lY,e8,lR]
 subst ei
 rw [List.take_of_length_le (by simp)] at hcs
 have KR:Zaa m m8 []:=(kB.trans kF).fresh k8 (by simp;omega)
 refine⟨⟨lo,⟨rfl,rfl⟩,lo,css,lf,by simp,by simpa using hcl,fun k d c h1 h2=>((hcs k d c h1 h2).keep k8 (by simp;omega)).mono (fun f q=>by omega),?_,fun q=>?_⟩,KR⟩
 ·have:=(sL.keepz k8 (fun q=>by have:=hlf q;simp;omega)).rs
  rw [List.length_map]
  exact this
 ·have hln:lo≠none:=by
   intro e
   simp at q
   rcases sL.2 with⟨_,z⟩ | ⟨b,z,_⟩
   ·exact q (List.length_eq_zero_iff.1 z)
   ·rw [e] at z;cases z
  have:=hlf hln
  omega
end Go.Proofs.YtlogdohlcdhepaaDoor.base
end
section
set_option maxRecDepth 100000
namespace Go.Proofs.YtlogdohlcdhepaaDoor.base
open Go.Sh gen
variable {S:Zb2}{m:Mem}
def Zc (k n:Int):Bool:=decide (0≤k) && decide (k < n)
theorem Zgh (hS:S 65=[])(k n:Int):Zag Tryd.prog TT S 65 [.int .i64 k,.int .i64 n] m=some (.bool (Zc k n),m):=by
 refine Zb3 5 [] k65 hS rfl ?_
 unfold Zc
 by_cases h:0≤k
 ·simp [h]
 ·simp [h]
def noW (op:Int):Bool:=decide (op=19) || decide (op=20) || decide (op=22) || decide (op=23)
def Zcf (u:UnT.D)(l:List Int):Bool:=l.all fun k=>Zc k (nv u) && !noW (Za1 u k).1
set_option maxHeartbeats 4000000 in
theorem Zjs (hS:S 64=[])(hB:S 65=[]){Q Q2:Nat→Prop}{u:UnT.D}{vo bo so:Option Addr}(hU:UAt Q m u vo bo so)(hnu:nv u≤1000000){cb:Nat}(h2:loadRow m ⟨cb,2,none⟩ 1=some [.slice vo (nv u) (nv u)])
  {l:List Int} (hl:l.length≤20000000000000) {ao:Option Addr} (hi:Za2 Q2 m ao l) :
  Zag Tryd.prog TT S 64 [.pointer (some ⟨cb,0,none⟩),.slice ao l.length l.length] m=some (.bool (Zcf u l),m):=by
 have br:=fun k n=>Zgh (m:=m) hB k n
 refine Zb3 31 [31,31,31,31] k64 hS rfl ?_
 simp [-Int.natCast_add]
 refine Zai 31 [31,31,31,31] (fun d E mF=>∃ (i:Nat),l.length - i=d∧i≤l.length∧mF=m∧Zcf u (l.drop i)=Zcf u l∧
  E=[(0,.pointer (some ⟨cb,0,none⟩)),(7,.slice ao l.length l.length),(8,.int .i64 l.length),(9,.int .i64 (i:Int))]) _ ⟨_,⟨0,rfl,by omega,rfl,by rw [List.drop_zero],rfl⟩,(by repeat' constructor)⟩ ?_
 rintro d E mF ih ⟨i,hd,hi',rfl,ht,rfl⟩
 have im:(i:Int)≤9223372036854775807:=by omega
 by_cases hlt:i < l.length
 ·have i1:(i:Int) < l.length:=by omega
  have wi:IntKind.i64.wrap ((i:Int)+1)=((i+1:Nat):Int):=by rw [Zab (by omega) (by omega)];omega
  obtain⟨lb,hlb,li⟩:=hi.get hlt
  rw [hlb] at ih ⊢
  obtain⟨k,hk⟩:∃ k,l.getD i 0=k:=⟨_,rfl⟩
  rw [hk] at li
  have hdrop:l.drop i=k::l.drop (i+1):=by
   rw [List.drop_eq_getElem_cons hlt,← hk,List.getD_eq_getElem?_getD,List.getElem?_eq_getElem hlt];rfl
  rw [hdrop] at ht
  have ht':(Zc k (nv u) && !noW (Za1 u k).1 && Zcf u (l.drop (i+1)))=Zcf u l:=ht
  by_cases hb:Zc k (nv u)=true
  ·have hb2:=hb
   unfold Zc at hb2
   simp only [Bool.and_eq_true,decide_eq_true_eq] at hb2
   obtain⟨n,rfl⟩:∃ n:Nat,k=(n:Int):=⟨k.toNat,by omega⟩
   have hn:n < nv u:=by omega
   have hn1:(n:Int) < nv u:=by omega
   have hn2:(n:Int)≤9223372036854775807:=by omega
   obtain⟨xb,ao',fa,hxv,ldx,_,_⟩:=Zh hU hn
   rw [hxv] at h2
   have lop:=Zb8 (k:=0) ldx rfl
   rw [Nat.add_zero] at lop
   rw [Zeg hn,hb] at ht'
   obtain⟨o,ho⟩:∃ o:Int,(u.2.2.1[n]).1=o:=⟨_,rfl⟩
   rw [ho] at lop
   rw [show (u.2.2.1[n]).1=o from ho] at ht'
   by_cases c19:o=19
   ·have:Zcf u l=false:=by rw [← ht'];simp [noW,c19]
    simp [-Int.natCast_add,-List.getD_eq_getElem?_getD,i1,im,hlt,li,h2,br,hb,hn,hn2,lop,c19,this]
   by_cases c20:o=20
   ·have:Zcf u l=false:=by rw [← ht'];simp [noW,c20]
    simp [-Int.natCast_add,-List.getD_eq_getElem?_getD,i1,im,hlt,li,h2,br,hb,hn,hn2,lop,c20,this]
   by_cases c22:o=22
   ·have:Zcf u l=false:=by rw [← ht'];simp [noW,c22]
    simp [-Int.natCast_add,-List.getD_eq_getElem?_getD,i1,im,hlt,li,h2,br,hb,hn,hn2,lop,c22,this]
   by_cases c23:o=23
   ·have:Zcf u l=false:=by rw [← ht'];simp [noW,c23]
    simp [-Int.natCast_add,-List.getD_eq_getElem?_getD,i1,im,hlt,li,h2,br,hb,hn,hn2,lop,c23,this]
   have hno:noW o=false:=by simp [noW,c19,c20,c22,c23]
   simp [-Int.natCast_add,-List.getD_eq_getElem?_getD,i1,im,hlt,li,h2,br,hb,hn,hn2,lop,c19,c20,c22,c23,wi]
   exact ih _ _ _ _ ⟨i+1,rfl,by omega,rfl,by rw [← ht',hno];rfl,rfl⟩ (by omega) (by repeat' constructor)
  ·have hb':Zc k (nv u)=false:=by simpa using hb
   have:Zcf u l=false:=by rw [← ht',hb'];rfl
   simp [-Int.natCast_add,-List.getD_eq_getElem?_getD,i1,im,hlt,li,h2,br,hb',this]
 have i1:¬ (i:Int) < l.length:=by omega
 rw [List.drop_of_length_le (by omega)] at ht
 have:Zcf u l=true:=by rw [← ht];rfl
 simp [-Int.natCast_add,i1,this]
end Go.Proofs.YtlogdohlcdhepaaDoor.base
end
section
set_option maxRecDepth 100000
namespace Go.Proofs.YtlogdohlcdhepaaDoor.base
open Go.Sh gen
variable {S:Zb2}{m:Mem}
def Yba (P:Program)(e bt:Nat)(l:List Value):Bool:=match P.info? e with
 | some i=>match i.zero with
  | some z=>Zbp z.cells && (z.cells.size == i.size) && (i.bytes == bt) && eqL z.cells.toList l
  | none=>false
 | none=>false
theorem Zls {P:Program}{e bt:Nat}{v:Value}(h:Yba P e bt [v]=true)(k:Nat)(hk:k * bt≤281474976710656):Zco P e k=some (List.replicate k v):=by
 unfold Yba at h
 unfold Zco
 cases hi:P.info? e with
 | none=>rw [hi] at h;cases h
 | some i =>
  rw [hi] at h
  dsimp only at h ⊢
  cases hz:i.zero with
  | none=>rw [hz] at h;cases h
  | some z =>
   rw [hz] at h
   dsimp only at h ⊢
   simp only [Bool.and_eq_true,beq_iff_eq] at h
   obtain⟨⟨⟨h1,h2⟩,h3⟩,h4⟩:=h
   rw [h1,h2,h3,Zmj _ _ h4]
   simp [hk]
theorem Zp6 (k:Nat)(hk:k≤1000000):Zco Tryd.prog 3 k=some (List.replicate k (Value.int .i64 0)):=Zls (bt:=8) (by kernel_rfl) k (by omega)
theorem Zvq (k:Nat)(hk:k≤1000000):Zco Tryd.prog 4 k=some (List.replicate k (Value.bool false)):=Zls (bt:=1) (by kernel_rfl) k (by omega)
abbrev Zbt (u:UnT.D)(at_:Nat):Zfk.D:=(show List Zfk.D from u.2.2.2.1).getD at_ (([]:List Int),(0:Int),(0:Int),([]:List Int),([]:List Int),(0:Int),())
theorem Zci {u:UnT.D}{i:Nat}(h:i < nb u):Zbt u i=u.2.2.2.1[i]:=by
 unfold Zbt
 rw [List.getD_eq_getElem?_getD,List.getElem?_eq_getElem h];rfl
abbrev Zbw (u:UnT.D)(vo bo so:Option Addr):List Value:=[.int .i64 u.1,.int .i64 u.2.1,.slice vo (nv u) (nv u),.slice bo (nb u) (nb u),.slice so (ns u) (ns u)]
abbrev stD (u:UnT.D)(st:Nat):List Zmw.D:=(show List StT.D from u.2.2.2.2.1).getD st (([]:List Zmw.D),()) |>.1
theorem Zhc {u:UnT.D}{i:Nat}(h:i < ns u):stD u i=(u.2.2.2.2.1[i]).1:=by
 unfold stD
 rw [List.getD_eq_getElem?_getD,List.getElem?_eq_getElem h];rfl
abbrev ints (l:List Int):List Value:=l.map (Value.int .i64)
abbrev Zm5 (l:List Bool):List Value:=l.map Value.bool
theorem Zqr (n:Nat):List.replicate n (Value.int .i64 0)=ints (List.replicate n 0):=by simp
theorem Zwk (n:Nat):List.replicate n (Value.bool false)=Zm5 (List.replicate n false):=by simp
theorem Zzx {l:List Int}{i:Nat}(v:Int)(h:i < l.length):Zbr (ints l) i [.int .i64 v]=ints (l.set i v):=by
 simp [Zbr,List.set_eq_take_append_cons_drop,h,List.map_take,List.map_drop]
theorem Zwo {l:List Bool}{i:Nat}(v:Bool)(h:i < l.length):Zbr (Zm5 l) i [.bool v]=Zm5 (l.set i v):=by
 simp [Zbr,List.set_eq_take_append_cons_drop,h,List.map_take,List.map_drop]
theorem Z1o {l:List Bool}{i:Nat}(h:i < l.length):(Zm5 l)[i]?=some (.bool (l.getD i false)):=by
 rw [List.getElem?_map,List.getElem?_eq_getElem h,List.getD_eq_getElem?_getD,List.getElem?_eq_getElem h];rfl
theorem Zay {m m1 m2:Mem}{fs gs:List Nat}(h:Zaa m m1 fs)(k:Zaa m1 m2 gs)(hg:∀ g:Nat,g < m.next→g∈gs→g∈fs):Zaa m m2 fs:=
 ⟨Nat.le_trans h.1 k.1,fun l bl hl hb hq hf=>k.2.1 l bl (Nat.lt_of_lt_of_le hl h.1) (h.2.1 l bl hl hb hq hf) (Nat.lt_of_lt_of_le hq h.1) (fun hx=>hf (hg _ hq hx)),fun f hl hf=>by rw [k.2.2.1 f (Nat.lt_of_lt_of_le hl h.1) (fun hx=>hf (hg _ hl hx)),h.2.2.1 f hl hf],fun f hl hf=>by rw [k.2.2.2 f (Nat.lt_of_lt_of_le hl h.1) (fun hx=>hf (hg _ hl hx)),h.2.2.2 f hl hf]⟩
theorem Zuc (n i:Nat)(a b:Int)(h:i < n):(List.replicate i b++List.replicate (n - i) a).set i b=List.replicate (i+1) b++List.replicate (n - (i+1)) a:=by
 rw [List.set_append_right _ _ (by simp)]
 simp only [List.length_replicate,Nat.sub_self]
 obtain⟨k,hk⟩:∃ k,n - i=k+1:=⟨n - i - 1,by omega⟩
 rw [hk,List.replicate_succ,List.set_cons_zero,List.replicate_succ',show n - (i+1)=k by omega]
 simp
theorem Zhx {b f:Nat}{l:List Int}(h:Own m b (ints l) 3 f){i:Nat}(hi:i < l.length)(v:Int) :
  ∃ m1,Zaf m ⟨b,i,none⟩ [.int .i64 v]=some m1∧Own m1 b (ints (l.set i v)) 3 f∧Zaa m m1 [f]:=by
 obtain⟨m1,e1,o1,k1⟩:=Zaj (r:=_) rfl h (off:=i) (vs:=[.int .i64 v]) (by simp;omega) (by simp [Zam])
 rw [Zzx v hi] at o1
 exact⟨m1,e1,o1,k1⟩
theorem Ztf {b f:Nat}{l:List Bool}(h:Own m b (Zm5 l) 4 f){i:Nat}(hi:i < l.length)(v:Bool) :
  ∃ m1,Zaf m ⟨b,i,none⟩ [.bool v]=some m1∧Own m1 b (Zm5 (l.set i v)) 4 f∧Zaa m m1 [f]:=by
 obtain⟨m1,e1,o1,k1⟩:=Zaj (r:=_) rfl h (off:=i) (vs:=[.bool v]) (by simp;omega) (by simp)
 rw [Zwo v hi] at o1
 exact⟨m1,e1,o1,k1⟩
end Go.Proofs.YtlogdohlcdhepaaDoor.base
end
section
set_option maxRecDepth 100000
namespace Go.Proofs.YtlogdohlcdhepaaDoor.base
open Go.Sh gen
variable {S:Zb2}{m:Mem}
abbrev ckC (u:UnT.D)(vo bo so:Option Addr)(r1 r2 r3:Value):List Value:=[.int .i64 u.1,.int .i64 u.2.1,.slice vo (nv u) (nv u),.slice bo (nb u) (nb u),.slice so (ns u) (ns u),r1,r2,r3]
def Zk9 (u:UnT.D)(f:Zmw.D):Bool:=!decide (40 < List.length f.2.2.1) && !decide (60 < List.length f.2.2.2.1) && Zcf u f.2.2.1 && Zcf u f.2.2.2.1
def Ze2 (u:UnT.D)(fs:List Zmw.D):Bool:=!decide (fs.length=0) && !decide (30 < fs.length) && fs.all (Zk9 u)
set_option maxHeartbeats 4000000 in
theorem Zx6 (hS:S 47=[])(hT:S 64=[])(hB:S 65=[]){Q:Nat→Prop}{u:UnT.D}{vo bo so:Option Addr}(hU:UAt Q m u vo bo so)(hnu:nv u≤1000000){cb cf:Nat}{r1 r2 r3:Value}(hC:Own m cb (ckC u vo bo so r1 r2 r3) 99 cf)
  {i:Nat} (hi:i < ns u) (hns:ns u≤1000000) {fs:List Zmw.D} (hfs:(u.2.2.2.2.1[i]).1=fs) (hfl:fs.length≤20000000000000) (hfi:∀ f∈fs,List.length f.2.2.1≤20000000000000∧List.length f.2.2.2.1≤20000000000000) :
  ∃ v m1,Zag Tryd.prog TT S 47 [.pointer (some ⟨cb,0,none⟩),.int .i64 (i:Int)] m=some (v,m1)∧v=.bool (Ze2 u fs)∧Zaa m m1 []:=by
 obtain⟨sb,fo,hso,lds,hfo⟩:=Zlk hU hi
 rw [hfs] at lds hfo
 have l4:=hC.load1 (off:=4) rfl
 rw [hso] at l4
 have s1:(i:Int) < ns u:=by omega
 have s2:(i:Int)≤9223372036854775807:=by omega
 have ld0:=lds m [] (Zaa.refl _ _) (by simp)
 obtain⟨oZ,kZ,nZ⟩:=Zat (m:=m) (cs:=[.slice none 0 0]) (e:=67) rfl
 obtain⟨bx,hbx⟩:∃ bx,m.next=bx:=⟨_,rfl⟩
 obtain⟨m3,e3,oX,kX⟩:=Zaj (r:=_) rfl oZ (off:=0) (vs:=[.slice fo fs.length fs.length]) (by simp) (by simp [Zad])
 simp [Zbr] at oX
 have k3:=kZ.fresh kX (by simp)
 rw [hbx] at oX nZ e3
 have x0:=oX.load1 (off:=0) rfl
 refine Zfi 30 [30,56] k47 hS rfl ?_
 simp [-Int.natCast_add,-w47_2,l4,s2,hi,ld0,hbx,e3]
 by_cases z0:fs.length=0
 ·have z1:fs=[]:=List.length_eq_zero_iff.1 z0
  have:Ze2 u fs=false:=by rw [z1];rfl
  rw [this]
  simp [-Int.natCast_add,x0,z1]
  exact k3
 have z1:¬ fs=[]:=fun e=>z0 (by rw [e];rfl)
 by_cases z2:30 < fs.length
 ·have z3:(30:Int) < fs.length:=by omega
  have:Ze2 u fs=false:=by simp [Ze2,z2]
  rw [this]
  simp [-Int.natCast_add,x0,z0,z3]
  exact k3
 have z3:¬ (30:Int) < fs.length:=by omega
 simp [-Int.natCast_add,x0,z0,z3]
 have hfo3:=hfo.keep k3 (by simp)
 refine Zai 30 [30,56] (fun d E mF=>∃ (j:Nat),fs.length - j=d∧j≤fs.length∧(fs.drop j).all (Zk9 u)=fs.all (Zk9 u)∧Zaa m3 mF []∧
  E=[(0,.pointer (some ⟨cb,0,none⟩)),(27,.slice fo fs.length fs.length),(28,.int .i64 fs.length),(29,.int .i64 (j:Int))]) _ ⟨_,⟨0,rfl,by omega,by rw [List.drop_zero],.refl _ _,rfl⟩,(by repeat' constructor)⟩ ?_
 rintro d E mF ih ⟨j,hd,hj,ha,kF,rfl⟩
 have jm:(j:Int)≤9223372036854775807:=by omega
 have eS:Ze2 u fs=fs.all (Zk9 u):=by simp [Ze2,z1,z2]
 by_cases hlt:j < fs.length
 ·have j1:(j:Int) < fs.length:=by omega
  have wj:IntKind.i64.wrap ((j:Int)+1)=((j+1:Nat):Int):=by rw [Zab (by omega) (by omega)];omega
  obtain⟨fb,la,sa,hfb,ldf,hla,hsa⟩:=Zlo (hfo3.keep kF (by simp)) hlt
  have hmm:=hfi _ (List.getElem_mem hlt)
  rw [List.drop_eq_getElem_cons hlt,List.all_cons] at ha
  rw [hfb] at ih ⊢
  generalize fs[j]=F at *
  obtain⟨oY,kY,nY⟩:=Zat (m:=mF) (cs:=[.int .i64 0,.int .i64 0,.slice none 0 0,.slice none 0 0]) (e:=64) rfl
  obtain⟨zb,hzb⟩:∃ zb,mF.next=zb:=⟨_,rfl⟩
  obtain⟨mG,eG,oG,kG'⟩:=Zaj (r:=_) rfl oY (off:=0) (vs:=frC F la sa) (by simp) (by simp [Zam,Zad])
  simp [Zbr] at oG
  have kG:=kY.fresh kG' (by simp)
  rw [hzb] at oG nY eG
  have K3:Zaa m mG []:=(k3.trans kF).trans kG
  have g2:=oG.load1 (off:=2) rfl
  have g3:=oG.load1 (off:=3) rfl
  have hCG:=(hC.keep K3 (by simp)).load1 (off:=2) rfl
  have t1:=Zjs hT hB (hU.keep K3 (by simp)) hnu hCG hmm.1 (hla.keep kG (by simp))
  have t2:=Zjs hT hB (hU.keep K3 (by simp)) hnu hCG hmm.2 (hsa.keep kG (by simp))
  obtain⟨n1,hn1⟩:∃ n1:Nat,List.length F.2.2.1=n1:=⟨_,rfl⟩
  obtain⟨n2,hn2⟩:∃ n2:Nat,List.length F.2.2.2.1=n2:=⟨_,rfl⟩
  obtain⟨b1,hb1⟩:∃ b1,Zcf u F.2.2.1=b1:=⟨_,rfl⟩
  obtain⟨b2,hb2⟩:∃ b2,Zcf u F.2.2.2.1=b2:=⟨_,rfl⟩
  have eF:Zk9 u F=(!decide (40 < n1) && !decide (60 < n2) && b1 && b2):=by unfold Zk9;rw [hn1,hn2,hb1,hb2]
  rw [hb1] at t1
  rw [hb2] at t2
  rw [eF] at ha
  unfold frC at eG g2 g3 ldf
  rw [hn1] at t1 g2
  rw [hn2] at t2 g3
  rw [hn1,hn2] at ldf eG
  by_cases q1:40 < n1
  ·have q1':(40:Int) < n1:=by omega
   have:Ze2 u fs=false:=by rw [eS,← ha];simp [q1]
   rw [this]
   simp [-Int.natCast_add,j1,jm,hlt,ldf,hzb,eG,g2,q1']
   exact K3
  have q1':¬ (40:Int) < n1:=by omega
  by_cases q2:60 < n2
  ·have q2':(60:Int) < n2:=by omega
   have:Ze2 u fs=false:=by rw [eS,← ha];simp [q2]
   rw [this]
   simp [-Int.natCast_add,j1,jm,hlt,ldf,hzb,eG,g2,g3,q1',q2']
   exact K3
  have q2':¬ (60:Int) < n2:=by omega
  cases b1
  ·have:Ze2 u fs=false:=by rw [eS,← ha];simp
   rw [this]
   simp [-Int.natCast_add,j1,jm,hlt,ldf,hzb,eG,g2,g3,q1',q2',t1]
   exact K3
  cases b2
  ·have:Ze2 u fs=false:=by rw [eS,← ha];simp
   rw [this]
   simp [-Int.natCast_add,j1,jm,hlt,ldf,hzb,eG,g2,g3,q1',q2',t1,t2]
   exact K3
  simp [-Int.natCast_add,j1,jm,hlt,ldf,hzb,eG,g2,g3,q1',q2',t1,t2,wj]
  exact ih _ _ _ _ ⟨j+1,rfl,by omega,by rw [← ha];simp [q1,q2],kF.trans kG,rfl⟩ (by omega) (by repeat' constructor)
 have j1:¬ (j:Int) < fs.length:=by omega
 rw [List.drop_of_length_le (by omega)] at ha
 have:Ze2 u fs=true:=by rw [eS,← ha];rfl
 rw [this]
 simp [-Int.natCast_add,j1]
 exact k3.trans kF
end Go.Proofs.YtlogdohlcdhepaaDoor.base
end
section
set_option maxRecDepth 100000
namespace Go.Proofs.YtlogdohlcdhepaaDoor.base
open Go.Sh gen
variable {S:Zb2}{m:Mem}
def Zfd (p:Nat→Bool)(i:Nat):Nat→Bool
 | 0=>true
 | d+1=>p i && Zfd p (i+1) d
set_option maxHeartbeats 4000000 in
theorem Zl8 (hS:S 46=[]){g cb:Nat}{n:Nat}(hn:n≤1000000)(p:Nat→Bool)
  (h:∀ (i:Nat) (mF:Mem),i < n→Zaa m mF []→∃ mG,Zag Tryd.prog TT S g [.pointer (some ⟨cb,0,none⟩),.int .i64 (i:Int)] mF=some (.bool (p i),mG)∧Zaa mF mG []) :
  ∃ v m1,Zag Tryd.prog TT S 46 [.pointer (some ⟨cb,0,none⟩),.int .i64 (n:Int),.func (.func g) #[.pointer (some ⟨cb,0,none⟩)] #[]] m=some (v,m1)∧v=.bool (Zfd p 0 n)∧Zaa m m1 []:=by
 refine Zfi 8 [10,16] k46 hS rfl ?_
 simp [-Int.natCast_add]
 refine Zai 8 [10,16] (fun d E mF=>∃ (i:Nat),n - i=d∧i≤n∧Zfd p i (n - i)=Zfd p 0 n∧Zaa m mF []∧
  E=[(1,.int .i64 (n:Int)),(2,.func (.func g) #[.pointer (some ⟨cb,0,none⟩)] #[]),(7,.int .i64 (i:Int))]) _ ⟨_,⟨0,rfl,by omega,rfl,.refl _ _,rfl⟩,⟨by rfl,by rfl,by rfl,trivial⟩⟩ ?_
 rintro d E mF ih ⟨i,hd,hi,ha,kF,rfl⟩
 have im:(i:Int)≤9223372036854775807:=by omega
 by_cases hlt:i < n
 ·have i1:(i:Int) < n:=by omega
  have wi:IntKind.i64.wrap ((i:Int)+1)=((i+1:Nat):Int):=by rw [Zab (by omega) (by omega)];omega
  obtain⟨mG,c,kG⟩:=h i mF hlt kF
  obtain⟨e,he⟩:∃ e,n - i=e+1:=⟨n - i - 1,by omega⟩
  have he2:n - (i+1)=e:=by omega
  rw [he,Zfd] at ha
  cases hp:p i
  ·rw [hp] at ha c
   have:Zfd p 0 n=false:=by rw [← ha];rfl
   rw [this]
   simp [-Int.natCast_add,i1,c]
   exact kF.trans kG
  ·rw [hp] at ha c
   simp [-Int.natCast_add,i1,c,wi]
   exact ih _ _ _ _ ⟨i+1,rfl,by omega,by rw [he2,← ha];rfl,kF.trans kG,rfl⟩ (by omega) ⟨by rfl,by rfl,by rfl,trivial⟩
 have i1:¬ (i:Int) < n:=by omega
 rw [show n - i=0 by omega] at ha
 have:Zfd p 0 n=true:=by rw [← ha];rfl
 rw [this]
 simp [-Int.natCast_add,i1]
 exact kF
end Go.Proofs.YtlogdohlcdhepaaDoor.base
end
