/- This text proves the law VerifyCodes: its program stands in memory, and both Verifies say the same of it. Condition: nothing is known of the calls ahead ('S f = []') but code.Name's names. -/
import Derived.Test.YtbldiceiindbdaaGreatDoorVrH
set_option linter.unusedVariables false
set_option linter.unusedSimpArgs false
set_option maxRecDepth 100000
namespace Go.Proofs.YtbldiceiindbdaaGreatDoor.base
open Go.Sh gen
variable {S:Zed}{m:Mem}{p:Pr}{q:Pp}
theorem Z0e {l:List Ix}{i:Nat}(h:i < l.length){k:Nat}(hk:k < 3):(ixv l)[i * 3+k]?=(ixl l[i])[k]?:=by
 rw [← Zxh h];simp [Zb,List.getElem?_take,hk,List.getElem?_drop]
theorem Zx9 (hS:S 8=[])(x k:Int)(hk:k≠0):∃ y:Int,∀ m',Zbi Tryz.prog TT S 8 [.int .i64 x,.int .i64 k] m'=some (.int .i64 y,m'):=by
 by_cases h:x.tmod k < 0
 ·refine⟨IntKind.i64.wrap (x.tmod k+k),fun m'=>Zgh 5 [9] k8 hS rfl ?_⟩
  simp [-BitVec.toNat_or,-BitVec.toNat_ofInt,-BitVec.toNat_and,id,hk,h]
 ·refine⟨x.tmod k,fun m'=>Zgh 5 [9] k8 hS rfl ?_⟩
  simp [-BitVec.toNat_or,-BitVec.toNat_ofInt,-BitVec.toNat_and,id,hk,h]
theorem Z2l:∀ x∈Zf9,Zb0.wf x:=by
 intro x hx
 simp only [Zf9,List.mem_append] at hx
 rcases hx with hx | hx
 ·exact Zlp x hx
 ·have g:∀ l:List Zdz.D,l=[]→l.length≤9223372036854775807∧∀ y∈l,Zdz.wf y:=by rintro _ rfl;simp
  have e:∀ l:List Ze8.D,l=[]→l.length≤9223372036854775807∧∀ y∈l,Ze8.wf y:=by rintro _ rfl;simp
  simp only [List.mem_cons,List.not_mem_nil,or_false] at hx
  have hme:∀ k:Int,k=1∨k=-1→Zdz.wf ([109],[],1,k,()):=fun k hk=>⟨by simp [Ty.wf],⟨by simp,fun y hy=>by simp at hy⟩,Zhw (by simp only;omega),Zhw (by simp only;omega),trivial⟩
  rcases hx with rfl | rfl | rfl
  ·refine⟨Zhw (by simp only [tP];omega),by simp [Ty.wf,tP],Zhw (by simp only [tP];omega),⟨by simp [tP],fun y hy=>?_⟩,⟨by simp [tP],fun y hy=>?_⟩,trivial⟩
   ·rcases List.mem_cons.1 hy with rfl | hy
    ·exact⟨by simp [Ty.wf],Zhw (by simp only;omega),trivial⟩
    ·rw [List.mem_singleton.1 hy]
     exact⟨by simp [Ty.wf],Zhw (by simp only;omega),trivial⟩
   ·rw [List.mem_singleton.1 hy];exact hme 1 (Or.inl rfl)
  ·exact⟨Zhw (by simp only [tS];omega),by simp [Ty.wf,tS],Zhw (by simp only [tS];omega),e _ rfl,g _ rfl,trivial⟩
  ·refine⟨Zhw (by simp only [tI];omega),by simp [Ty.wf,tI],Zhw (by simp only [tI];omega),e _ rfl,⟨by simp [tI],fun y hy=>?_⟩,trivial⟩
   rw [List.mem_singleton.1 hy];exact hme (-1) (Or.inr rfl)
def rP (fo g1:Nat):List Value:=[.int .i64 5,.string ⟨#[80]⟩,.int .i64 0,.slice (some ⟨fo,0,none⟩) 2 2,.slice (some ⟨g1,0,none⟩) 1 1]
def rS:List Value:=[.int .i64 6,.string ⟨#[]⟩,.int .i64 1,.slice none 0 0,.slice none 0 0]
def rI (g2:Nat):List Value:=[.int .i64 7,.string ⟨#[73]⟩,.int .i64 0,.slice none 0 0,.slice (some ⟨g2,0,none⟩) 1 1]
theorem Zt (k:Int):∀ (i:Nat) d c,([([109],[],1,k,())]:List Zdz.D)[i]?=some d→([[.string ⟨#[109]⟩,.slice none 0 0,.int .i64 1,.int .i64 k]]:List (List Value))[i]?=some c→AtQ (fun _=>True) m Zdz d c:=by
 intro i d c hd hc
 match i with
 | 0 =>
  simp at hd hc
  subst hd hc
  exact⟨[_],_,rfl,rfl,[_],_,rfl,⟨none,[],0,rfl,rfl,by simp,⟨by simp,Or.inl ⟨rfl,.nil⟩⟩,by simp⟩,[_],_,rfl,rfl,[_],_,rfl,rfl,rfl⟩
 | i+1=>simp at hd
theorem Z3a {b fo g1 g2 fam:Nat}(o:Own m b (Zgi.flatten++(rP fo g1++(rS++rI g2))) 33 fam)(of:Own m fo [.string ⟨#[120]⟩,.int .i64 1,.string ⟨#[110]⟩,.int .i64 5] 27 fo)(o1:Own m g1 [.string ⟨#[109]⟩,.slice none 0 0,.int .i64 1,.int .i64 1] 30 g1)(o2:Own m g2 [.string ⟨#[109]⟩,.slice none 0 0,.int .i64 1,.int .i64 (-1)] 30 g2):Tb m (some ⟨b,0,none⟩) Zf9:=by
 refine⟨⟨Zgi++[rP fo g1,rS,rI g2],fam,rfl,fun i d c hd hc=>?_,⟨by simp [Zf9,Zcs,Zgi,tyC,rP,rS,rI],Or.inr ⟨b,rfl,by simpa using o.rdo⟩⟩⟩,by simp [Zf9,Zcs],Z2l⟩
 by_cases h5:i < 5
 ·rw [Zf9,List.getElem?_append_left (by simpa [Zcs] using h5)] at hd
  rw [List.getElem?_append_left (by simpa [Zgi] using h5)] at hc
  exact (Zlo (fun _=>True) m i d c hd hc).at_
 ·have hi:i < Zf9.length:=(List.getElem?_eq_some_iff.1 hd).1
  have h8:i < 8:=by simpa [Zf9,Zcs] using hi
  rcases (by omega:i=5∨i=6∨i=7) with rfl | rfl | rfl
  ·cases (show some tP=some d from hd)
   cases (show some (rP fo g1)=some c from hc)
   exact (Zr3 (Q:=fun _=>True) (FL:=[([120],1,()),([110],5,())]) (ML:=[([109],[],1,1,())]) (mcs:=[[.string ⟨#[109]⟩,.slice none 0 0,.int .i64 1,.int .i64 1]]) (ff:=fo) (gf:=g1) ⟨by simp [Zkm],Or.inr ⟨fo,rfl,by simpa [Zkm] using of.rdo⟩⟩ (fun _=>trivial) rfl (Zt 1) ⟨by simp,Or.inr ⟨g1,rfl,by simpa using o1.rdo⟩⟩ (fun _=>trivial)).at_
  ·cases (show some tS=some d from hd)
   cases (show some rS=some c from hc)
   exact (Zr3 (Q:=fun _=>True) (FL:=[]) (ML:=[]) (mcs:=[]) (fO:=none) (gO:=none) (ff:=0) (gf:=0) ⟨by simp,Or.inl ⟨rfl,.nil⟩⟩ (fun _=>trivial) rfl (fun i d c h=>by simp at h) ⟨by simp,Or.inl ⟨rfl,.nil⟩⟩ (fun _=>trivial)).at_
  ·cases (show some tI=some d from hd)
   cases (show some (rI g2)=some c from hc)
   exact (Zr3 (Q:=fun _=>True) (FL:=[]) (ML:=[([109],[],1,-1,())]) (mcs:=[[.string ⟨#[109]⟩,.slice none 0 0,.int .i64 1,.int .i64 (-1)]]) (fO:=none) (ff:=0) (gf:=g2) ⟨by simp,Or.inl ⟨rfl,.nil⟩⟩ (fun _=>trivial) rfl (Zt (-1)) ⟨by simp,Or.inr ⟨g2,rfl,by simpa using o2.rdo⟩⟩ (fun _=>trivial)).at_
structure Nx (S:Zed):Prop where
 d:Nd S
 v:Nv S
 f:Nf S
 one:S 18=[]
 ver:S 10=[]
 known:S 9=[]
 pick:S 8=[]
 law:S 3=[]
set_option maxHeartbeats 4000000 in
theorem Zu4 (hN:Nx S){l:List Ix}{ao:Option Addr}{lf:Nat}(hl:Rs m ao l.length (ixv l) 40 3 lf)(hll:l.length≤9223372036854775807){res:Int}{loc:List Int}{lo:Option Addr}{of:Nat}(hlo:Rs m lo loc.length (ic loc) 3 1 of)(hol:loc.length≤9223372036854775807) :
  ∃ v m',Zbi Tryz.prog TT S 3 [.slice ao l.length l.length,.int .i64 res,.slice lo loc.length loc.length] m=some (v,m')∧v=.bool true:=by
 obtain⟨_,mB,hBr,bb,rfl,ob,hbb,kB⟩:=Zn7 (m:=m) hN.f.base1
 obtain⟨o1,kz1,n1⟩:=Za7 (m:=mB) (cs:=[.string ⟨#[120]⟩,.int .i64 1,.string ⟨#[110]⟩,.int .i64 5]) (e:=27) rfl
 obtain⟨fo,hfo⟩:∃ z,Mem.next mB=z:=⟨_,rfl⟩
 rw [hfo] at o1 n1
 obtain⟨m1,hm1⟩:∃ z,Mem.new mB [.string ⟨#[120]⟩,.int .i64 1,.string ⟨#[110]⟩,.int .i64 5] 27=z:=⟨_,rfl⟩
 rw [hm1] at o1 kz1 n1
 obtain⟨o2,kz2,n2⟩:=Za7 (m:=m1) (cs:=[.string ⟨#[109]⟩,.slice none 0 0,.int .i64 1,.int .i64 1]) (e:=30) rfl
 obtain⟨g1,hg1⟩:∃ z,Mem.next m1=z:=⟨_,rfl⟩
 rw [hg1] at o2 n2
 obtain⟨m2,hm2⟩:∃ z,Mem.new m1 [.string ⟨#[109]⟩,.slice none 0 0,.int .i64 1,.int .i64 1] 30=z:=⟨_,rfl⟩
 rw [hm2] at o2 kz2 n2
 obtain⟨o3,kz3,n3⟩:=Za7 (m:=m2) (cs:=[.string ⟨#[109]⟩,.slice none 0 0,.int .i64 1,.int .i64 (-1)]) (e:=30) rfl
 obtain⟨g2,hg2⟩:∃ z,Mem.next m2=z:=⟨_,rfl⟩
 rw [hg2] at o3 n3
 obtain⟨m3,hm3⟩:∃ z,Mem.new m2 [.string ⟨#[109]⟩,.slice none 0 0,.int .i64 1,.int .i64 (-1)] 30=z:=⟨_,rfl⟩
 rw [hm3] at o3 kz3 n3
 obtain⟨o4,kz4,n4⟩:=Za7 (m:=m3) (cs:=[.int .i64 5,.string ⟨#[80]⟩,.int .i64 0,.slice (some ⟨fo,0,none⟩) 2 2,.slice (some ⟨g1,0,none⟩) 1 1,.int .i64 6,.string ⟨#[]⟩,.int .i64 1,.slice none 0 0,.slice none 0 0,.int .i64 7,.string ⟨#[73]⟩,.int .i64 0,.slice none 0 0,.slice (some ⟨g2,0,none⟩) 1 1]) (e:=33) rfl
 obtain⟨tx,htx⟩:∃ z,Mem.next m3=z:=⟨_,rfl⟩
 rw [htx] at o4 n4
 obtain⟨m4,hm4⟩:∃ z,Mem.new m3 [.int .i64 5,.string ⟨#[80]⟩,.int .i64 0,.slice (some ⟨fo,0,none⟩) 2 2,.slice (some ⟨g1,0,none⟩) 1 1,.int .i64 6,.string ⟨#[]⟩,.int .i64 1,.slice none 0 0,.slice none 0 0,.int .i64 7,.string ⟨#[73]⟩,.int .i64 0,.slice none 0 0,.slice (some ⟨g2,0,none⟩) 1 1] 33=z:=⟨_,rfl⟩
 rw [hm4] at o4 kz4 n4
 have lg:=o4.load (off:=0) 15 (by simp)
 simp [Zb] at lg
 have pk4:=fun m'=>Zkg (m:=m') hN.pick res 4 (by omega) (by omega)
 obtain⟨r4,hr4⟩:∃ r:Nat,res % 4=r:=⟨(res % 4).toNat,by omega⟩
 have hr4l:r4 < 4:=by omega
 rw [hr4] at pk4
 refine Zey 79 [79,92,96,96,123] k3 hN.law rfl ?_
 simp [-Int.natCast_add,-BitVec.toNat_or,-BitVec.toNat_ofInt,-BitVec.toNat_and,Zai Zjd,Zad u28 Zjm rfl,Zai Zhz,Zad u31 Zj rfl,Zai Zhv,Zad u24 Ziw rfl,Zax u24 Zbn,Zbc u34 sz3 Zjf,Zbb u34 sz3,Zct ld3,Zai Zis,Zag Zb4,Zaf Za5,Zac u23,Za Zat,Zab Zbe,Zbc u38 sz3 Zjc,Zaa u23 sz3,Zab ld3,Zbb u38 sz3,Zad u23 bs3 rfl,Zax u23 sz3,Zaf Ze2,Zac u22,Zaa u22 Zb8,Za Zak,Za Zal,Zai Zh3,Zag Zem,Zaf Zb8,Zaf sz3,Za Za0,Za Zbl,Zab Zde,Zae Zcb,Zad u22 Zh4 rfl,Zax u22 Zb8,Zaf Zi8,Za Zaz,Zae Zby,Zad u41 Ziv rfl,Zad u42 bs9 rfl,Zad u43 bs2 rfl,Zai Zix,Zag Zir,Zaf Ziy,Zae Zbx,hBr,hfo,hm1,hg1,hm2,hg2,hm3,htx,hm4,lg]
 generalize hra:Zcd _ _ _ _ _ _=ra
 obtain⟨m5,b8,rfl,o5,kz5⟩:=Zfm hra u24 Z7n (((((ob.keep kz1 (by simp)).keep kz2 (by simp)).keep kz3 (by simp)).keep kz4 (by simp))) (by simp [Zgi,tyC]) (by simp) (by simp [Zbk,Zco,Zbp]) (by omega) (by omega)
 obtain⟨rv,hrv,hrc⟩:∃ rv:Int,([.int .i64 0,.int .i64 1,.int .i64 3,.int .i64 5]:List Value)[r4]?=some (.int .i64 rv)∧(rv=0∨rv=1∨rv=3∨rv=5):=by
  rcases (by omega:r4=0∨r4=1∨r4=2∨r4=3) with rfl | rfl | rfl | rfl
  ·exact⟨0,rfl,by omega⟩
  ·exact⟨1,rfl,by omega⟩
  ·exact⟨3,rfl,by omega⟩
  ·exact⟨5,rfl,by omega⟩
 have hrv2:∀ h,([.int .i64 0,.int .i64 1,.int .i64 3,.int .i64 5]:List Value)[r4]'h=.int .i64 rv:=fun h=>by rw [List.getElem?_eq_getElem h] at hrv;exact Option.some.inj hrv
 have er4:(r4:Int)≤9223372036854775807:=by omega
 have kB4:Zao mB m4 []:=((kz1.trans kz2).trans kz3).trans kz4
 have hbf:bb < fo:=by have:=ob.flt;omega
 have oFL:=(((o1.keep kz2 (by simp)).keep kz3 (by simp)).keep kz4 (by simp)).keep kz5 (by simp;omega)
 have oM1:=((o2.keep kz3 (by simp)).keep kz4 (by simp)).keep kz5 (by simp;omega)
 have oM2:=(o3.keep kz4 (by simp)).keep kz5 (by simp;omega)
 have hbm:m.next≤mB.next:=kB.1
 have km5:Zao m m5 []:=(kB.trans kB4).fresh kz5 (by simp;omega)
 obtain⟨o6,kz6,n6⟩:=Za7 (m:=m5) (cs:=[.string ⟨#[]⟩,.slice none 0 0,.int .i64 0,.slice none 0 0,.slice none 0 0]) (e:=37) rfl
 obtain⟨gb,hgb⟩:∃ z,Mem.next m5=z:=⟨_,rfl⟩
 rw [hgb] at o6 n6
 obtain⟨m6,hm6⟩:∃ z,Mem.new m5 [.string ⟨#[]⟩,.slice none 0 0,.int .i64 0,.slice none 0 0,.slice none 0 0] 37=z:=⟨_,rfl⟩
 rw [hm6] at o6 kz6 n6
 simp [-Int.natCast_add,-BitVec.toNat_or,-BitVec.toNat_ofInt,-BitVec.toNat_and,Zai Zjd,Zad u28 Zjm rfl,Zai Zhz,Zad u31 Zj rfl,Zai Zhv,Zad u24 Ziw rfl,Zax u24 Zbn,Zbc u34 sz3 Zjf,Zbb u34 sz3,Zct ld3,Zai Zis,Zag Zb4,Zaf Za5,Zac u23,Za Zat,Zab Zbe,Zbc u38 sz3 Zjc,Zaa u23 sz3,Zab ld3,Zbb u38 sz3,Zad u23 bs3 rfl,Zax u23 sz3,Zaf Ze2,Zac u22,Zaa u22 Zb8,Za Zak,Za Zal,Zai Zh3,Zag Zem,Zaf Zb8,Zaf sz3,Za Za0,Za Zbl,Zab Zde,Zae Zcb,Zad u22 Zh4 rfl,Zax u22 Zb8,Zaf Zi8,Za Zaz,Zae Zby,Zad u41 Ziv rfl,Zad u42 bs9 rfl,Zad u43 bs2 rfl,Zai Zix,Zag Zir,Zaf Ziy,Zae Zbx,pk4,er4,hr4l,hrv,hrv2,hgb,hm6]
 generalize hrf:Za8 _ _ _=rf
 obtain⟨m7,rfl,o7,kz7⟩:=Za4 hrf o6 (by simp) (by simp [Zbk,Zco,Zbp])
 simp [Zdh] at o7
 have k57:Zao m5 m7 []:=kz6.fresh kz7 (by simp;omega)
 simp [-Int.natCast_add,-BitVec.toNat_or,-BitVec.toNat_ofInt,-BitVec.toNat_and,Zai Zjd,Zad u28 Zjm rfl,Zai Zhz,Zad u31 Zj rfl,Zai Zhv,Zad u24 Ziw rfl,Zax u24 Zbn,Zbc u34 sz3 Zjf,Zbb u34 sz3,Zct ld3,Zai Zis,Zag Zb4,Zaf Za5,Zac u23,Za Zat,Zab Zbe,Zbc u38 sz3 Zjc,Zaa u23 sz3,Zab ld3,Zbb u38 sz3,Zad u23 bs3 rfl,Zax u23 sz3,Zaf Ze2,Zac u22,Zaa u22 Zb8,Za Zak,Za Zal,Zai Zh3,Zag Zem,Zaf Zb8,Zaf sz3,Za Za0,Za Zbl,Zab Zde,Zae Zcb,Zad u22 Zh4 rfl,Zax u22 Zb8,Zaf Zi8,Za Zaz,Zae Zby,Zad u41 Ziv rfl,Zad u42 bs9 rfl,Zad u43 bs2 rfl,Zai Zix,Zag Zir,Zaf Ziy,Zae Zbx]
 have hTB:Tb m5 (some ⟨b8,0,none⟩) Zf9:=Z3a (by simpa [rP,rS,rI] using o5) oFL oM1 oM2
 clear hra hrf o1 o2 o3 o4 lg hBr oFL oM1 oM2
 refine Zbg 79 [79,92,96,96,123] (fun d E mC=>∃ (i:Nat) (ls:List Int) (a3:Option Addr) (f3:Nat),loc.length - i=d∧i≤loc.length∧i≤5∧ls.length=i∧(∀ t∈ls,t=1∨t=2∨t=3∨t=5∨t=6∨t=7)∧Zao m5 mC []∧Own mC gb [.string ⟨#[102]⟩,.slice none 0 0,.int .i64 rv,.slice a3 i i,.slice none 0 0] 37 gb∧Sl mC a3 i (ic ls) 3 1 f3∧(a3≠none→m5.next≤f3∧f3≠gb)∧E=[(0,.slice ao l.length l.length),(2,.slice lo loc.length loc.length),(7,.slice (some ⟨b8,0,none⟩) 8 8),(8,.pointer (some ⟨gb,0,none⟩)),(9,.int .i64 i)]) _ ⟨_,⟨0,[],none,0,rfl,by omega,by omega,rfl,fun t ht=>by simp at ht,k57,o7,Sl.nil _ _ _ _,fun h=>absurd rfl h,rfl⟩,⟨by rfl,by rfl,by rfl,by rfl,by rfl,trivial⟩⟩ ?_
 rintro d E mC ih ⟨i,ls,a3,f3,hd,hi,hi5,hlsl,hlsv,kC,oG,sL,hf3,rfl⟩
 by_cases hlt:i < loc.length∧i < 5
 case pos =>
  have i1:(i:Int) < loc.length:=by omega
  have i5:(i:Int) < 5:=by omega
  have i5n:i < 5:=hlt.2
  have iln:i < loc.length:=hlt.1
  have em:(i:Int)≤9223372036854775807:=by omega
  have wi:IntKind.i64.wrap ((i:Int)+1)=((i+1:Nat):Int):=by rw [Zbh (by omega) (by omega)];omega
  have km:Zao m mC []:=km5.trans kC
  obtain⟨lb,hlb,hr⟩:=(hlo.keep km (by simp)).rdo (by omega)
  have ltf:∀ m',Zao mC m' []→loadRow m' ⟨lb,i,none⟩ 1=some [.int .i64 loc[i]]:=fun m' k=>(hr.keep k (by simp)).load1 (by simp [ic,iln])
  obtain⟨x,hx⟩:∃ x,loc[i]=x:=⟨_,rfl⟩
  rw [hx] at ltf
  have pk6:=fun m'=>Zkg (m:=m') hN.pick x 6 (by omega) (by omega)
  obtain⟨r6,hr6⟩:∃ r:Nat,x % 6=r:=⟨(x % 6).toNat,by omega⟩
  have hr6l:r6 < 6:=by omega
  have er6:(r6:Int)≤9223372036854775807:=by omega
  obtain⟨tv,htv,htc⟩:∃ rv:Int,([.int .i64 1,.int .i64 2,.int .i64 3,.int .i64 5,.int .i64 6,.int .i64 7]:List Value)[r6]?=some (.int .i64 rv)∧(rv=1∨rv=2∨rv=3∨rv=5∨rv=6∨rv=7):=by
   rcases (by omega:r6=0∨r6=1∨r6=2∨r6=3∨r6=4∨r6=5) with rfl | rfl | rfl | rfl | rfl | rfl
   ·exact⟨1,rfl,by omega⟩
   ·exact⟨2,rfl,by omega⟩
   ·exact⟨3,rfl,by omega⟩
   ·exact⟨5,rfl,by omega⟩
   ·exact⟨6,rfl,by omega⟩
   ·exact⟨7,rfl,by omega⟩
  have htv2:∀ h,([.int .i64 1,.int .i64 2,.int .i64 3,.int .i64 5,.int .i64 6,.int .i64 7]:List Value)[r6]'h=.int .i64 tv:=fun h=>by rw [List.getElem?_eq_getElem h] at htv;exact Option.some.inj htv
  rw [hr6] at pk6
  have y3:=oG.load1 (off:=3) rfl
  obtain⟨oz,kzz,nzz⟩:=Za7 (m:=mC) (cs:=[.int .i64 tv]) (e:=3) rfl
  obtain⟨zb,hzb⟩:∃ z,mC.next=z:=⟨_,rfl⟩
  rw [hzb] at oz nzz
  obtain⟨mZ,hmZ⟩:∃ z,mC.new [.int .i64 tv] 3=z:=⟨_,rfl⟩
  rw [hmZ] at oz kzz nzz
  have lz:=oz.load1 (off:=0) rfl
  have y3Z:=(oG.keep kzz (by simp)).load1 (off:=3) rfl
  have lt0:=ltf _ (Zaj _)
  have ltZ:=ltf _ kzz
  have hmC:m5.next≤mC.next:=kC.1
  simp [-Int.natCast_add,-BitVec.toNat_or,-BitVec.toNat_ofInt,-BitVec.toNat_and,Zai Zjd,Zad u28 Zjm rfl,Zai Zhz,Zad u31 Zj rfl,Zai Zhv,Zad u24 Ziw rfl,Zax u24 Zbn,Zbc u34 sz3 Zjf,Zbb u34 sz3,Zct ld3,Zai Zis,Zag Zb4,Zaf Za5,Zac u23,Za Zat,Zab Zbe,Zbc u38 sz3 Zjc,Zaa u23 sz3,Zab ld3,Zbb u38 sz3,Zad u23 bs3 rfl,Zax u23 sz3,Zaf Ze2,Zac u22,Zaa u22 Zb8,Za Zak,Za Zal,Zai Zh3,Zag Zem,Zaf Zb8,Zaf sz3,Za Za0,Za Zbl,Zab Zde,Zae Zcb,Zad u22 Zh4 rfl,Zax u22 Zb8,Zaf Zi8,Za Zaz,Zae Zby,Zad u41 Ziv rfl,Zad u42 bs9 rfl,Zad u43 bs2 rfl,Zai Zix,Zag Zir,Zaf Ziy,Zae Zbx,Zgn,Zgk,i1,i5,i5n,iln,y3,hlb,em,lt0,pk6,er6,hr6l,htv,htv2,hzb,hmZ,lz]
  generalize hrb:Zcd _ _ _ _ _ _=rb
  rw [← hmZ] at hrb
  obtain⟨mA,b9,f9,rfl,o9,kA,c1,c2,c3⟩:=Zkt hrb u23 ap3 sL (by omega) (by simp) (by simp [Zbk]) (by omega) (by omega)
  have hgbC:gb < mC.next:=oG.flt
  have hgo:gb∉(if a3=none then [] else [f3]):=by
   split
   ·simp
   ·rename_i hn;have:=(hf3 hn).2;simp;omega
  have oGA:=oG.keep kA hgo
  have hofm:of < m.next:=by
   obtain⟨_,_,hr0⟩:=hlo.rdo (by omega)
   exact hr0.flt
  have hm5:m.next≤m5.next:=km5.1
  have hoff:of∉(if a3=none then [] else [f3]):=by
   split
   ·simp
   ·rename_i hn;have:=(hf3 hn).1;simp;omega
  have ltA:loadRow mA ⟨lb,i,none⟩ 1=some [.int .i64 x]:=by
   have h9:loadRow mA ⟨lb,i,none⟩ 1=some [.int .i64 loc[i]]:=(hr.keep kA hoff).load1 (by simp [ic,iln])
   rw [h9,hx]
  have y3A:=oGA.load1 (off:=3) rfl
  simp [-Int.natCast_add,-BitVec.toNat_or,-BitVec.toNat_ofInt,-BitVec.toNat_and,Zai Zjd,Zad u28 Zjm rfl,Zai Zhz,Zad u31 Zj rfl,Zai Zhv,Zad u24 Ziw rfl,Zax u24 Zbn,Zbc u34 sz3 Zjf,Zbb u34 sz3,Zct ld3,Zai Zis,Zag Zb4,Zaf Za5,Zac u23,Za Zat,Zab Zbe,Zbc u38 sz3 Zjc,Zaa u23 sz3,Zab ld3,Zbb u38 sz3,Zad u23 bs3 rfl,Zax u23 sz3,Zaf Ze2,Zac u22,Zaa u22 Zb8,Za Zak,Za Zal,Zai Zh3,Zag Zem,Zaf Zb8,Zaf sz3,Za Za0,Za Zbl,Zab Zde,Zae Zcb,Zad u22 Zh4 rfl,Zax u22 Zb8,Zaf Zi8,Za Zaz,Zae Zby,Zad u41 Ziv rfl,Zad u42 bs9 rfl,Zad u43 bs2 rfl,Zai Zix,Zag Zir,Zaf Ziy,Zae Zbx]
  generalize hrg:Za8 _ _ _=rg
  obtain⟨mS,rfl,oS,kS⟩:=Za4 hrg oGA (by simp) (by simp [Zbp])
  simp [Zdh] at oS
  have hgm:m5.next≤gb:=by omega
  have K5A:Zao m5 mA []:=kC.fresh kA (fun f hf=>by
   split at hf
   ·simp at hf
   ·rename_i hn;rw [List.mem_singleton.1 hf];exact (hf3 hn).1)
  have K5S:Zao m5 mS []:=K5A.fresh kS (by simp;exact hgm)
  have hf9:m5.next≤f9∧f9≠gb:=by
   rcases c1 with⟨hn,e⟩ | c1
   ·rw [e];exact hf3 hn
   ·exact⟨by omega,by omega⟩
  have sS:Sl mS (some ⟨b9,0,none⟩) (i+1) (ic (ls++[tv])) 3 1 f9:=by
   have h9:=Sl.of (z:=1) (n:=i+1) (o9.keep kS (by simp;exact hf9.2)) (by simp [hlsl])
   simpa [ic] using h9
  simp [-Int.natCast_add,-BitVec.toNat_or,-BitVec.toNat_ofInt,-BitVec.toNat_and,Zai Zjd,Zad u28 Zjm rfl,Zai Zhz,Zad u31 Zj rfl,Zai Zhv,Zad u24 Ziw rfl,Zax u24 Zbn,Zbc u34 sz3 Zjf,Zbb u34 sz3,Zct ld3,Zai Zis,Zag Zb4,Zaf Za5,Zac u23,Za Zat,Zab Zbe,Zbc u38 sz3 Zjc,Zaa u23 sz3,Zab ld3,Zbb u38 sz3,Zad u23 bs3 rfl,Zax u23 sz3,Zaf Ze2,Zac u22,Zaa u22 Zb8,Za Zak,Za Zal,Zai Zh3,Zag Zem,Zaf Zb8,Zaf sz3,Za Za0,Za Zbl,Zab Zde,Zae Zcb,Zad u22 Zh4 rfl,Zax u22 Zb8,Zaf Zi8,Za Zaz,Zae Zby,Zad u41 Ziv rfl,Zad u42 bs9 rfl,Zad u43 bs2 rfl,Zai Zix,Zag Zir,Zaf Ziy,Zae Zbx,y3,y3Z,y3A,lt0,ltZ,ltA,pk6,Zdf,Zc1,wi]
  exact ih _ _ _ _ ⟨i+1,ls++[tv],some ⟨b9,0,none⟩,f9,rfl,by omega,by omega,by simp [hlsl],fun t ht=>by
   rcases List.mem_append.1 ht with h | h
   ·exact hlsv t h
   ·rw [List.mem_singleton.1 h];exact htc,K5S,oS,sS,fun _=>hf9,rfl⟩ (by omega) ⟨by rfl,by rw [hlb];rfl,by rfl,by rfl,by simp [Zcm],trivial⟩
 apply Z2
 case main =>
  by_cases h1:i < loc.length
  ·have h5:¬ i < 5:=fun h=>hlt ⟨h1,h⟩
   have j1:(i:Int) < loc.length:=by omega
   have j5:¬ (i:Int) < 5:=by omega
   intro meth
   simp [-Int.natCast_add,-BitVec.toNat_or,-BitVec.toNat_ofInt,-BitVec.toNat_and,Zai Zjd,Zad u28 Zjm rfl,Zai Zhz,Zad u31 Zj rfl,Zai Zhv,Zad u24 Ziw rfl,Zax u24 Zbn,Zbc u34 sz3 Zjf,Zbb u34 sz3,Zct ld3,Zai Zis,Zag Zb4,Zaf Za5,Zac u23,Za Zat,Zab Zbe,Zbc u38 sz3 Zjc,Zaa u23 sz3,Zab ld3,Zbb u38 sz3,Zad u23 bs3 rfl,Zax u23 sz3,Zaf Ze2,Zac u22,Zaa u22 Zb8,Za Zak,Za Zal,Zai Zh3,Zag Zem,Zaf Zb8,Zaf sz3,Za Za0,Za Zbl,Zab Zde,Zae Zcb,Zad u22 Zh4 rfl,Zax u22 Zb8,Zaf Zi8,Za Zaz,Zae Zby,Zad u41 Ziv rfl,Zad u42 bs9 rfl,Zad u43 bs2 rfl,Zai Zix,Zag Zir,Zaf Ziy,Zae Zbx,h1,h5,j1,j5]
   exact Zei (E:=[(0,.slice ao l.length l.length),(7,.slice (some ⟨b8,0,none⟩) 8 8),(8,.pointer (some ⟨gb,0,none⟩)),(10,.int .i64 0)]) meth ⟨by rfl,by rfl,by rfl,by rfl,trivial⟩
  ·have j1:¬ (i:Int) < loc.length:=by omega
   intro meth
   simp [-Int.natCast_add,-BitVec.toNat_or,-BitVec.toNat_ofInt,-BitVec.toNat_and,Zai Zjd,Zad u28 Zjm rfl,Zai Zhz,Zad u31 Zj rfl,Zai Zhv,Zad u24 Ziw rfl,Zax u24 Zbn,Zbc u34 sz3 Zjf,Zbb u34 sz3,Zct ld3,Zai Zis,Zag Zb4,Zaf Za5,Zac u23,Za Zat,Zab Zbe,Zbc u38 sz3 Zjc,Zaa u23 sz3,Zab ld3,Zbb u38 sz3,Zad u23 bs3 rfl,Zax u23 sz3,Zaf Ze2,Zac u22,Zaa u22 Zb8,Za Zak,Za Zal,Zai Zh3,Zag Zem,Zaf Zb8,Zaf sz3,Za Za0,Za Zbl,Zab Zde,Zae Zcb,Zad u22 Zh4 rfl,Zax u22 Zb8,Zaf Zi8,Za Zaz,Zae Zby,Zad u41 Ziv rfl,Zad u42 bs9 rfl,Zad u43 bs2 rfl,Zai Zix,Zag Zir,Zaf Ziy,Zae Zbx,h1,j1]
   exact Zei (E:=[(0,.slice ao l.length l.length),(7,.slice (some ⟨b8,0,none⟩) 8 8),(8,.pointer (some ⟨gb,0,none⟩)),(10,.int .i64 0)]) meth ⟨by rfl,by rfl,by rfl,by rfl,trivial⟩
 clear ih hlt
 obtain⟨mI,hmI⟩:∃ z,mC=z:=⟨_,rfl⟩
 refine Zbg 79 [79,92,96,96,123] (fun d E mC=>∃ (j:Nat) (c:List Ix) (a4:Option Addr) (f4:Nat),l.length - j=d∧j≤l.length∧j≤30∧c.length=j∧Zao m5 mC []∧Own mC gb [.string ⟨#[102]⟩,.slice none 0 0,.int .i64 rv,.slice a3 i i,.slice a4 j j] 37 gb∧Sl mC a3 i (ic ls) 3 1 f3∧Sl mC a4 j (ixv c) 40 3 f4∧(a4≠none→m5.next≤f4∧f4≠gb∧(a3≠none→f4≠f3))∧E=[(0,.slice ao l.length l.length),(7,.slice (some ⟨b8,0,none⟩) 8 8),(8,.pointer (some ⟨gb,0,none⟩)),(10,.int .i64 j)]) _ ⟨_,⟨0,[],none,0,rfl,by omega,by omega,rfl,kC,oG,sL,Sl.nil _ _ _ _,fun h=>absurd rfl h,rfl⟩,⟨by rfl,by rfl,by rfl,by rfl,trivial⟩⟩ ?_
 clear kC oG sL hmI hd
 rintro d E mC ih ⟨j,c,a4,f4,hd,hj,hj30,hcl,kC,oG,sL,sC,hf4,rfl⟩
 by_cases hlt:j < l.length∧j < 30
 case pos =>
  have i1:(j:Int) < l.length:=by omega
  have i5:(j:Int) < 30:=by omega
  have i5n:j < 30:=hlt.2
  have iln:j < l.length:=hlt.1
  have em:(j:Int)≤9223372036854775807:=by omega
  have wi:IntKind.i64.wrap ((j:Int)+1)=((j+1:Nat):Int):=by rw [Zbh (by omega) (by omega)];omega
  have km:Zao m mC []:=km5.trans kC
  obtain⟨lb,hlb,hr⟩:=(hl.keep km (by simp)).rdo (by omega)
  have l0f:∀ m',Zao mC m' []→loadRow m' ⟨lb,j * 3,none⟩ 1=some [.int .i64 l[j].1]:=fun m' k=>(hr.keep k (by simp)).load1 (by have:=Z0e iln (k:=0) (by omega);simpa using this)
  have l1f:∀ m',Zao mC m' []→loadRow m' ⟨lb,j * 3+1,none⟩ 1=some [.int .i64 l[j].2.1]:=fun m' k=>(hr.keep k (by simp)).load1 (by have:=Z0e iln (k:=1) (by omega);simpa using this)
  obtain⟨x,hx⟩:∃ x,l[j]=x:=⟨_,rfl⟩
  rw [hx] at l0f l1f
  have p42:=fun m'=>Zkg (m:=m') hN.pick x.1 42 (by omega) (by omega)
  have p8:=fun m'=>Zkg (m:=m') hN.pick x.2.1 8 (by omega) (by omega)
  have p3:=fun m'=>Zkg (m:=m') hN.pick x.2.1 3 (by omega) (by omega)
  obtain⟨op,hop⟩:∃ z,x.1 % 42=z:=⟨_,rfl⟩
  obtain⟨a8,ha8⟩:∃ z,x.2.1 % 8=z:=⟨_,rfl⟩
  obtain⟨a3',ha3⟩:∃ z,x.2.1 % 3=z:=⟨_,rfl⟩
  have ha3l:0≤a3'∧a3' < 3:=by omega
  rw [hop] at p42
  rw [ha8] at p8
  rw [ha3] at p3
  obtain⟨ox,kx,nx⟩:=Za7 (m:=mC) (cs:=[.int .i64 0,.int .i64 0,.int .i64 0]) (e:=40) rfl
  obtain⟨xb,hxb⟩:∃ z,mC.next=z:=⟨_,rfl⟩
  rw [hxb] at ox nx
  obtain⟨mN,hmN⟩:∃ z,mC.new [.int .i64 0,.int .i64 0,.int .i64 0] 40=z:=⟨_,rfl⟩
  rw [hmN] at ox kx nx
  have l00:=l0f _ (Zaj _)
  have l10:=l1f _ (Zaj _)
  have l0N:=l0f _ kx
  have l1N:=l1f _ kx
  simp [-Int.natCast_add,-BitVec.toNat_or,-BitVec.toNat_ofInt,-BitVec.toNat_and,Zai Zjd,Zad u28 Zjm rfl,Zai Zhz,Zad u31 Zj rfl,Zai Zhv,Zad u24 Ziw rfl,Zax u24 Zbn,Zbc u34 sz3 Zjf,Zbb u34 sz3,Zct ld3,Zai Zis,Zag Zb4,Zaf Za5,Zac u23,Za Zat,Zab Zbe,Zbc u38 sz3 Zjc,Zaa u23 sz3,Zab ld3,Zbb u38 sz3,Zad u23 bs3 rfl,Zax u23 sz3,Zaf Ze2,Zac u22,Zaa u22 Zb8,Za Zak,Za Zal,Zai Zh3,Zag Zem,Zaf Zb8,Zaf sz3,Za Za0,Za Zbl,Zab Zde,Zae Zcb,Zad u22 Zh4 rfl,Zax u22 Zb8,Zaf Zi8,Za Zaz,Zae Zby,Zad u41 Ziv rfl,Zad u42 bs9 rfl,Zad u43 bs2 rfl,Zai Zix,Zag Zir,Zaf Ziy,Zae Zbx,i1,i5,i5n,iln,hlb,em,l00,l10,l0N,l1N,p42,p8,hxb,hmN,Zdf,Zc1]
  generalize hrg:Za8 _ _ _=rg
  obtain⟨mS,rfl,oS,kS⟩:=Za4 hrg ox (by simp) (by simp [Zbk])
  simp [Zdh] at oS
  have kCS:Zao mC mS []:=kx.fresh kS (by simp;omega)
  have z0:=oS.load1 (off:=0) rfl
  have hoL:∀ (mX:Mem) (a' b':Int),Zao mC mX []∧Own mX xb [.int .i64 op,.int .i64 a',.int .i64 b'] 40 xb→Zao mC mX []:=fun _ _ _ h=>h.1
  apply Z4n (fun (mX:Mem) (a' b':Int)=>Zao mC mX []∧Own mX xb [.int .i64 op,.int .i64 a',.int .i64 b'] 40 xb)
  case main =>
   by_cases e36:op=36
   ·have z0':=z0
    rw [e36] at z0'
    have lS:=l1f _ kCS
    have r2:a3'.tmod 2=a3' % 2:=Int.tmod_eq_emod_of_nonneg ha3l.1
    intro meth
    simp [-Int.natCast_add,-BitVec.toNat_or,-BitVec.toNat_ofInt,-BitVec.toNat_and,Zai Zjd,Zad u28 Zjm rfl,Zai Zhz,Zad u31 Zj rfl,Zai Zhv,Zad u24 Ziw rfl,Zax u24 Zbn,Zbc u34 sz3 Zjf,Zbb u34 sz3,Zct ld3,Zai Zis,Zag Zb4,Zaf Za5,Zac u23,Za Zat,Zab Zbe,Zbc u38 sz3 Zjc,Zaa u23 sz3,Zab ld3,Zbb u38 sz3,Zad u23 bs3 rfl,Zax u23 sz3,Zaf Ze2,Zac u22,Zaa u22 Zb8,Za Zak,Za Zal,Zai Zh3,Zag Zem,Zaf Zb8,Zaf sz3,Za Za0,Za Zbl,Zab Zde,Zae Zcb,Zad u22 Zh4 rfl,Zax u22 Zb8,Zaf Zi8,Za Zaz,Zae Zby,Zad u41 Ziv rfl,Zad u42 bs9 rfl,Zad u43 bs2 rfl,Zai Zix,Zag Zir,Zaf Ziy,Zae Zbx,-w3_20,l00,l10,l0N,l1N,p42,p8,Zdf,Zc1,z0',iln,hlb,em,lS,p3]
    generalize hrh:Za8 _ _ _=rh
    obtain⟨m9,rfl,o9,kz9⟩:=Za4 hrh oS (by simp) (by simp [Zbk])
    simp [Zdh] at o9
    have zz1:=o9.load1 (off:=1) rfl
    simp [-Int.natCast_add,-BitVec.toNat_or,-BitVec.toNat_ofInt,-BitVec.toNat_and,Zai Zjd,Zad u28 Zjm rfl,Zai Zhz,Zad u31 Zj rfl,Zai Zhv,Zad u24 Ziw rfl,Zax u24 Zbn,Zbc u34 sz3 Zjf,Zbb u34 sz3,Zct ld3,Zai Zis,Zag Zb4,Zaf Za5,Zac u23,Za Zat,Zab Zbe,Zbc u38 sz3 Zjc,Zaa u23 sz3,Zab ld3,Zbb u38 sz3,Zad u23 bs3 rfl,Zax u23 sz3,Zaf Ze2,Zac u22,Zaa u22 Zb8,Za Zak,Za Zal,Zai Zh3,Zag Zem,Zaf Zb8,Zaf sz3,Za Za0,Za Zbl,Zab Zde,Zae Zcb,Zad u22 Zh4 rfl,Zax u22 Zb8,Zaf Zi8,Za Zaz,Zae Zby,Zad u41 Ziv rfl,Zad u42 bs9 rfl,Zad u43 bs2 rfl,Zai Zix,Zag Zir,Zaf Ziy,Zae Zbx,-w3_20,zz1]
    generalize hri:Za8 _ _ _=ri
    obtain⟨mT,rfl,oT,kT⟩:=Za4 hri o9 (by simp) (by simp [Zbk])
    simp [Zdh] at oT
    have hxm:mC.next≤xb:=by omega
    have kk:Zao mC mT []:=(kCS.fresh kz9 (by simp;exact hxm)).fresh kT (by simp;exact hxm)
    simp [-Int.natCast_add,-BitVec.toNat_or,-BitVec.toNat_ofInt,-BitVec.toNat_and,Zai Zjd,Zad u28 Zjm rfl,Zai Zhz,Zad u31 Zj rfl,Zai Zhv,Zad u24 Ziw rfl,Zax u24 Zbn,Zbc u34 sz3 Zjf,Zbb u34 sz3,Zct ld3,Zai Zis,Zag Zb4,Zaf Za5,Zac u23,Za Zat,Zab Zbe,Zbc u38 sz3 Zjc,Zaa u23 sz3,Zab ld3,Zbb u38 sz3,Zad u23 bs3 rfl,Zax u23 sz3,Zaf Ze2,Zac u22,Zaa u22 Zb8,Za Zak,Za Zal,Zai Zh3,Zag Zem,Zaf Zb8,Zaf sz3,Za Za0,Za Zbl,Zab Zde,Zae Zcb,Zad u22 Zh4 rfl,Zax u22 Zb8,Zaf Zi8,Za Zaz,Zae Zby,Zad u41 Ziv rfl,Zad u42 bs9 rfl,Zad u43 bs2 rfl,Zai Zix,Zag Zir,Zaf Ziy,Zae Zbx,-w3_20]
    obtain⟨aX,haX⟩:∃ z,a3'=z:=⟨_,rfl⟩
    obtain⟨bX,hbX⟩:∃ z,a3'.tmod 2=z:=⟨_,rfl⟩
    rw [hbX] at oT
    rw [haX] at oT
    exact Zcq (E:=[(0,.slice (some ⟨lb,0,none⟩) l.length l.length),(7,.slice (some ⟨b8,0,none⟩) 8 8),(8,.pointer (some ⟨gb,0,none⟩)),(10,.int .i64 j),(11,.pointer (some ⟨xb,0,none⟩))]) (meth mT aX bX ⟨kk,oT⟩) ⟨by rfl,by rfl,by rfl,by rfl,by rfl,trivial⟩
   by_cases e37:op=37
   ·have z0':=z0
    rw [e37] at z0'
    intro meth
    simp [-Int.natCast_add,-BitVec.toNat_or,-BitVec.toNat_ofInt,-BitVec.toNat_and,Zai Zjd,Zad u28 Zjm rfl,Zai Zhz,Zad u31 Zj rfl,Zai Zhv,Zad u24 Ziw rfl,Zax u24 Zbn,Zbc u34 sz3 Zjf,Zbb u34 sz3,Zct ld3,Zai Zis,Zag Zb4,Zaf Za5,Zac u23,Za Zat,Zab Zbe,Zbc u38 sz3 Zjc,Zaa u23 sz3,Zab ld3,Zbb u38 sz3,Zad u23 bs3 rfl,Zax u23 sz3,Zaf Ze2,Zac u22,Zaa u22 Zb8,Za Zak,Za Zal,Zai Zh3,Zag Zem,Zaf Zb8,Zaf sz3,Za Za0,Za Zbl,Zab Zde,Zae Zcb,Zad u22 Zh4 rfl,Zax u22 Zb8,Zaf Zi8,Za Zaz,Zae Zby,Zad u41 Ziv rfl,Zad u42 bs9 rfl,Zad u43 bs2 rfl,Zai Zix,Zag Zir,Zaf Ziy,Zae Zbx,-w3_20,l00,l10,l0N,l1N,p42,p8,Zdf,Zc1,z0']
    generalize hrh:Za8 _ _ _=rh
    obtain⟨m9,rfl,o9,kz9⟩:=Za4 hrh oS (by simp) (by simp [Zbk])
    simp [Zdh] at o9
    simp [-Int.natCast_add,-BitVec.toNat_or,-BitVec.toNat_ofInt,-BitVec.toNat_and,Zai Zjd,Zad u28 Zjm rfl,Zai Zhz,Zad u31 Zj rfl,Zai Zhv,Zad u24 Ziw rfl,Zax u24 Zbn,Zbc u34 sz3 Zjf,Zbb u34 sz3,Zct ld3,Zai Zis,Zag Zb4,Zaf Za5,Zac u23,Za Zat,Zab Zbe,Zbc u38 sz3 Zjc,Zaa u23 sz3,Zab ld3,Zbb u38 sz3,Zad u23 bs3 rfl,Zax u23 sz3,Zaf Ze2,Zac u22,Zaa u22 Zb8,Za Zak,Za Zal,Zai Zh3,Zag Zem,Zaf Zb8,Zaf sz3,Za Za0,Za Zbl,Zab Zde,Zae Zcb,Zad u22 Zh4 rfl,Zax u22 Zb8,Zaf Zi8,Za Zaz,Zae Zby,Zad u41 Ziv rfl,Zad u42 bs9 rfl,Zad u43 bs2 rfl,Zai Zix,Zag Zir,Zaf Ziy,Zae Zbx,-w3_20]
    generalize hri:Za8 _ _ _=ri
    obtain⟨mT,rfl,oT,kT⟩:=Za4 hri o9 (by simp) (by simp [Zbk])
    simp [Zdh] at oT
    have hxm:mC.next≤xb:=by omega
    have kk:Zao mC mT []:=(kCS.fresh kz9 (by simp;exact hxm)).fresh kT (by simp;exact hxm)
    simp [-Int.natCast_add,-BitVec.toNat_or,-BitVec.toNat_ofInt,-BitVec.toNat_and,Zai Zjd,Zad u28 Zjm rfl,Zai Zhz,Zad u31 Zj rfl,Zai Zhv,Zad u24 Ziw rfl,Zax u24 Zbn,Zbc u34 sz3 Zjf,Zbb u34 sz3,Zct ld3,Zai Zis,Zag Zb4,Zaf Za5,Zac u23,Za Zat,Zab Zbe,Zbc u38 sz3 Zjc,Zaa u23 sz3,Zab ld3,Zbb u38 sz3,Zad u23 bs3 rfl,Zax u23 sz3,Zaf Ze2,Zac u22,Zaa u22 Zb8,Za Zak,Za Zal,Zai Zh3,Zag Zem,Zaf Zb8,Zaf sz3,Za Za0,Za Zbl,Zab Zde,Zae Zcb,Zad u22 Zh4 rfl,Zax u22 Zb8,Zaf Zi8,Za Zaz,Zae Zby,Zad u41 Ziv rfl,Zad u42 bs9 rfl,Zad u43 bs2 rfl,Zai Zix,Zag Zir,Zaf Ziy,Zae Zbx,-w3_20]
    exact Zcq (E:=[(0,.slice (some ⟨lb,0,none⟩) l.length l.length),(7,.slice (some ⟨b8,0,none⟩) 8 8),(8,.pointer (some ⟨gb,0,none⟩)),(10,.int .i64 j),(11,.pointer (some ⟨xb,0,none⟩))]) (meth mT 0 1 ⟨kk,oT⟩) ⟨by rfl,by rfl,by rfl,by rfl,by rfl,trivial⟩
   by_cases e26:op=26∨op=27
   ·have lS:=l1f _ kCS
    have hk:IntKind.i64.wrap ((l.length:Int)+1)≠0:=by
     by_cases hb:(l.length:Int)+1≤9223372036854775807
     ·rw [Zbh (by omega) hb];omega
     ·have e9:(l.length:Int)=9223372036854775807:=by omega
      rw [e9];decide
    obtain⟨y,hy⟩:=Zx9 hN.pick x.2.1 (IntKind.i64.wrap ((l.length:Int)+1)) hk
    rcases e26 with e26 | e26
    all_goals
     have z0':=z0
     rw [e26] at z0'
     intro meth
     simp [-Int.natCast_add,-BitVec.toNat_or,-BitVec.toNat_ofInt,-BitVec.toNat_and,Zai Zjd,Zad u28 Zjm rfl,Zai Zhz,Zad u31 Zj rfl,Zai Zhv,Zad u24 Ziw rfl,Zax u24 Zbn,Zbc u34 sz3 Zjf,Zbb u34 sz3,Zct ld3,Zai Zis,Zag Zb4,Zaf Za5,Zac u23,Za Zat,Zab Zbe,Zbc u38 sz3 Zjc,Zaa u23 sz3,Zab ld3,Zbb u38 sz3,Zad u23 bs3 rfl,Zax u23 sz3,Zaf Ze2,Zac u22,Zaa u22 Zb8,Za Zak,Za Zal,Zai Zh3,Zag Zem,Zaf Zb8,Zaf sz3,Za Za0,Za Zbl,Zab Zde,Zae Zcb,Zad u22 Zh4 rfl,Zax u22 Zb8,Zaf Zi8,Za Zaz,Zae Zby,Zad u41 Ziv rfl,Zad u42 bs9 rfl,Zad u43 bs2 rfl,Zai Zix,Zag Zir,Zaf Ziy,Zae Zbx,-w3_20,l00,l10,l0N,l1N,p42,p8,Zdf,Zc1,z0',iln,hlb,em,lS,hy]
     generalize hrh:Za8 _ _ _=rh
     obtain⟨mT,rfl,oT,kT⟩:=Za4 hrh oS (by simp) (by simp [Zbk])
     simp [Zdh] at oT
     have hxm:mC.next≤xb:=by omega
     have kk:Zao mC mT []:=kCS.fresh kT (by simp;exact hxm)
     simp [-Int.natCast_add,-BitVec.toNat_or,-BitVec.toNat_ofInt,-BitVec.toNat_and,Zai Zjd,Zad u28 Zjm rfl,Zai Zhz,Zad u31 Zj rfl,Zai Zhv,Zad u24 Ziw rfl,Zax u24 Zbn,Zbc u34 sz3 Zjf,Zbb u34 sz3,Zct ld3,Zai Zis,Zag Zb4,Zaf Za5,Zac u23,Za Zat,Zab Zbe,Zbc u38 sz3 Zjc,Zaa u23 sz3,Zab ld3,Zbb u38 sz3,Zad u23 bs3 rfl,Zax u23 sz3,Zaf Ze2,Zac u22,Zaa u22 Zb8,Za Zak,Za Zal,Zai Zh3,Zag Zem,Zaf Zb8,Zaf sz3,Za Za0,Za Zbl,Zab Zde,Zae Zcb,Zad u22 Zh4 rfl,Zax u22 Zb8,Zaf Zi8,Za Zaz,Zae Zby,Zad u41 Ziv rfl,Zad u42 bs9 rfl,Zad u43 bs2 rfl,Zai Zix,Zag Zir,Zaf Ziy,Zae Zbx,-w3_20]
     exact Zcq (E:=[(0,.slice (some ⟨lb,0,none⟩) l.length l.length),(7,.slice (some ⟨b8,0,none⟩) 8 8),(8,.pointer (some ⟨gb,0,none⟩)),(10,.int .i64 j),(11,.pointer (some ⟨xb,0,none⟩))]) (meth mT y 0 ⟨kk,oT⟩) ⟨by rfl,by rfl,by rfl,by rfl,by rfl,trivial⟩
   ·have f26:¬ op=26:=fun h=>e26 (Or.inl h)
    have f27:¬ op=27:=fun h=>e26 (Or.inr h)
    intro meth
    simp [-Int.natCast_add,-BitVec.toNat_or,-BitVec.toNat_ofInt,-BitVec.toNat_and,Zai Zjd,Zad u28 Zjm rfl,Zai Zhz,Zad u31 Zj rfl,Zai Zhv,Zad u24 Ziw rfl,Zax u24 Zbn,Zbc u34 sz3 Zjf,Zbb u34 sz3,Zct ld3,Zai Zis,Zag Zb4,Zaf Za5,Zac u23,Za Zat,Zab Zbe,Zbc u38 sz3 Zjc,Zaa u23 sz3,Zab ld3,Zbb u38 sz3,Zad u23 bs3 rfl,Zax u23 sz3,Zaf Ze2,Zac u22,Zaa u22 Zb8,Za Zak,Za Zal,Zai Zh3,Zag Zem,Zaf Zb8,Zaf sz3,Za Za0,Za Zbl,Zab Zde,Zae Zcb,Zad u22 Zh4 rfl,Zax u22 Zb8,Zaf Zi8,Za Zaz,Zae Zby,Zad u41 Ziv rfl,Zad u42 bs9 rfl,Zad u43 bs2 rfl,Zai Zix,Zag Zir,Zaf Ziy,Zae Zbx,-w3_20,l00,l10,l0N,l1N,p42,p8,Zdf,Zc1,z0,e36,e37,f26,f27]
    exact Zcq (E:=[(0,.slice (some ⟨lb,0,none⟩) l.length l.length),(7,.slice (some ⟨b8,0,none⟩) 8 8),(8,.pointer (some ⟨gb,0,none⟩)),(10,.int .i64 j),(11,.pointer (some ⟨xb,0,none⟩))]) (meth mS a8 0 ⟨kCS,oS⟩) ⟨by rfl,by rfl,by rfl,by rfl,by rfl,trivial⟩
  intro mX a' b' ⟨kX,oX⟩
  clear hoL z0 oS kCS l00 l10 l0N l1N l0f l1f p42 p8 p3
  have oGX:=oG.keep kX (by simp)
  have y4:=oGX.load1 (off:=4) rfl
  have xl:=oX.load (off:=0) 3 (by simp)
  simp [Zb] at xl
  have sCX:=sC.keepz kX (fun _=>by simp)
  have sLX:=sL.keepz kX (fun _=>by simp)
  have hgX:gb < mX.next:=oGX.flt
  have hmC:m5.next≤mC.next:=kC.1
  have hCX:mC.next≤mX.next:=kX.1
  have hf3lt:a3≠none→f3 < mX.next:=fun hn=>by
   rcases sLX.2 with h | ⟨b,_,ho⟩
   ·exact absurd h.1 hn
   ·exact ho.flt
  obtain⟨oz,kzz,nzz⟩:=Za7 (m:=mX) (cs:=[.int .i64 op,.int .i64 a',.int .i64 b']) (e:=40) rfl
  obtain⟨zb,hzb⟩:∃ z,mX.next=z:=⟨_,rfl⟩
  rw [hzb] at oz nzz
  obtain⟨mZ,hmZ⟩:∃ z,mX.new [.int .i64 op,.int .i64 a',.int .i64 b'] 40=z:=⟨_,rfl⟩
  rw [hmZ] at oz kzz nzz
  have lz:=oz.load (off:=0) 3 (by simp)
  simp [Zb] at lz
  simp [-Int.natCast_add,-BitVec.toNat_or,-BitVec.toNat_ofInt,-BitVec.toNat_and,Zai Zjd,Zad u28 Zjm rfl,Zai Zhz,Zad u31 Zj rfl,Zai Zhv,Zad u24 Ziw rfl,Zax u24 Zbn,Zbc u34 sz3 Zjf,Zbb u34 sz3,Zct ld3,Zai Zis,Zag Zb4,Zaf Za5,Zac u23,Za Zat,Zab Zbe,Zbc u38 sz3 Zjc,Zaa u23 sz3,Zab ld3,Zbb u38 sz3,Zad u23 bs3 rfl,Zax u23 sz3,Zaf Ze2,Zac u22,Zaa u22 Zb8,Za Zak,Za Zal,Zai Zh3,Zag Zem,Zaf Zb8,Zaf sz3,Za Za0,Za Zbl,Zab Zde,Zae Zcb,Zad u22 Zh4 rfl,Zax u22 Zb8,Zaf Zi8,Za Zaz,Zae Zby,Zad u41 Ziv rfl,Zad u42 bs9 rfl,Zad u43 bs2 rfl,Zai Zix,Zag Zir,Zaf Ziy,Zae Zbx,Zgn,Zgk,y4,xl,hzb,hmZ,lz]
  generalize hrb:Zcd _ _ _ _ _ _=rb
  rw [← hmZ] at hrb
  obtain⟨mA,b9,f9,rfl,o9,kA,c1,c2,c3⟩:=Zkt hrb u22 Z6w sCX (by omega) (by simp) (by simp [Zbk]) (by omega) (by omega)
  have hgo:gb∉(if a4=none then [] else [f4]):=by
   split
   ·simp
   ·rename_i hn;have:=(hf4 hn).2.1;simp;omega
  have oGA:=oGX.keep kA hgo
  have sLA:=sLX.keepz kA (fun hn=>by
   split
   ·simp
   ·rename_i hn4;have:=(hf4 hn4).2.2 hn;simp;omega)
  simp [-Int.natCast_add,-BitVec.toNat_or,-BitVec.toNat_ofInt,-BitVec.toNat_and,Zai Zjd,Zad u28 Zjm rfl,Zai Zhz,Zad u31 Zj rfl,Zai Zhv,Zad u24 Ziw rfl,Zax u24 Zbn,Zbc u34 sz3 Zjf,Zbb u34 sz3,Zct ld3,Zai Zis,Zag Zb4,Zaf Za5,Zac u23,Za Zat,Zab Zbe,Zbc u38 sz3 Zjc,Zaa u23 sz3,Zab ld3,Zbb u38 sz3,Zad u23 bs3 rfl,Zax u23 sz3,Zaf Ze2,Zac u22,Zaa u22 Zb8,Za Zak,Za Zal,Zai Zh3,Zag Zem,Zaf Zb8,Zaf sz3,Za Za0,Za Zbl,Zab Zde,Zae Zcb,Zad u22 Zh4 rfl,Zax u22 Zb8,Zaf Zi8,Za Zaz,Zae Zby,Zad u41 Ziv rfl,Zad u42 bs9 rfl,Zad u43 bs2 rfl,Zai Zix,Zag Zir,Zaf Ziy,Zae Zbx]
  generalize hrg:Za8 _ _ _=rg
  obtain⟨mS2,rfl,oS2,kS2⟩:=Za4 hrg oGA (by simp) (by simp [Zbp])
  simp [Zdh] at oS2
  have hgm:m5.next≤gb:=by omega
  have K5A:Zao m5 mA []:=(kC.trans kX).fresh kA (fun f hf=>by
   split at hf
   ·simp at hf
   ·rename_i hn;rw [List.mem_singleton.1 hf];exact (hf4 hn).1)
  have K5S:Zao m5 mS2 []:=K5A.fresh kS2 (by simp;exact hgm)
  have hf9:m5.next≤f9∧f9≠gb∧(a3≠none→f9≠f3):=by
   rcases c1 with⟨hn,e⟩ | c1
   ·rw [e];exact hf4 hn
   ·exact⟨by omega,by omega,fun hn=>by have:=hf3lt hn;omega⟩
  have sS:Sl mS2 (some ⟨b9,0,none⟩) (j+1) (ixv (c++[(op,a',b')])) 40 3 f9:=by
   have h9:=Sl.of (z:=3) (n:=j+1) (o9.keep kS2 (by simp;exact hf9.2.1)) (by rw [List.length_append,Zq2,hcl];simp;omega)
   simpa [ixv] using h9
  have sL2:=sLA.keepz kS2 (fun hn=>by have:=(hf3 hn).2;simp;exact this)
  simp [-Int.natCast_add,-BitVec.toNat_or,-BitVec.toNat_ofInt,-BitVec.toNat_and,Zai Zjd,Zad u28 Zjm rfl,Zai Zhz,Zad u31 Zj rfl,Zai Zhv,Zad u24 Ziw rfl,Zax u24 Zbn,Zbc u34 sz3 Zjf,Zbb u34 sz3,Zct ld3,Zai Zis,Zag Zb4,Zaf Za5,Zac u23,Za Zat,Zab Zbe,Zbc u38 sz3 Zjc,Zaa u23 sz3,Zab ld3,Zbb u38 sz3,Zad u23 bs3 rfl,Zax u23 sz3,Zaf Ze2,Zac u22,Zaa u22 Zb8,Za Zak,Za Zal,Zai Zh3,Zag Zem,Zaf Zb8,Zaf sz3,Za Za0,Za Zbl,Zab Zde,Zae Zcb,Zad u22 Zh4 rfl,Zax u22 Zb8,Zaf Zi8,Za Zaz,Zae Zby,Zad u41 Ziv rfl,Zad u42 bs9 rfl,Zad u43 bs2 rfl,Zai Zix,Zag Zir,Zaf Ziy,Zae Zbx,wi]
  exact ih _ _ _ _ ⟨j+1,c++[(op,a',b')],some ⟨b9,0,none⟩,f9,rfl,by omega,by omega,by simp [hcl],K5S,oS2,sL2,sS,fun _=>hf9,rfl⟩ (by omega) ⟨by rw [hlb];rfl,by rfl,by rfl,by simp [Zcm],trivial⟩
 apply Z2
 case main =>
  by_cases h1:j < l.length
  ·have h5:¬ j < 30:=fun h=>hlt ⟨h1,h⟩
   have j1:(j:Int) < l.length:=by omega
   have j5:¬ (j:Int) < 30:=by omega
   intro meth
   simp [-Int.natCast_add,-BitVec.toNat_or,-BitVec.toNat_ofInt,-BitVec.toNat_and,Zai Zjd,Zad u28 Zjm rfl,Zai Zhz,Zad u31 Zj rfl,Zai Zhv,Zad u24 Ziw rfl,Zax u24 Zbn,Zbc u34 sz3 Zjf,Zbb u34 sz3,Zct ld3,Zai Zis,Zag Zb4,Zaf Za5,Zac u23,Za Zat,Zab Zbe,Zbc u38 sz3 Zjc,Zaa u23 sz3,Zab ld3,Zbb u38 sz3,Zad u23 bs3 rfl,Zax u23 sz3,Zaf Ze2,Zac u22,Zaa u22 Zb8,Za Zak,Za Zal,Zai Zh3,Zag Zem,Zaf Zb8,Zaf sz3,Za Za0,Za Zbl,Zab Zde,Zae Zcb,Zad u22 Zh4 rfl,Zax u22 Zb8,Zaf Zi8,Za Zaz,Zae Zby,Zad u41 Ziv rfl,Zad u42 bs9 rfl,Zad u43 bs2 rfl,Zai Zix,Zag Zir,Zaf Ziy,Zae Zbx,-w3_22,h1,h5,j1,j5]
   exact Zcq (E:=[(0,.slice ao l.length l.length),(7,.slice (some ⟨b8,0,none⟩) 8 8),(8,.pointer (some ⟨gb,0,none⟩))]) meth ⟨by rfl,by rfl,by rfl,trivial⟩
  ·have j1:¬ (j:Int) < l.length:=by omega
   intro meth
   simp [-Int.natCast_add,-BitVec.toNat_or,-BitVec.toNat_ofInt,-BitVec.toNat_and,Zai Zjd,Zad u28 Zjm rfl,Zai Zhz,Zad u31 Zj rfl,Zai Zhv,Zad u24 Ziw rfl,Zax u24 Zbn,Zbc u34 sz3 Zjf,Zbb u34 sz3,Zct ld3,Zai Zis,Zag Zb4,Zaf Za5,Zac u23,Za Zat,Zab Zbe,Zbc u38 sz3 Zjc,Zaa u23 sz3,Zab ld3,Zbb u38 sz3,Zad u23 bs3 rfl,Zax u23 sz3,Zaf Ze2,Zac u22,Zaa u22 Zb8,Za Zak,Za Zal,Zai Zh3,Zag Zem,Zaf Zb8,Zaf sz3,Za Za0,Za Zbl,Zab Zde,Zae Zcb,Zad u22 Zh4 rfl,Zax u22 Zb8,Zaf Zi8,Za Zaz,Zae Zby,Zad u41 Ziv rfl,Zad u42 bs9 rfl,Zad u43 bs2 rfl,Zai Zix,Zag Zir,Zaf Ziy,Zae Zbx,-w3_22,h1,j1]
   exact Zcq (E:=[(0,.slice ao l.length l.length),(7,.slice (some ⟨b8,0,none⟩) 8 8),(8,.pointer (some ⟨gb,0,none⟩))]) meth ⟨by rfl,by rfl,by rfl,trivial⟩
 clear ih hlt
 have y2:=oG.load1 (off:=2) rfl
 have hgC:gb < mC.next:=oG.flt
 have hmC:m5.next≤mC.next:=kC.1
 have hgm:m5.next≤gb:=by omega
 apply Z2x (fun (mX:Mem) (c':List Ix)=>∃ (a5:Option Addr) (f5:Nat),c'.length≤31∧Zao m5 mX []∧Own mX gb [.string ⟨#[102]⟩,.slice none 0 0,.int .i64 rv,.slice a3 i i,.slice a5 c'.length c'.length] 37 gb∧Sl mX a3 i (ic ls) 3 1 f3∧Sl mX a5 c'.length (ixv c') 40 3 f5)
 case main =>
  obtain⟨mK,hmK⟩:∃ z,mC=z:=⟨_,rfl⟩
  obtain⟨cK,hcK⟩:∃ z,c=z:=⟨_,rfl⟩
  have stay:∃ (a5:Option Addr) (f5:Nat),cK.length≤31∧Zao m5 mK []∧Own mK gb [.string ⟨#[102]⟩,.slice none 0 0,.int .i64 rv,.slice a3 i i,.slice a5 cK.length cK.length] 37 gb∧Sl mK a3 i (ic ls) 3 1 f3∧Sl mK a5 cK.length (ixv cK) 40 3 f5:=by
   rw [← hmK,← hcK,hcl]
   exact⟨a4,f4,by omega,kC,oG,sL,sC⟩
  rw [hmK] at y2
  by_cases hr0:rv=0
  case neg =>
   intro meth
   simp [-Int.natCast_add,-BitVec.toNat_or,-BitVec.toNat_ofInt,-BitVec.toNat_and,Zai Zjd,Zad u28 Zjm rfl,Zai Zhz,Zad u31 Zj rfl,Zai Zhv,Zad u24 Ziw rfl,Zax u24 Zbn,Zbc u34 sz3 Zjf,Zbb u34 sz3,Zct ld3,Zai Zis,Zag Zb4,Zaf Za5,Zac u23,Za Zat,Zab Zbe,Zbc u38 sz3 Zjc,Zaa u23 sz3,Zab ld3,Zbb u38 sz3,Zad u23 bs3 rfl,Zax u23 sz3,Zaf Ze2,Zac u22,Zaa u22 Zb8,Za Zak,Za Zal,Zai Zh3,Zag Zem,Zaf Zb8,Zaf sz3,Za Za0,Za Zbl,Zab Zde,Zae Zcb,Zad u22 Zh4 rfl,Zax u22 Zb8,Zaf Zi8,Za Zaz,Zae Zby,Zad u41 Ziv rfl,Zad u42 bs9 rfl,Zad u43 bs2 rfl,Zai Zix,Zag Zir,Zaf Ziy,Zae Zbx,-w3_24,hmK,y2,hr0]
   exact Zcq (E:=[(7,.slice (some ⟨b8,0,none⟩) 8 8),(8,.pointer (some ⟨gb,0,none⟩))]) (meth mK cK stay) ⟨by rfl,by rfl,trivial⟩
  rw [hr0] at y2
  have tm:(l.length:Int).tmod 3=((l.length % 3:Nat):Int):=by rw [Int.tmod_eq_emod_of_nonneg (by omega)];omega
  by_cases h3:0 < l.length % 3
  case neg =>
   have h3':¬ (0:Int) < ((l.length % 3:Nat):Int):=by omega
   have h3a:¬ (0:Int) < (l.length:Int) % 3:=by omega
   have h3b:l.length % 3=0:=by omega
   have h3c:(l.length:Int) % 3=0:=by omega
   intro meth
   simp [-Int.natCast_add,-BitVec.toNat_or,-BitVec.toNat_ofInt,-BitVec.toNat_and,Zai Zjd,Zad u28 Zjm rfl,Zai Zhz,Zad u31 Zj rfl,Zai Zhv,Zad u24 Ziw rfl,Zax u24 Zbn,Zbc u34 sz3 Zjf,Zbb u34 sz3,Zct ld3,Zai Zis,Zag Zb4,Zaf Za5,Zac u23,Za Zat,Zab Zbe,Zbc u38 sz3 Zjc,Zaa u23 sz3,Zab ld3,Zbb u38 sz3,Zad u23 bs3 rfl,Zax u23 sz3,Zaf Ze2,Zac u22,Zaa u22 Zb8,Za Zak,Za Zal,Zai Zh3,Zag Zem,Zaf Zb8,Zaf sz3,Za Za0,Za Zbl,Zab Zde,Zae Zcb,Zad u22 Zh4 rfl,Zax u22 Zb8,Zaf Zi8,Za Zaz,Zae Zby,Zad u41 Ziv rfl,Zad u42 bs9 rfl,Zad u43 bs2 rfl,Zai Zix,Zag Zir,Zaf Ziy,Zae Zbx,-w3_24,hmK,y2,tm,h3,h3',h3a,h3b,h3c]
   exact Zcq (E:=[(7,.slice (some ⟨b8,0,none⟩) 8 8),(8,.pointer (some ⟨gb,0,none⟩))]) (meth mK cK stay) ⟨by rfl,by rfl,trivial⟩
  have h3':(0:Int) < ((l.length % 3:Nat):Int):=by omega
  have h3a:(0:Int) < (l.length:Int) % 3:=by omega
  have y4:=oG.load1 (off:=4) rfl
  have hf3lt:a3≠none→f3 < mC.next:=fun hn=>by
   rcases sL.2 with h | ⟨b,_,ho⟩
   ·exact absurd h.1 hn
   ·exact ho.flt
  obtain⟨oz,kzz,nzz⟩:=Za7 (m:=mC) (cs:=[.int .i64 41,.int .i64 0,.int .i64 0]) (e:=40) rfl
  rw [hmK] at y4
  obtain⟨zb,hzb⟩:∃ z,mK.next=z:=⟨_,rfl⟩
  rw [hmK,hzb] at oz nzz
  obtain⟨mZ,hmZ⟩:∃ z,mK.new [.int .i64 41,.int .i64 0,.int .i64 0] 40=z:=⟨_,rfl⟩
  rw [hmZ] at oz nzz
  have lz:=oz.load (off:=0) 3 (by simp)
  simp [Zb] at lz
  intro meth
  simp [-Int.natCast_add,-BitVec.toNat_or,-BitVec.toNat_ofInt,-BitVec.toNat_and,Zai Zjd,Zad u28 Zjm rfl,Zai Zhz,Zad u31 Zj rfl,Zai Zhv,Zad u24 Ziw rfl,Zax u24 Zbn,Zbc u34 sz3 Zjf,Zbb u34 sz3,Zct ld3,Zai Zis,Zag Zb4,Zaf Za5,Zac u23,Za Zat,Zab Zbe,Zbc u38 sz3 Zjc,Zaa u23 sz3,Zab ld3,Zbb u38 sz3,Zad u23 bs3 rfl,Zax u23 sz3,Zaf Ze2,Zac u22,Zaa u22 Zb8,Za Zak,Za Zal,Zai Zh3,Zag Zem,Zaf Zb8,Zaf sz3,Za Za0,Za Zbl,Zab Zde,Zae Zcb,Zad u22 Zh4 rfl,Zax u22 Zb8,Zaf Zi8,Za Zaz,Zae Zby,Zad u41 Ziv rfl,Zad u42 bs9 rfl,Zad u43 bs2 rfl,Zai Zix,Zag Zir,Zaf Ziy,Zae Zbx,-w3_24,Zgn,Zgk,hmK,y2,y4,tm,h3,h3',h3a,hzb,hmZ,lz]
  generalize hrb:Zcd _ _ _ _ _ _=rb
  rw [← hmZ,← hmK] at hrb
  obtain⟨mA,b9,f9,rfl,o9,kA,c1,c2,c3⟩:=Zkt hrb u22 Z6w sC (by omega) (by simp) (by simp [Zbk]) (by omega) (by omega)
  have hgo:gb∉(if a4=none then [] else [f4]):=by
   split
   ·simp
   ·rename_i hn;have:=(hf4 hn).2.1;simp;omega
  have oGA:=oG.keep kA hgo
  have sLA:=sL.keepz kA (fun hn=>by
   split
   ·simp
   ·rename_i hn4;have:=(hf4 hn4).2.2 hn;simp;omega)
  simp [-Int.natCast_add,-BitVec.toNat_or,-BitVec.toNat_ofInt,-BitVec.toNat_and,Zai Zjd,Zad u28 Zjm rfl,Zai Zhz,Zad u31 Zj rfl,Zai Zhv,Zad u24 Ziw rfl,Zax u24 Zbn,Zbc u34 sz3 Zjf,Zbb u34 sz3,Zct ld3,Zai Zis,Zag Zb4,Zaf Za5,Zac u23,Za Zat,Zab Zbe,Zbc u38 sz3 Zjc,Zaa u23 sz3,Zab ld3,Zbb u38 sz3,Zad u23 bs3 rfl,Zax u23 sz3,Zaf Ze2,Zac u22,Zaa u22 Zb8,Za Zak,Za Zal,Zai Zh3,Zag Zem,Zaf Zb8,Zaf sz3,Za Za0,Za Zbl,Zab Zde,Zae Zcb,Zad u22 Zh4 rfl,Zax u22 Zb8,Zaf Zi8,Za Zaz,Zae Zby,Zad u41 Ziv rfl,Zad u42 bs9 rfl,Zad u43 bs2 rfl,Zai Zix,Zag Zir,Zaf Ziy,Zae Zbx,-w3_24]
  generalize hrg:Za8 _ _ _=rg
  obtain⟨mS2,rfl,oS2,kS2⟩:=Za4 hrg oGA (by simp) (by simp [Zbp])
  simp [Zdh] at oS2
  have K5A:Zao m5 mA []:=kC.fresh kA (fun f hf=>by
   split at hf
   ·simp at hf
   ·rename_i hn;rw [List.mem_singleton.1 hf];exact (hf4 hn).1)
  have K5S:Zao m5 mS2 []:=K5A.fresh kS2 (by simp;exact hgm)
  have hf9:f9≠gb:=by
   rcases c1 with⟨hn,e⟩ | c1
   ·rw [e];exact (hf4 hn).2.1
   ·omega
  have hclA:(c++[((41:Int),(0:Int),(0:Int))]).length=j+1:=by simp [hcl]
  have sS:Sl mS2 (some ⟨b9,0,none⟩) (j+1) (ixv (c++[(41,0,0)])) 40 3 f9:=by
   have h9:=Sl.of (z:=3) (n:=j+1) (o9.keep kS2 (by simp;exact hf9)) (by rw [List.length_append,Zq2,hcl];simp;omega)
   simpa [ixv] using h9
  have sL2:=sLA.keepz kS2 (fun hn=>by have:=(hf3 hn).2;simp;exact this)
  simp [-Int.natCast_add,-BitVec.toNat_or,-BitVec.toNat_ofInt,-BitVec.toNat_and,Zai Zjd,Zad u28 Zjm rfl,Zai Zhz,Zad u31 Zj rfl,Zai Zhv,Zad u24 Ziw rfl,Zax u24 Zbn,Zbc u34 sz3 Zjf,Zbb u34 sz3,Zct ld3,Zai Zis,Zag Zb4,Zaf Za5,Zac u23,Za Zat,Zab Zbe,Zbc u38 sz3 Zjc,Zaa u23 sz3,Zab ld3,Zbb u38 sz3,Zad u23 bs3 rfl,Zax u23 sz3,Zaf Ze2,Zac u22,Zaa u22 Zb8,Za Zak,Za Zal,Zai Zh3,Zag Zem,Zaf Zb8,Zaf sz3,Za Za0,Za Zbl,Zab Zde,Zae Zcb,Zad u22 Zh4 rfl,Zax u22 Zb8,Zaf Zi8,Za Zaz,Zae Zby,Zad u41 Ziv rfl,Zad u42 bs9 rfl,Zad u43 bs2 rfl,Zai Zix,Zag Zir,Zaf Ziy,Zae Zbx,-w3_24]
  exact Zcq (E:=[(7,.slice (some ⟨b8,0,none⟩) 8 8),(8,.pointer (some ⟨gb,0,none⟩))]) (meth mS2 (c++[(41,0,0)]) ⟨some ⟨b9,0,none⟩,f9,by rw [hclA];omega,K5S,by rw [hclA];exact oS2,sL2,by rw [hclA];exact sS⟩) ⟨by rfl,by rfl,trivial⟩
 intro mX c' ⟨a5,f5,hc31,kX,oGX,sLX,sCX⟩
 clear oG sL sC kC y2 hf4 hmC hgC
 obtain⟨o11,kz11,n11⟩:=Za7 (m:=mX) (cs:=[.int .i64 5]) (e:=3) rfl
 obtain⟨p1b,hp1b⟩:∃ z,Mem.next mX=z:=⟨_,rfl⟩
 rw [hp1b] at o11 n11
 obtain⟨mP1,hmP1⟩:∃ z,Mem.new mX [.int .i64 5] 3=z:=⟨_,rfl⟩
 rw [hmP1] at o11 kz11 n11
 obtain⟨o12,kz12,n12⟩:=Za7 (m:=mP1) (cs:=[.int .i64 5]) (e:=3) rfl
 obtain⟨p2b,hp2b⟩:∃ z,Mem.next mP1=z:=⟨_,rfl⟩
 rw [hp2b] at o12 n12
 obtain⟨mP2,hmP2⟩:∃ z,Mem.new mP1 [.int .i64 5] 3=z:=⟨_,rfl⟩
 rw [hmP2] at o12 kz12 n12
 obtain⟨o13,kz13,n13⟩:=Za7 (m:=mP2) (cs:=[.int .i64 1,.int .i64 0,.int .i64 0,.int .i64 41,.int .i64 1,.int .i64 0]) (e:=40) rfl
 obtain⟨p3b,hp3b⟩:∃ z,Mem.next mP2=z:=⟨_,rfl⟩
 rw [hp3b] at o13 n13
 obtain⟨mP3,hmP3⟩:∃ z,Mem.new mP2 [.int .i64 1,.int .i64 0,.int .i64 0,.int .i64 41,.int .i64 1,.int .i64 0] 40=z:=⟨_,rfl⟩
 rw [hmP3] at o13 kz13 n13
 obtain⟨o14,kz14,n14⟩:=Za7 (m:=mP3) (cs:=[.string ⟨#[]⟩,.slice none 0 0,.int .i64 0,.slice none 0 0,.slice none 0 0]) (e:=37) rfl
 obtain⟨p4b,hp4b⟩:∃ z,Mem.next mP3=z:=⟨_,rfl⟩
 rw [hp4b] at o14 n14
 obtain⟨mP4,hmP4⟩:∃ z,Mem.new mP3 [.string ⟨#[]⟩,.slice none 0 0,.int .i64 0,.slice none 0 0,.slice none 0 0] 37=z:=⟨_,rfl⟩
 rw [hmP4] at o14 kz14 n14
 simp [-Int.natCast_add,-BitVec.toNat_or,-BitVec.toNat_ofInt,-BitVec.toNat_and,Zai Zjd,Zad u28 Zjm rfl,Zai Zhz,Zad u31 Zj rfl,Zai Zhv,Zad u24 Ziw rfl,Zax u24 Zbn,Zbc u34 sz3 Zjf,Zbb u34 sz3,Zct ld3,Zai Zis,Zag Zb4,Zaf Za5,Zac u23,Za Zat,Zab Zbe,Zbc u38 sz3 Zjc,Zaa u23 sz3,Zab ld3,Zbb u38 sz3,Zad u23 bs3 rfl,Zax u23 sz3,Zaf Ze2,Zac u22,Zaa u22 Zb8,Za Zak,Za Zal,Zai Zh3,Zag Zem,Zaf Zb8,Zaf sz3,Za Za0,Za Zbl,Zab Zde,Zae Zcb,Zad u22 Zh4 rfl,Zax u22 Zb8,Zaf Zi8,Za Zaz,Zae Zby,Zad u41 Ziv rfl,Zad u42 bs9 rfl,Zad u43 bs2 rfl,Zai Zix,Zag Zir,Zaf Ziy,Zae Zbx,hp1b,hmP1,hp2b,hmP2,hp3b,hmP3,hp4b,hmP4]
 generalize hr1:Za8 _ _ _=r1
 obtain⟨mT,rfl,oT,kT⟩:=Za4 hr1 o14 (by simp) (by simp [Zbk,Zco,Zbp])
 simp [Zdh] at oT
 obtain⟨o15,kz15,n15⟩:=Za7 (m:=mT) (cs:=[.int .i64 41,.int .i64 0,.int .i64 0]) (e:=40) rfl
 obtain⟨q1,hq1⟩:∃ z,Mem.next mT=z:=⟨_,rfl⟩
 rw [hq1] at o15 n15
 obtain⟨mQ1,hmQ1⟩:∃ z,Mem.new mT [.int .i64 41,.int .i64 0,.int .i64 0] 40=z:=⟨_,rfl⟩
 rw [hmQ1] at o15 kz15 n15
 obtain⟨o16,kz16,n16⟩:=Za7 (m:=mQ1) (cs:=[.string ⟨#[109,97,105,110]⟩,.slice none 0 0,.int .i64 0,.slice none 0 0,.slice (some ⟨q1,0,none⟩) 1 1,.string ⟨#[80,46,109]⟩,.slice (some ⟨p1b,0,none⟩) 1 1,.int .i64 1,.slice (some ⟨p2b,0,none⟩) 1 1,.slice (some ⟨p3b,0,none⟩) 2 2,.string ⟨#[102]⟩,.slice none 0 0,.int .i64 rv,.slice a3 i i,.slice a5 c'.length c'.length]) (e:=37) rfl
 obtain⟨q2,hq2⟩:∃ z,Mem.next mQ1=z:=⟨_,rfl⟩
 rw [hq2] at o16 n16
 obtain⟨mQ2,hmQ2⟩:∃ z,Mem.new mQ1 [.string ⟨#[109,97,105,110]⟩,.slice none 0 0,.int .i64 0,.slice none 0 0,.slice (some ⟨q1,0,none⟩) 1 1,.string ⟨#[80,46,109]⟩,.slice (some ⟨p1b,0,none⟩) 1 1,.int .i64 1,.slice (some ⟨p2b,0,none⟩) 1 1,.slice (some ⟨p3b,0,none⟩) 2 2,.string ⟨#[102]⟩,.slice none 0 0,.int .i64 rv,.slice a3 i i,.slice a5 c'.length c'.length] 37=z:=⟨_,rfl⟩
 rw [hmQ2] at o16 kz16 n16
 obtain⟨o17,kz17,n17⟩:=Za7 (m:=mQ2) (cs:=[.string ⟨#[109]⟩,.string ⟨#[120]⟩]) (e:=9) rfl
 obtain⟨q3,hq3⟩:∃ z,Mem.next mQ2=z:=⟨_,rfl⟩
 rw [hq3] at o17 n17
 obtain⟨mQ3,hmQ3⟩:∃ z,Mem.new mQ2 [.string ⟨#[109]⟩,.string ⟨#[120]⟩] 9=z:=⟨_,rfl⟩
 rw [hmQ3] at o17 kz17 n17
 obtain⟨o18,kz18,n18⟩:=Za7 (m:=mQ3) (cs:=[.int .i64 7]) (e:=2) rfl
 obtain⟨q4,hq4⟩:∃ z,Mem.next mQ3=z:=⟨_,rfl⟩
 rw [hq4] at o18 n18
 obtain⟨mQ4,hmQ4⟩:∃ z,Mem.new mQ3 [.int .i64 7] 2=z:=⟨_,rfl⟩
 rw [hmQ4] at o18 kz18 n18
 obtain⟨o19,kz19,n19⟩:=Za7 (m:=mQ4) (cs:=[.slice none 0 0,.slice none 0 0,.int .i64 0,.slice none 0 0,.slice none 0 0]) (e:=45) rfl
 obtain⟨q5,hq5⟩:∃ z,Mem.next mQ4=z:=⟨_,rfl⟩
 rw [hq5] at o19 n19
 obtain⟨mQ5,hmQ5⟩:∃ z,Mem.new mQ4 [.slice none 0 0,.slice none 0 0,.int .i64 0,.slice none 0 0,.slice none 0 0] 45=z:=⟨_,rfl⟩
 rw [hmQ5] at o19 kz19 n19
 have kP3:Zao mX mP3 []:=(kz11.trans kz12).trans kz13
 have kXT:Zao mX mT []:=(kP3.trans kz14).fresh kT (by simp;have:=kP3.1;omega)
 have kTQ4:Zao mT mQ4 []:=((kz15.trans kz16).trans kz17).trans kz18
 have lP:=(oT.keep kz15 (by simp)).load (off:=0) 5 (by simp)
 have lF:=((oGX.keep kXT (by simp)).keep kz15 (by simp)).load (off:=0) 5 (by simp)
 simp [Zb] at lP lF
 simp [-Int.natCast_add,-BitVec.toNat_or,-BitVec.toNat_ofInt,-BitVec.toNat_and,Zai Zjd,Zad u28 Zjm rfl,Zai Zhz,Zad u31 Zj rfl,Zai Zhv,Zad u24 Ziw rfl,Zax u24 Zbn,Zbc u34 sz3 Zjf,Zbb u34 sz3,Zct ld3,Zai Zis,Zag Zb4,Zaf Za5,Zac u23,Za Zat,Zab Zbe,Zbc u38 sz3 Zjc,Zaa u23 sz3,Zab ld3,Zbb u38 sz3,Zad u23 bs3 rfl,Zax u23 sz3,Zaf Ze2,Zac u22,Zaa u22 Zb8,Za Zak,Za Zal,Zai Zh3,Zag Zem,Zaf Zb8,Zaf sz3,Za Za0,Za Zbl,Zab Zde,Zae Zcb,Zad u22 Zh4 rfl,Zax u22 Zb8,Zaf Zi8,Za Zaz,Zae Zby,Zad u41 Ziv rfl,Zad u42 bs9 rfl,Zad u43 bs2 rfl,Zai Zix,Zag Zir,Zaf Ziy,Zae Zbx,hq1,hmQ1,lP,lF,hq2,hmQ2,hq3,hmQ3,hq4,hmQ4,hq5,hmQ5]
 generalize hr2:Za8 _ _ _=r2
 obtain⟨mU,rfl,oU,kU⟩:=Za4 hr2 o19 (by simp) (by simp [Zbk,Zbp])
 simp [Zdh] at oU
 have kTU:Zao mT mU []:=(kTQ4.trans kz19).fresh kU (by simp;have:=kTQ4.1;omega)
 have kXU:=kXT.trans kTU
 have kQ2U:Zao mQ2 mU []:=((kz17.trans kz18).trans kz19).fresh kU (by simp;have:=kz17.1;have:=kz18.1;omega)
 have kQ3U:Zao mQ3 mU []:=(kz18.trans kz19).fresh kU (by simp;have:=kz18.1;omega)
 have kQ1U:Zao mQ1 mU []:=kz16.trans kQ2U
 have kP3T:Zao mP3 mT []:=kz14.fresh kT (by simp;omega)
 obtain⟨mV,hk,kV⟩:=Zxa (m:=mU) hN.d hN.v hN.f.base1 hN.one hN.known
 have lU:=(oU.keep kV (by simp)).load (off:=0) 5 (by simp)
 simp [Zb] at lU
 have hCF:Z6z ⟨[102],[],rv,ls,c'⟩:=⟨rfl,hlsv,by show ls.length≤5;omega,hrc⟩
 have kTBU:Zao m5 mU []:=kX.trans kXU
 have hPA:Zmg mU (Zjp ⟨[102],[],rv,ls,c'⟩) ⟨some ⟨b8,0,none⟩,some ⟨q2,0,none⟩,[⟨none,0,none,0,some ⟨q1,0,none⟩,q1⟩,⟨some ⟨p1b,0,none⟩,p1b,some ⟨p2b,0,none⟩,p2b,some ⟨p3b,0,none⟩,p3b⟩,⟨none,0,a3,f3,a5,f5⟩],q2,some ⟨q3,0,none⟩,q3,some ⟨q4,0,none⟩⟩:=by
  refine⟨hTB.keep kTBU,⟨rfl,fun i' h1 h2=>?_,?_,by simp [Zjp]⟩,?_⟩
  ·have h3:i' < 3:=by simpa [Zjp] using h1
   rcases (by omega:i'=0∨i'=1∨i'=2) with rfl | rfl | rfl
   ·exact⟨⟨by simp [Zjp],Or.inl ⟨rfl,.nil⟩⟩,⟨by simp [Zjp],Or.inl ⟨rfl,.nil⟩⟩,⟨by simp [Zjp],Or.inr ⟨q1,rfl,by simpa [Zjp] using (o15.keep kQ1U (by simp)).rdo⟩⟩⟩
   ·exact⟨⟨by simp [Zjp],Or.inr ⟨p1b,rfl,by simpa [Zjp] using ((((o11.keep kz12 (by simp)).keep kz13 (by simp)).keep kP3T (by simp)).keep kTU (by simp)).rdo⟩⟩,⟨by simp [Zjp],Or.inr ⟨p2b,rfl,by simpa [Zjp] using (((o12.keep kz13 (by simp)).keep kP3T (by simp)).keep kTU (by simp)).rdo⟩⟩,⟨by simp [Zjp],Or.inr ⟨p3b,rfl,by simpa [Zjp] using ((o13.keep kP3T (by simp)).keep kTU (by simp)).rdo⟩⟩⟩
   ·have g1:=(sLX.keepz kXU (fun _=>by simp)).rs
    rw [← hlsl] at g1
    exact⟨⟨by simp [Zjp],Or.inl ⟨rfl,.nil⟩⟩,g1,(sCX.keepz kXU (fun _=>by simp)).rs⟩
  ·refine⟨by simp [Zjp,Fn.row],Or.inr ⟨q2,rfl,?_⟩⟩
   have h9:=(o16.keep kQ2U (by simp)).rdo
   simpa [Zjp,Fn.row,hlsl] using h9
  ·exact⟨by simp [Zjp],Or.inr ⟨q3,rfl,by simpa [Zjp] using (o17.keep kQ3U (by simp)).rdo⟩⟩
 obtain⟨mW,hvr,kW⟩:=Zq (m:=mV) hN.d hN.v hN.f hN.ver (Z0i hCF) (hPA.keep kV)
 have erow:(Zjp ⟨[102],[],rv,ls,c'⟩).row ⟨some ⟨b8,0,none⟩,some ⟨q2,0,none⟩,[⟨none,0,none,0,some ⟨q1,0,none⟩,q1⟩,⟨some ⟨p1b,0,none⟩,p1b,some ⟨p2b,0,none⟩,p2b,some ⟨p3b,0,none⟩,p3b⟩,⟨none,0,a3,f3,a5,f5⟩],q2,some ⟨q3,0,none⟩,q3,some ⟨q4,0,none⟩⟩=[.slice (some ⟨b8,0,none⟩) 8 8,.slice (some ⟨q2,0,none⟩) 3 3,.int .i64 0,.slice (some ⟨q3,0,none⟩) 2 2,.slice (some ⟨q4,0,none⟩) 1 1]:=rfl
 rw [erow] at hvr
 simp [-Int.natCast_add,-BitVec.toNat_or,-BitVec.toNat_ofInt,-BitVec.toNat_and,Zai Zjd,Zad u28 Zjm rfl,Zai Zhz,Zad u31 Zj rfl,Zai Zhv,Zad u24 Ziw rfl,Zax u24 Zbn,Zbc u34 sz3 Zjf,Zbb u34 sz3,Zct ld3,Zai Zis,Zag Zb4,Zaf Za5,Zac u23,Za Zat,Zab Zbe,Zbc u38 sz3 Zjc,Zaa u23 sz3,Zab ld3,Zbb u38 sz3,Zad u23 bs3 rfl,Zax u23 sz3,Zaf Ze2,Zac u22,Zaa u22 Zb8,Za Zak,Za Zal,Zai Zh3,Zag Zem,Zaf Zb8,Zaf sz3,Za Za0,Za Zbl,Zab Zde,Zae Zcb,Zad u22 Zh4 rfl,Zax u22 Zb8,Zaf Zi8,Za Zaz,Zae Zby,Zad u41 Ziv rfl,Zad u42 bs9 rfl,Zad u43 bs2 rfl,Zai Zix,Zag Zir,Zaf Ziy,Zae Zbx,hk,lU,hvr]
end Go.Proofs.YtbldiceiindbdaaGreatDoor.base
