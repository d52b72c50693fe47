/- This text proves 'Rows.EvalRunsCardSaid': the law 'EvalRuns' returns true whatever it is given, in whatever memory and on every tape. The condition is the card's own: the listed package-level variables hold what the program's text lays. -/
import Derived.Test.YtlogdohlcdhepaaDoorCards
import Derived.Test.YtlogdohlcdhepaaDoorTie
import Derived.Deep.DeepHandedRow
import Derived.Lib.LaidTab
import Derived.Test.YtlogdohlcdhepaaDoorM24
set_option linter.unusedVariables false
set_option linter.unusedSimpArgs false
set_option maxRecDepth 100000
namespace Go.Proofs.YtlogdohlcdhepaaDoor.evalRuns
open Go.Sh gen base
variable {S:Zb2}{m:Mem}
abbrev Z0e:Ty:=(Ty.pair (Ty.slice 3 (Ty.int .i64)) (Ty.pair (Ty.slice 3 (Ty.int .i64)) (Ty.pair (Ty.int .i64) Ty.unit)))
abbrev Zrx:Ty:=(Ty.slice 45 (Ty.int .u64))
theorem Zv7 (l:List Int):(l.flatMap fun n:Int=>[Value.int .u64 n])=words l:=List.map_eq_flatMap.symm
theorem Ycw {l:List Int}(h:∀ n∈l,(Lit.int .u64 n).wf=true):Wd l:=fun n hn=>Z3d (h n hn)
theorem Ztp {Q:Nat→Prop}{l:Zrx.D}{c:List Value}(h:AtQ Q m Zrx l c):∃ ao f,c=[.slice ao (show List Int from l).length (show List Int from l).length]∧Rs m ao (show List Int from l).length (words l) 45 1 f∧((show List Int from l).length≠0→Q f):=by
 obtain⟨ao,css,fam,h1,h2,h3,h4,h5⟩:=h
 have h2:css.length=List.length l:=h2
 have:css.flatten=words l:=by
  have e:css=(show List Int from l).map fun n=>[Value.int .u64 n]:=by
   apply List.ext_getElem?
   intro i
   by_cases hi:i < List.length l
   ·have hc:i < css.length:=by omega
    have:=(h3 i (show List Int from l)[i] css[i] (List.getElem?_eq_getElem hi) (List.getElem?_eq_getElem hc)).at_
    simp only [At] at this
    simp [hi,hc,this]
   ·rw [List.getElem?_eq_none (by omega),List.getElem?_eq_none (by simp;omega)]
  rw [e,← List.flatMap_def]
  exact Zv7 l
 rw [this] at h4
 exact⟨ao,fam,h1,h4,h5⟩
theorem Z3k {l:Zrx.D}(h:Ty.wf Zrx l∧Ty.fits Tryd.prog Zrx l):Wd (show List Int from l)∧(show List Int from l).length * 8≤140737488351232:=by
 obtain⟨h1,h2⟩:=h
 refine⟨fun n hn=>Z3d (h1.2 n hn),?_⟩
 have e:Tryd.prog.bytesOf 45=8:=by kernel_rfl
 have h:=h2.1
 rw [e] at h
 exact h
theorem Z5m (ops sh:List Int)(n:Int)(hv:(Zcx ops sh n).vals.length≤300)(hb:(Zcx ops sh n).blks.length≤20)(hs:(Zcx ops sh n).sts.length≤330):Hd (Zcx ops sh n).un:=by
 obtain⟨B,D,hU,_⟩:=Znq ops sh n hv hb hs
 exact hU.hds
theorem Zqh (Q:Nat→Prop)(m:Mem):AtQ Q m (Ty.slice 44 (Ty.pair (Ty.int .i64) (Ty.pair (Ty.int .i64) (Ty.pair (Ty.slice 45 (Ty.int .u64)) (Ty.pair (Ty.slice 45 (Ty.int .u64)) Ty.unit))))) ([]:List Z3.D) [.slice none 0 0]:=
 ⟨none,[],0,rfl,rfl,fun k d c h=>by simp at h,(Sl.nil _ _ _ _).rs,fun q=>absurd rfl q⟩
theorem Ybe {m0 m1:Mem}{Q:Nat→Prop}{u:UnT.D}{K1:Kv}{v1:Value}{R:Ro}{b:Nat}(hok:UOk u)(X1:Z6t Q m0 m1 u K1 v1 R){n:Nat}(hw:HwL n R) :
  ∃ (c st val N:Int) (fo:Option Addr) (L:List Z3.D) (W:List Int) (wb:Nat),v1=.agg #[.int .i64 c,.int .i64 st,.int .i64 val,.slice fo L.length L.length,.int .i64 N]∧AtQ (fun f=>m0.next≤f) m1 (Ty.slice 44 (Ty.pair (Ty.int .i64) (Ty.pair (Ty.int .i64) (Ty.pair (Ty.slice 45 (Ty.int .u64)) (Ty.pair (Ty.slice 45 (Ty.int .u64)) Ty.unit))))) L [.slice fo L.length L.length]∧Zdn m1 K1.hb K1.hf wb K1.hwf W K1.room∧W.length=n∧
   (L.length≤1000000∧∀ f∈L,List.length f.2.2.1≤1000000∧List.length f.2.2.2.1≤1000000)∧
   ∀ (n0 n1:Mem) (K2:Kr) (v2:Value),Z45 n0 n1 u K2 v2 (R.hb b)→∃ go,v2=.agg #[.int .i64 c,.int .i64 st,.int .i64 val,.slice go L.length L.length,.int .i64 N]∧AtQ (fun f=>n0.next≤f) n1 (Ty.slice 44 (Ty.pair (Ty.int .i64) (Ty.pair (Ty.int .i64) (Ty.pair (Ty.slice 45 (Ty.int .u64)) (Ty.pair (Ty.slice 45 (Ty.int .u64)) Ty.unit))))) L [.slice go L.length L.length]∧Zd8 n1 K2.hb K2.hf b K2.hwf W K2.room:=by
 cases R with
 | go A=>exact X1.elim
 | tired A =>
  obtain⟨rfl,ev⟩:=X1
  refine⟨0,-1,-1,A.steps,none,[],A.hw,A.hwb,rfl,Zqh _ _,ev.heap,hw,⟨by simp,by simp⟩,fun n0 n1 K2 v2 X2=>?_⟩
  obtain⟨rfl,hr⟩:=X2
  exact⟨none,rfl,Zqh _ _,hr⟩
 | left A st val =>
  obtain⟨⟨fo,rfl,hfr⟩,ev⟩:=X1
  obtain⟨L,hL⟩:∃ L,(stD u st).map (frW A.ws)=L:=⟨_,rfl⟩
  have hk:(stD u st).length=L.length:=by rw [← hL,List.length_map]
  rw [hL,hk] at hfr
  refine⟨1,st,val,A.steps,fo,L,A.hw,A.hwb,by rw [hk],hfr,ev.heap,hw,?_,fun n0 n1 K2 v2 X2=>?_⟩
  ·by_cases hst:st < ns u
   ·have h9:=hok.fr st hst
    rw [Zhc hst] at hL
    refine⟨by rw [← hL,List.length_map];exact h9.1,fun f hf=>?_⟩
    rw [← hL] at hf
    obtain⟨g,hg,rfl⟩:=List.mem_map.1 hf
    have:=h9.2 g hg
    exact⟨by simp only [frW,Zlj,List.length_map];exact this.1,by simp only [frW,Zlj,List.length_map];exact this.2.1⟩
   ·have:L=[]:=by
     rw [← hL]
     unfold stD
     rw [List.getD_eq_getElem?_getD,List.getElem?_eq_none (by simpa using hst)]
     rfl
    rw [this];simp
  ·obtain⟨⟨go,rfl,hgr⟩,hr⟩:=X2
   have hgr:AtQ (fun f=>n0.next≤f) n1 (Ty.slice 44 (Ty.pair (Ty.int .i64) (Ty.pair (Ty.int .i64) (Ty.pair (Ty.slice 45 (Ty.int .u64)) (Ty.pair (Ty.slice 45 (Ty.int .u64)) Ty.unit))))) ((stD u st).map (frW A.ws)) [.slice go (stD u st).length (stD u st).length]:=hgr
   rw [hL,hk] at hgr
   exact⟨go,by rw [hk],hgr,hr⟩
set_option maxHeartbeats 16000000 in
theorem Z00 (hK:S 12=[([],.bool true)])(hN:Nz S){d:Z0e.D}{cs:List Value}(hl:Ty.wf Z0e d∧Ty.fits Tryd.prog Z0e d)(ha:At m Z0e d cs)
  {refs:List Int} {ro:Option Addr} {rf:Nat} (hr:Rs m ro refs.length (words refs) 45 1 rf) (hrq:refs.length≠0→rf < m.next) (hrw:Wd refs)
  {loc:List Int} {lo:Option Addr} {lf:Nat} (ho0:Rs m lo loc.length (words loc) 45 1 lf) (hlq:loc.length≠0→lf < m.next) (hlw:Wd loc) (hll:loc.length * 8≤140737488351232)
  {wish fuel:Int} (hwi:(Lit.int .i64 wish).wf=true) (hfu:(Lit.int .i64 fuel).wf=true) {any:Bool} :
  ∃ r m',Zag Tryd.prog TT S 4 [Zgp Z0e cs,.slice ro refs.length refs.length,.slice lo loc.length loc.length,.int .i64 wish,.int .i64 fuel,.bool any] m=some (r,m')∧r=.bool true:=by
 have hkn:=fun m'=>Z77 (P:=Tryd.prog) (T:=TT) (m:=m') hK
 have hNk:∀ f,f≠66→f≠12→S f=[]:=hN.e
 obtain⟨c1,c2,ecs,hops,c3,c4,ec2,hsh,c5,c6,ec4,hn,hunit⟩:=ha.atQ
 simp only [AtQ] at hunit hn
 subst hunit hn ec4
 obtain⟨oa,f1,rfl,hro,hqo⟩:=Zfr hops
 obtain⟨sa,f2,rfl,hrs,hqs⟩:=Zfr hsh
 subst ec2 ecs
 obtain⟨ops,sh,n,x⟩:=d
 have hol:ops.length≤9223372036854775807:=hl.1.1.1
 change ∃ r m',Zag Tryd.prog TT S 4 [.agg #[.slice oa ops.length ops.length,.slice sa sh.length sh.length,.int .i64 n],.slice ro refs.length refs.length,.slice lo loc.length loc.length,.int .i64 wish,.int .i64 fuel,.bool any] m=some (r,m')∧r=.bool true
 have io:Za2 (fun f=>f < m.next) m oa ops:=⟨f1,hro,hqo⟩
 have is:Za2 (fun f=>f < m.next) m sa sh:=⟨f2,hrs,hqs⟩
 clear hops hsh hro hrs ha
 obtain⟨o1,k1,n1⟩:=Zat (m:=m) (cs:=[.slice oa ops.length ops.length,.slice sa sh.length sh.length,.int .i64 n]) (e:=47) rfl
 obtain⟨b1,hb1⟩:∃ b,m.next=b:=⟨_,rfl⟩
 obtain⟨m1,hm1⟩:∃ mm,m.new [.slice oa ops.length ops.length,.slice sa sh.length sh.length,.int .i64 n] 47=mm:=⟨_,rfl⟩
 rw [hm1,hb1] at o1 n1
 rw [hm1] at k1
 have l1:=o1.load (off:=0) 3 (by simp)
 simp [Zao] at l1
 have i1:∀ {ao:Option Addr} {l:List Int},Za2 (fun f=>f < m.next) m ao l→Za2 (fun f=>f < m1.next) m1 ao l:=fun h=>by
  obtain⟨f,h1,h2⟩:=h.keep k1 (by simp)
  exact⟨f,h1,fun hz=>by have:=h2 hz;have:=k1.1;omega⟩
 obtain⟨_,mU,cU,va,ba,ta,rfl,hUA,kU,nu1,nu2,nu3,nu4⟩:=Z2o (m0:=m1) (n:=n) ⟨hNk _ (by decide) (by decide),hNk _ (by decide) (by decide),hNk _ (by decide) (by decide),hNk _ (by decide) (by decide),hNk _ (by decide) (by decide),hNk _ (by decide) (by decide),hNk _ (by decide) (by decide)⟩ (i1 io) (i1 is) hol
 obtain⟨hok,hheads,hckA⟩:=Zvm hN.nk ops sh n nu1 nu2 nu3 nu4
 have hhd:=Z5m ops sh n nu2 nu3 nu4
 have hsz:=Zux ops sh n
 generalize Zcx ops sh n=s at *
 obtain⟨o2,k2,n2⟩:=Zat (m:=mU) (cs:=[.int .i64 0,.int .i64 0,.slice none 0 0,.slice none 0 0,.slice none 0 0]) (e:=34) rfl
 obtain⟨xb,hxb⟩:∃ b,mU.next=b:=⟨_,rfl⟩
 obtain⟨mV,eV,oU,kV⟩:=Zaj (r:=_) rfl o2 (off:=0) (vs:=Zbw s.un va ba ta) (by simp) (by simp [Zam,Zad])
 have kUV:=k2.fresh kV (by simp)
 have eo:Zbr [.int .i64 0,.int .i64 0,.slice none 0 0,.slice none 0 0,.slice none 0 0] 0 (Zbw s.un va ba ta)=Zbw s.un va ba ta:=rfl
 rw [eo] at oU
 have eV:Zaf (mU.new [.int .i64 0,.int .i64 0,.slice none 0 0,.slice none 0 0,.slice none 0 0] 34) ⟨mU.next,0,none⟩ [.int .i64 1,.int .i64 2,.slice va s.vals.length s.vals.length,.slice ba s.blks.length s.blks.length,.slice ta s.sts.length s.sts.length]=some mV:=eV
 rw [hxb] at oU eV
 have hUV:=hUA.keep kUV (by simp)
 have kmV:Zaa m mV []:=(k1.trans kU).trans kUV
 have hHo:Ho S:=⟨hNk _ (by decide) (by decide),hNk _ (by decide) (by decide),hNk _ (by decide) (by decide),hNk _ (by decide) (by decide),hNk _ (by decide) (by decide),hNk _ (by decide) (by decide)⟩
 have hHp:Hp S:=⟨hNk _ (by decide) (by decide),hNk _ (by decide) (by decide),hNk _ (by decide) (by decide),hNk _ (by decide) (by decide),hNk _ (by decide) (by decide),hNk _ (by decide) (by decide),hNk _ (by decide) (by decide),hNk _ (by decide) (by decide),hNk _ (by decide) (by decide)⟩
 have hos:=Zzj hrw
 obtain⟨_,mO,cO,⟨rb,vb,vf,rfl,hR,nr1,nr2⟩,kO⟩:=Zrs (m:=mV) (hNk 14 (by decide) (by decide)) hHo (c:=refs.length) (hr.keep0 kmV (by simp)) (fun z=>by have:=hrq z;have:=kmV.1;omega) hrw
 obtain⟨_,mH,cH,⟨h1,hf1,wb1,wf1,rfl,hH,nh1,nw1⟩,kH⟩:=Z2t (hNk 15 (by decide) (by decide)) hHp hos hR
 have kVH:=kO.trans kH
 have kmH:=kmV.trans kVH
 obtain⟨hw,hhw⟩:∃ hw,wO (Zp refs)=hw:=⟨_,rfl⟩
 have hwne:hw≠[]:=by rw [← hhw];simp [wO]
 have hwl:hw.length≤100:=by rw [← hhw];have:=hos.l;omega
 have hwd:Wd hw:=by rw [← hhw];exact Z9c hos
 rw [hhw] at hH hR
 have q1:=hR.h.flt
 have q2:=hR.w.flt
 have q3:=hH.h.flt
 have q4:=hH.w.flt
 have q5:=kO.1
 have q6:=kUV.1
 have q7:=oU.flt
 have q8:=kmV.1
 obtain⟨mB,hmB⟩:∃ mB,mH.new [] 45=mB:=⟨_,rfl⟩
 have kB:Zaa mH mB []:=by rw [← hmB];exact Zb0 _ _ _ _
 have oB:=Own.new mH [] 45
 rw [hmB] at oB
 have loB:=Z7b ((ho0.keep0 kmH (by simp)).keep0 kB (by simp))
 have fc:∀ {ra},Zan Tryd.prog 42 mB (.slice (some ⟨mH.next,0,none⟩) 0 0) (words loc) loc.length=ra→∃ mC cb,ra=some (.slice (some ⟨cb,0,none⟩) loc.length loc.length,mC)∧Own mC cb (words loc) 45 mH.next∧Zaa mH mC []:=by
  intro ra hra
  obtain⟨mC,cb,rfl,oC,kC⟩:=Zf9 hra u42 Zww oB (by simp) (by simp [words]) (by simp [words,Zam]) (by omega) (by omega)
  exact⟨mC,cb,by simp,by simpa using oC,kB.fresh kC (by simp)⟩
 obtain⟨mC,cb,hC,oC,kC⟩:=fc rfl
 have kmC:=kmH.trans kC
 have hQC:∀ f,f < mU.next→f < mC.next:=fun f hf=>by have:=kVH.1;have:=kC.1;omega
 have hUC:=(hUV.keep kVH (by simp)).keep kC (by simp)
 have oUC:=(oU.keep kVH (by simp)).keep kC (by simp)
 have hHC:=hH.keep kC (by simp) (by simp)
 have hRC:=((hR.keep kH (by simp) (by simp)).keep kC (by simp) (by simp))
 have kC1:=kC.1
 have kH1:=kH.1
 have lU:∀ m',Zaa mH m' [hf1,wf1]→loadRow m' ⟨xb,0,none⟩ 5=some [.int .i64 1,.int .i64 2,.slice va s.vals.length s.vals.length,.slice ba s.blks.length s.blks.length,.slice ta s.sts.length s.sts.length]:=fun m' k=>((oU.keep kVH (by simp)).keep k (by simp;omega)).load (off:=0) 5 (by simp)
 have lUH:=lU mH ((Zca _).mono (by simp))
 have lUB:=lU mB (kB.nil)
 have lUC:=lU mC (kC.nil)
 have pk:=Zhf (m:=mH) (hNk 16 (by decide) (by decide)) wish 6 (by omega) (by omega)
 have pkf:=Zhf (m:=mH) (hNk 16 (by decide) (by decide)) fuel 1000 (by omega) (by omega)
 obtain⟨f,hf5⟩:∃ f,fuel % 1000=f:=⟨_,rfl⟩
 have f0:0≤f∧f≤999:=by omega
 rw [hf5] at pkf
 have wi64:=Z70 hwi
 obtain⟨wz,hwz,wr⟩:∃ wz:Int,wz=(if any=true then wish else wish % 6 - 1)∧-9223372036854775808≤wz∧wz≤9223372036854775807:=by
  refine⟨_,rfl,?_⟩
  cases any
  ·rw [if_neg (by simp)];omega
  ·rw [if_pos rfl];exact wi64
 have ww:IntKind.i64.wrap (wish % 6 - 1)=wish % 6 - 1:=Zab (by omega) (by omega)
 have hck:∀ m',Zaa mC m' []→∃ m2,Zag Tryd.prog TT S 22 [.agg (Zbw s.un va ba ta).toArray] m'=some (.bool true,m2)∧Zaa m' m2 []:=fun m' k=>hckA m' (hUC.keep k (by simp)) (fun f hf=>by have:=hQC f hf;have:=k.1;omega)
 have oCr:Rs mC (some ⟨cb,0,none⟩) loc.length (words loc) 45 1 mH.next:=(Sl.of oC (by simp [words])).rs
 have hH1:=hHC.h.flt
 obtain⟨v1,mR1,cR1,⟨K1,e1,e2,e3,e4,X1⟩,kR1⟩:=Z5r (m:=mC) (Z3e hN) hUC hQC hok hck hHC ⟨by omega,by omega⟩ hwd (by omega) oCr (fun _=>by have:=oC.flt;omega) hlw (c:=loc.length) ⟨Nat.le_refl _,by omega⟩ (wish:=wz) (fuel:=f) wr (by omega)
 obtain⟨V1,hV1⟩:∃ V:Vv,(⟨wb1,hw,(Zhk s.un loc (Zbt s.un 0).1 (List.replicate (nv s.un) 0,0)).1,wz,(Zhk s.un loc (Zbt s.un 0).1 (List.replicate (nv s.un) 0,0)).2⟩:Vv)=V:=⟨_,rfl⟩
 have eV2:(⟨vb,hw,(Zhk s.un loc (Zbt s.un 0).1 (List.replicate (nv s.un) 0,0)).1,wz,(Zhk s.un loc (Zbt s.un 0).1 (List.replicate (nv s.un) 0,0)).2⟩:Vv)={ V1 with hwb:=vb }:=by rw [← hV1]
 have hV1w:V1.hw=hw:=by rw [← hV1]
 rw [hV1] at X1
 have hlen:=Zuo (u:=s.un) (fuel:=f) (f.toNat+1) 0 V1
 rw [hV1w] at hlen
 obtain⟨R,hRR⟩:∃ R,Zib s.un f (f.toNat+1) 0 V1=R:=⟨_,rfl⟩
 rw [hRR] at X1 hlen
 obtain⟨c,st,val,N,fo,L,W,wbx,rfl,FA,HA,hWl,hLb,next⟩:=Ybe (b:=vb) hok X1 hlen
 rw [e1,e2,e3,e4] at HA
 obtain⟨mE1,fE1,eE1,oE1,kE1,nE1⟩:=Zqy (m:=mR1) (zs:=[.int .i64 0,.int .i64 0,.int .i64 0,.slice none 0 0,.int .i64 0]) (vs:=[.int .i64 c,.int .i64 st,.int .i64 val,.slice fo L.length L.length,.int .i64 N]) (e:=28) rfl (by simp [Zam,Zad])
 have kCE:Zaa mC mE1 [hf1,wf1]:=kR1.trans kE1.nil
 have kR11:=kR1.1
 have kE11:=kE1.1
 have hUE:=hUC.keep kCE (fun f hf=>by simp at hf;omega)
 have hRE:=hRC.keep kCE (by simp;omega) (by simp;omega)
 have hhp:=Z0o hhd (fun v hv=>by have:=(hok.bl 0 hok.b.1).vin v hv;exact this.1) hok.b.1 loc vb hw wz
 have hNu:=Z3e hN
 obtain⟨v2,mR2,cR2,K2,b1,b2,b3,b4,X2,kR2⟩:=Yd (m:=mE1) ⟨hNk _ (by decide) (by decide),hNk _ (by decide) (by decide),hNu.nv.tw,hNk _ (by decide) (by decide),hNk _ (by decide) (by decide),hNk _ (by decide) (by decide),hNk _ (by decide) (by decide)⟩ hUE (fun f hf=>by have:=hQC f hf;omega) hok hhd hRE ⟨by omega,by omega⟩ hwd (by omega) ((ho0.keep0 kmC (by simp)).keep0 kCE (fun z=>by have:=hlq z;have:=kmV.1;simp;omega)) (fun z=>by have:=hlq z;have:=kmC.1;omega) hlw (by omega) (wish:=wz) (fuel:=f) wr (by omega)
  (A:=fun v m1=>∃ K:Kr,K.hb=rb∧K.hf=rb∧K.hwf=vf∧K.room=100∧Z45 mE1 m1 s.un K v (R.hb vb)∧Zaa mE1 m1 [vf])
  (fun v m1 K h1 h2 h3 h4 h5 h6=>⟨K,h1,h2,h3,h4,by rw [hhp,eV2,Zw0,hRR] at h5;exact h5,h6⟩)
 obtain⟨go,rfl,FB,HB⟩:=next mE1 mR2 K2 v2 X2
 rw [b1,b2,b3,b4] at HB
 obtain⟨mE2,fE2,eE2,oE2,kE2,nE2⟩:=Zqy (m:=mR2) (zs:=[.int .i64 0,.int .i64 0,.int .i64 0,.slice none 0 0,.int .i64 0]) (vs:=[.int .i64 c,.int .i64 st,.int .i64 val,.slice go L.length L.length,.int .i64 N]) (e:=28) rfl (by simp [Zam,Zad])
 have kR21:=kR2.1
 have k12:Zaa mE1 mE2 [vf]:=kR2.trans kE2.nil
 have kR12:Zaa mR1 mE2 [vf]:=(kE1.nil (fs:=[vf])).trans k12
 have OA:=oE1.keep k12 (by simp;omega)
 have HA:=HA.keep kR12 (by simp;omega) (by simp;omega)
 have HB:=HB.keep kE2 (by simp) (by simp)
 have FA:=FA.keep kR12 (fun f hf=>by simp at hf;omega)
 have FB:=FB.keep kE2 (by simp)
 have hF:∀ m2,Zaa mE2 m2 []→Zag Tryd.prog TT S 45 [.slice fo L.length L.length,.slice go L.length L.length] m2=some (.bool true,m2):=fun m2 k2=>Zu4 (m:=m2) (hNk _ (by decide) (by decide)) (hNk _ (by decide) (by decide)) (FA.keep k2 (by simp)) (FB.keep k2 (by simp)) hLb.1 hLb.2
 have la:=OA.load (off:=0) 5 (by simp)
 have lb:=oE2.load (off:=0) 5 (by simp)
 simp [Zao] at la lb
 have nex:W≠[]:=fun e=>by
  rw [e] at hWl
  cases hw with
  | nil=>exact hwne rfl
  | cons _ _=>simp at hWl
 obtain⟨_,m1',c1,rfl,k1'⟩:=Z11 (m:=mE2) (hN.e 18 (by decide) (by decide)) (c:=c) (st:=st) (val:=val) (n:=N) hF
 obtain⟨_,m2',c2,nb1,nf1,rfl,o2',n2',k2'⟩:=Zp3 (hN.e 20 (by decide) (by decide)) (HA.keep k1' (by simp) (by simp)) nex (by omega)
 have HB1:=HB.keep k1' (by simp) (by simp)
 have HB2:=HB1.keep k2' (by simp) (by simp)
 have lw0:=HB.h.load1 (off:=1) rfl
 have lw1:=HB1.h.load1 (off:=1) rfl
 have lw2:=HB2.h.load1 (off:=1) rfl
 obtain⟨q,c4,hq⟩:=Zrp (m:=m2') (hN.e 19 (by decide) (by decide)) (Sl.of o2' (by rw [Ze5];simp)).rs (Sl.of HB2.w (by rw [Ze5];simp)).rs (by omega) (by omega)
 have hqt:=hq.2 rfl
 subst hqt
 have lUE:=lU mE1 ((kC.nil (fs:=[hf1,wf1])).trans kCE)
 have cR1:Zag Tryd.prog TT S 10 [.agg #[.int .i64 1,.int .i64 2,.slice va s.vals.length s.vals.length,.slice ba s.blks.length s.blks.length,.slice ta s.sts.length s.sts.length],.pointer (some ⟨h1,0,none⟩),.slice (some ⟨cb,0,none⟩) loc.length loc.length,.int .i64 wz,.int .i64 f] mC=_:=cR1
 have cR2:Zag Tryd.prog TT S 17 [.agg #[.int .i64 1,.int .i64 2,.slice va s.vals.length s.vals.length,.slice ba s.blks.length s.blks.length,.slice ta s.sts.length s.sts.length],.pointer (some ⟨rb,0,none⟩),.slice lo loc.length loc.length,.int .i64 wz,.int .i64 f] mE1=_:=cR2
 refine Zfi 19 [33,35] k4 (hNk _ (by decide) (by decide)) rfl ?_
 cases any
 ·have hwz:wz=wish % 6 - 1:=by simpa using hwz
  subst hwz
  simp [-Int.natCast_add,-BitVec.toNat_or,-BitVec.toNat_ofInt,-BitVec.toNat_and,Zcu b47,Za u42 Zrw rfl,Ztj u42 Zrv,hm1,hb1,l1,cU,hxb,eV,cO,cH,hkn,pk,pkf,ww,lUH,lUB,lUC,hmB,loB,hC,cR1,eE1,lUE,cR2,eE2,la,lb,c1,c2,lw0,lw1,lw2,c4]
 ·have hwz:wz=wish:=by simpa using hwz
  subst hwz
  simp [-Int.natCast_add,-BitVec.toNat_or,-BitVec.toNat_ofInt,-BitVec.toNat_and,Zcu b47,Za u42 Zrw rfl,Ztj u42 Zrv,hm1,hb1,l1,cU,hxb,eV,cO,cH,hkn,pkf,lUH,lUB,lUC,hmB,loB,hC,cR1,eE1,lUE,cR2,eE2,la,lb,c1,c2,lw0,lw1,lw2,c4]
theorem Z5q (hK:S 12=[([],.bool true)])(hN:Nz S){d:Z0e.D}{cs:List Value}(hl:Ty.wf Z0e d∧Ty.fits Tryd.prog Z0e d)(ha:At m Z0e d cs)
  {refs:Zrx.D} {rcs:List Value} (hrl:Ty.wf Zrx refs∧Ty.fits Tryd.prog Zrx refs) (hra:At m Zrx refs rcs)
  {loc:Zrx.D} {lcs:List Value} (hll:Ty.wf Zrx loc∧Ty.fits Tryd.prog Zrx loc) (hla:At m Zrx loc lcs)
  {wish fuel:Int} (hwi:(Lit.int .i64 wish).wf=true) (hfu:(Lit.int .i64 fuel).wf=true) {any:Bool} :
  ∃ r m',Zag Tryd.prog TT S 4 [Zgp Z0e cs,Zgp Zrx rcs,Zgp Zrx lcs,.int .i64 wish,.int .i64 fuel,.bool any] m=some (r,m')∧r=.bool true:=by
 obtain⟨ro,rf,rfl,hr,hrq⟩:=Ztp hra.atQ
 obtain⟨hrw,hrl⟩:=Z3k hrl
 obtain⟨lo,lf,rfl,ho0,hlq⟩:=Ztp hla.atQ
 obtain⟨hlw,hll⟩:=Z3k hll
 exact Z00 hK hN hl ha (refs:=refs) hr hrq hrw (loc:=loc) ho0 hlq hlw hll hwi hfu
open Go.ChangeShapes Go.WideShapes Go.ChangeAt Go.RowKit
theorem own:ownKnob Tryd.prog.godebug=none:=by kernel_rfl
theorem tab:Sh.tabCheck Tryd.prog fns=true:=by kernel_rfl
def Zun:List (Nat × List Value):=[]
theorem Z7d (w:World)(h:laidMetH Tryd.prog Rows.evalRunsRow.laid w):Za8 Tryd.prog (Z6m Tryd.prog) (memG Tryd.prog Zun) (Zfd w) w w:=by
 refine Zuk Tryd.prog w Zun fun p hp=>?_
 simp only [Zun,List.mem_cons,List.not_mem_nil,or_false] at hp
theorem Z9w (w:World)(hL:laidMetH Tryd.prog Rows.evalRunsRow.laid w){v0:Value}(h0:Zog Tryd.prog w (Ty.pair (Ty.slice 3 (Ty.int .i64)) (Ty.pair (Ty.slice 3 (Ty.int .i64)) (Ty.pair (Ty.int .i64) Ty.unit))) v0){v1:Value}(h1:Zog Tryd.prog w (Ty.slice 45 (Ty.int .u64)) v1){v2:Value}(h2:Zog Tryd.prog w (Ty.slice 45 (Ty.int .u64)) v2)(x3:Int)(hx3:(Lit.int .i64 x3).wf=true)(x4:Int)(hx4:(Lit.int .i64 x4).wf=true)(x5:Bool) :
  Calls Tryd.prog 4 #[v0,v1,v2,.int .i64 x3,.int .i64 x4,.bool x5] w fun e w'=>e=.returned (.bool true)∧Below w.heap.size w w':=by
 have hM:=Z7d w hL
 obtain⟨rs0,J0,m0,cs0,hw0,le0,hM0,vr0,hr0,hk0⟩:=h0 _ _ hM
 obtain⟨rs1,J1,m1,cs1,hw1,le1,hM1,vr1,hr1,hk1⟩:=h1 _ _ hM0
 obtain⟨rs2,J2,m2,cs2,hw2,le2,hM2,vr2,hr2,hk2⟩:=h2 _ _ hM1
 obtain⟨v',m',h,rfl⟩:=Z5q (S:=Z9d) (m:=m2) rfl nz hw0 ((hr0.keep hk1).keep hk2) hw1 (hr1.keep hk2) hw2 hr2 hx3 hx4
 exact Z24 Zsd (Sh.tab_ok tab) Z7g Tryd.func4 (by kernel_rfl) h rfl hM2 (.cons ((vr0.mono le1).mono le2) (.cons (vr1.mono le2) (.cons vr2 (.cons (.clo _ rfl) (.cons (.clo _ rfl) (.cons (.clo _ rfl) Zct.nil))))))
theorem Zsc:laidOutB Tryd.prog=true:=by kernel_rfl
theorem Zq0 {H:Type}{enc:TypeId × Value→H}{P:Program}{w:World}{base:Nat}{spare:Nat→Bool}{held:Bool}{y0 y1 y2 y3 y4 y5:TypeId}{args:Array Value}{ds:List (DataW H)}{ps:List MemPlace}(h:DataW.TrodAll enc P w base spare held [y0,y1,y2,y3,y4,y5] args.toList ds ps) :
  ∃ v0 v1 v2 v3 v4 v5 d0 d1 d2 d3 d4 d5 p0 p1 p2 p3 p4 p5,args=#[v0,v1,v2,v3,v4,v5]∧ds=[d0,d1,d2,d3,d4,d5]∧ps=p0++p1++p2++p3++p4++p5∧DataW.Trod enc P w base spare held y0 v0 d0 p0∧DataW.Trod enc P w base spare held y1 v1 d1 p1∧DataW.Trod enc P w base spare held y2 v2 d2 p2∧DataW.Trod enc P w base spare held y3 v3 d3 p3∧DataW.Trod enc P w base spare held y4 v4 d4 p4∧DataW.Trod enc P w base spare held y5 v5 d5 p5:=by
 obtain⟨v0,vs0,d0,es0,p0,q0,hargs,rfl,rfl,a0,b0⟩:=trodAll_cons h
 obtain⟨v1,vs1,d1,es1,p1,q1,rfl,rfl,rfl,a1,b1⟩:=trodAll_cons b0
 obtain⟨v2,vs2,d2,es2,p2,q2,rfl,rfl,rfl,a2,b2⟩:=trodAll_cons b1
 obtain⟨v3,vs3,d3,es3,p3,q3,rfl,rfl,rfl,a3,b3⟩:=trodAll_cons b2
 obtain⟨v4,vs4,d4,es4,p4,q4,rfl,rfl,rfl,a4,b4⟩:=trodAll_cons b3
 obtain⟨v5,vs5,d5,es5,p5,q5,rfl,rfl,rfl,a5,b5⟩:=trodAll_cons b4
 obtain⟨rfl,rfl,rfl⟩:=trodAll_nil b5
 exact⟨v0,v1,v2,v3,v4,v5,d0,d1,d2,d3,d4,d5,p0,p1,p2,p3,p4,p5,by cases args;simp_all,rfl,by simp,a0,a1,a2,a3,a4,a5⟩
theorem Zne {H:Type}{enc:TypeId × Value→H}{P:Program}{w:World}{base:Nat}{spare:Nat→Bool}{held:Bool}{y0 y1 y2 y3 y4 y5:TypeId}{v0 v1 v2 v3 v4 v5:Value}{d0 d1 d2 d3 d4 d5:DataW H}{p0 p1 p2 p3 p4 p5:List MemPlace}(a0:DataW.Trod enc P w base spare held y0 v0 d0 p0)(a1:DataW.Trod enc P w base spare held y1 v1 d1 p1)(a2:DataW.Trod enc P w base spare held y2 v2 d2 p2)(a3:DataW.Trod enc P w base spare held y3 v3 d3 p3)(a4:DataW.Trod enc P w base spare held y4 v4 d4 p4)(a5:DataW.Trod enc P w base spare held y5 v5 d5 p5):DataW.TrodAll enc P w base spare held [y0,y1,y2,y3,y4,y5] [v0,v1,v2,v3,v4,v5] [d0,d1,d2,d3,d4,d5] (p0++(p1++(p2++(p3++(p4++(p5++[])))))):=(trodAll_cons_mk a0 (trodAll_cons_mk a1 (trodAll_cons_mk a2 (trodAll_cons_mk a3 (trodAll_cons_mk a4 (trodAll_cons_mk a5 trodAll_mk0))))))
theorem Z0q (H:Type)(enc:TypeId × Value→H)(W:World)(base:Nat)(args:Array Value)(ds gs:List (DataW H))(before:List MemPlace)
  (Zgm:∀ (j:Nat) t v,Tryd.f4.params[j]?=some t→args[j]?=some v→Value.okWide Tryd.prog W .any base t v)
  (hW:DataW.Whole enc Tryd.prog Tryd.f4.params.toList Rows.evalRunsSpec.vars false W args.toList ds gs before) (hwt0:(DataW.weightsEach Tryd.prog (Tryd.f4.params.toList++(OpenSpec.ofChange Rows.evalRunsSpec).bare.plain.varTypes Tryd.prog) (ds++gs)).all (·≤reachBytes)=true) (hL:laidMetH Tryd.prog Rows.evalRunsRow.laid W) :
  Calls Tryd.prog 4 args W fun e W'=>∃ v,e=.returned v∧Rows.evalRunsSpec.post enc Tryd.prog Tryd.f4 false true false false W args v W':=by
 have hW':=hW
 obtain⟨p,q,hA0,hV,rfl,hfz,hnd⟩:=hW
 have hA:DataW.TrodAll enc Tryd.prog W 0 (fun _=>true) true Tryd.f4.params.toList args.toList ds p:=hA0
 rw [Tryd.params4] at hA Zgm
 have hwt:=hwt0
 rw [Tryd.params4] at hwt
 obtain⟨v0,v1,v2,v3,v4,v5,d0,d1,d2,d3,d4,d5,p0,p1,p2,p3,p4,p5,rfl,rfl,rfl,t0,t1,t2,t3,t4,t5⟩:=Zq0 hA
 obtain⟨rfl,rfl⟩:=trodVars_none hV
 simp only [List.toList_toArray,List.cons_append,List.nil_append,DataW.weightsEach,List.all_append,Bool.and_eq_true] at hwt
 have hv0:=Zlx (ty:=(Ty.pair (Ty.slice 3 (Ty.int .i64)) (Ty.pair (Ty.slice 3 (Ty.int .i64)) (Ty.pair (Ty.int .i64) Ty.unit)))) (t:=47) (by kernel_rfl) (Zgm 0 _ _ rfl rfl) t0 hwt.1
 have hv1:=Zlx (ty:=(Ty.slice 45 (Ty.int .u64))) (t:=42) (by kernel_rfl) (Zgm 1 _ _ rfl rfl) t1 hwt.2.1
 have hv2:=Zlx (ty:=(Ty.slice 45 (Ty.int .u64))) (t:=42) (by kernel_rfl) (Zgm 2 _ _ rfl rfl) t2 hwt.2.2.1
 obtain⟨x3,rfl,rfl,rfl,hx3⟩:=open_int u3 (Zgm 3 _ _ rfl rfl) t3
 obtain⟨x4,rfl,rfl,rfl,hx4⟩:=open_int u3 (Zgm 4 _ _ rfl rfl) t4
 obtain⟨x5,rfl,rfl,rfl⟩:=open_bool u4 (Zgm 5 _ _ rfl rfl) t5
 clear hA0
 simp only [List.append_nil,List.nil_append] at hW'
 refine (Z9w W hL hv0 hv1 hv2 x3 hx3 x4 hx4 x5).mono fun e W' ⟨he,hg⟩=>?_
 subst he
 have hlt0:∀ z∈p0,z.block < W.heap.size:=fun z hz=>hW'.lt z (by simp [hz])
 have hlt1:∀ z∈p1,z.block < W.heap.size:=fun z hz=>hW'.lt z (by simp [hz])
 have hlt2:∀ z∈p2,z.block < W.heap.size:=fun z hz=>hW'.lt z (by simp [hz])
 exact⟨_,rfl,Sh.law_post (pa:=(p0++(p1++(p2++([]++([]++([]++[]))))))) (pv:=[]) hW' hg (by simp) (fun sp hsp=>Zne (WideElems.Trod_stays Zsc (by kernel_rfl) (of_decide_eq_true (by kernel_rfl)) t0 (fun z hz=>hg.same (hlt0 z hz)) (fun z hz=>hsp z (by simp [hz]))) (WideElems.Trod_stays Zsc (by kernel_rfl) (of_decide_eq_true (by kernel_rfl)) t1 (fun z hz=>hg.same (hlt1 z hz)) (fun z hz=>hsp z (by simp [hz]))) (WideElems.Trod_stays Zsc (by kernel_rfl) (of_decide_eq_true (by kernel_rfl)) t2 (fun z hz=>hg.same (hlt2 z hz)) (fun z hz=>hsp z (by simp [hz]))) (shut_int u3 hx3) (shut_int u3 hx4) (shut_bool u4 _)) (fun _ _=>rfl) (fun _ _ _=>(trodAll_cons_mk (shut_bool u4 _) trodAll_mk0))
  (ok_one (by kernel_rfl) rfl (okWide_bool_mk u4 _))⟩
noncomputable def Zms (os:Os):World:=
 { World.holding Tryd.prog os ⟨#[],#[],[]⟩ with heap:=(((World.holding Tryd.prog os ⟨#[],#[],[]⟩).heap).modify 2 (Sh.laidBlock (Rows.laid_unicode_utf8_acceptRanges:DataW Unit))).modify 1 (Sh.laidBlock (Rows.laid_unicode_utf8_first:DataW Unit)) }
theorem Z2x (os:Os):laidMet Tryd.prog Rows.evalRunsRow.laid ((Zms os).forCall (fun _ _=>0) ⟨#[],#[(Zgp (Ty.pair (Ty.slice 3 (Ty.int .i64)) (Ty.pair (Ty.slice 3 (Ty.int .i64)) (Ty.pair (Ty.int .i64) Ty.unit))) ((Ty.pair (Ty.slice 3 (Ty.int .i64)) (Ty.pair (Ty.slice 3 (Ty.int .i64)) (Ty.pair (Ty.int .i64) Ty.unit)))).zeros),(Zgp (Ty.slice 45 (Ty.int .u64)) ((Ty.slice 45 (Ty.int .u64))).zeros),(Zgp (Ty.slice 45 (Ty.int .u64)) ((Ty.slice 45 (Ty.int .u64))).zeros),.int .i64 0,.int .i64 0,.bool false],[]⟩).memory:=
 laidMet_of_run' 8 (by kernel_rfl) (by kernel_rfl)
theorem Z6e (os:Os){H:Type}(enc:TypeId × Value→H):∃ places,DataW.whole enc Tryd.prog ((Zms os).forCall (fun _ _=>0) ⟨#[],#[(Zgp (Ty.pair (Ty.slice 3 (Ty.int .i64)) (Ty.pair (Ty.slice 3 (Ty.int .i64)) (Ty.pair (Ty.int .i64) Ty.unit))) ((Ty.pair (Ty.slice 3 (Ty.int .i64)) (Ty.pair (Ty.slice 3 (Ty.int .i64)) (Ty.pair (Ty.int .i64) Ty.unit)))).zeros),(Zgp (Ty.slice 45 (Ty.int .u64)) ((Ty.slice 45 (Ty.int .u64))).zeros),(Zgp (Ty.slice 45 (Ty.int .u64)) ((Ty.slice 45 (Ty.int .u64))).zeros),.int .i64 0,.int .i64 0,.bool false],[]⟩).memory Tryd.f4.params.toList Rows.evalRunsSpec.vars false (#[(Zgp (Ty.pair (Ty.slice 3 (Ty.int .i64)) (Ty.pair (Ty.slice 3 (Ty.int .i64)) (Ty.pair (Ty.int .i64) Ty.unit))) ((Ty.pair (Ty.slice 3 (Ty.int .i64)) (Ty.pair (Ty.slice 3 (Ty.int .i64)) (Ty.pair (Ty.int .i64) Ty.unit)))).zeros),(Zgp (Ty.slice 45 (Ty.int .u64)) ((Ty.slice 45 (Ty.int .u64))).zeros),(Zgp (Ty.slice 45 (Ty.int .u64)) ((Ty.slice 45 (Ty.int .u64))).zeros),.int .i64 0,.int .i64 0,.bool false]:Array Value).toList 8=some ([(((Ty.pair (Ty.slice 3 (Ty.int .i64)) (Ty.pair (Ty.slice 3 (Ty.int .i64)) (Ty.pair (Ty.int .i64) Ty.unit)))).zdata),(((Ty.slice 45 (Ty.int .u64))).zdata),(((Ty.slice 45 (Ty.int .u64))).zdata),.lit (.int .i64 0),.lit (.int .i64 0),.lit (.bool false)],[],places):=
 ⟨[],by kernel_rfl⟩
theorem Z9g (os:Os)(started:os.Started)(H:Type)(enc:TypeId × Value→H)(F:Stop.Interp) :
  ReturnsInHanded {} Tryd.checked os 4 .any ((OpenSpec.ofChange Rows.evalRunsSpec).preRow enc Tryd.prog Tryd.f4 Rows.evalRunsRow.domain false Rows.evalRunsRow.laid) (((OpenSpec.ofChange Rows.evalRunsSpec).at F).post enc Tryd.prog Tryd.f4 false true false false):=by
 obtain⟨places,hx⟩:=Z6e os enc
 refine returnsInHanded_of_row (C:=Tryd.checked) (s:=OpenSpec.ofChange Rows.evalRunsSpec) own started (by kernel_rfl) Tryd.func4
  (witness_row_at (enc:=enc) (C:=Tryd.checked) false (Zms os) #[(Zgp (Ty.pair (Ty.slice 3 (Ty.int .i64)) (Ty.pair (Ty.slice 3 (Ty.int .i64)) (Ty.pair (Ty.int .i64) Ty.unit))) ((Ty.pair (Ty.slice 3 (Ty.int .i64)) (Ty.pair (Ty.slice 3 (Ty.int .i64)) (Ty.pair (Ty.int .i64) Ty.unit)))).zeros),(Zgp (Ty.slice 45 (Ty.int .u64)) ((Ty.slice 45 (Ty.int .u64))).zeros),(Zgp (Ty.slice 45 (Ty.int .u64)) ((Ty.slice 45 (Ty.int .u64))).zeros),.int .i64 0,.int .i64 0,.bool false] rfl (by kernel_rfl) (by kernel_rfl) (by kernel_rfl)
   (OpenSpec.preRow_of_cond 8 hx (by kernel_rfl) (fun k hk=>by cases hk) (by kernel_rfl) (Z2x os))) ?_
 intro W base args ds gs before Zgm hW _ hcd hwt hL _ _
 exact Z0q H enc W base args ds gs before Zgm hW hwt hL
theorem Yb8:Rows.EvalRunsSaid:=
 OpenClaim.holds_of_cond 4 Tryd.f4 rfl rfl rfl rfl rfl rfl rfl ⟨rfl,rfl,rfl,rfl,rfl⟩ rfl rfl rfl rfl rfl (by kernel_rfl) Tryd.func4 (by kernel_rfl)
  (of_decide_eq_true (by kernel_rfl)) (by unfold Func.isWrapper;first | (rw [if_pos (by decide +kernel)];kernel_rfl) | (rw [if_neg (by decide +kernel)];exact⟨rfl,rfl⟩))
  (fun os started H enc _ F=>by rw [OpenClaim.pre_eq_preRow];exact Z9g os started H enc F)
theorem plain (f:FuncId) (fn:Func) (hf:Tryd.pinned.checked.prog.funcNamed "turnstone/turnstonelaw16.EvalRuns"=some f) (hfn:Tryd.pinned.checked.prog.funcs[f]?=some fn) :
  false=Tryd.pinned.checked.prog.looks []∧∀ (j:Nat) t,fn.params[j]?=some t→Tryd.pinned.checked.prog.wantsStandIn t=false:=by
 obtain rfl:f=4:=Option.some.inj ((show Tryd.prog.funcNamed "turnstone/turnstonelaw16.EvalRuns"=some 4 by kernel_rfl).symm.trans hf) |>.symm
 obtain rfl:fn=Tryd.f4:=(Option.some.inj (Tryd.func4.symm.trans hfn)).symm
 refine⟨by kernel_rfl,fun j t ht=>?_⟩
 rw [Tryd.params4] at ht
 rcases j with _ | _ | _ | _ | _ | _ | _
 all_goals first
  | (simp at ht;done)
  | (obtain rfl:=Option.some.inj ht;kernel_rfl)
  | (simp at ht;subst ht;kernel_rfl)
theorem proved:Rows.EvalRunsCardSaid:=
 Claim7.holds_tied_plain_at .later [] _ _ _ _ Yb8 (fun _ h=>by cases h) (by kernel_rfl) (fun _ h=>by cases h) evalRuns_row_tie rfl ⟨rfl,rfl⟩ (by kernel_rfl) rfl plain (by kernel_rfl)
#print axioms proved
end Go.Proofs.YtlogdohlcdhepaaDoor.evalRuns
