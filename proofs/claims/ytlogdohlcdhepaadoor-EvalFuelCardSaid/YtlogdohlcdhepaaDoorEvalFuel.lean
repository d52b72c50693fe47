/- This text proves 'Rows.EvalFuelCardSaid': the law 'EvalFuel' returns true whatever it is given, in whatever memory and on every tape. The condition is the card's own: the listed package-level variables hold what the program's text lays. -/
import Derived.Test.YtlogdohlcdhepaaDoorCards
import Derived.Test.YtlogdohlcdhepaaDoorTie
import Derived.Deep.DeepHandedRow
import Derived.Lib.LaidTab
import Derived.Test.YtlogdohlcdhepaaDoorM24
set_option linter.unusedVariables false
set_option linter.unusedSimpArgs false
set_option maxRecDepth 100000
namespace Go.Proofs.YtlogdohlcdhepaaDoor.evalFuel
open Go.Sh gen base
variable {S:Zc}{m:Mem}
abbrev Yap:Ty:=(Ty.pair (Ty.slice 3 (Ty.int .i64)) (Ty.pair (Ty.slice 3 (Ty.int .i64)) (Ty.pair (Ty.int .i64) Ty.unit)))
theorem Zwh (l:List Int):(l.flatMap fun n:Int=>[Value.int .u64 n])=words l:=List.map_eq_flatMap.symm
theorem Z3j {l:List Int}(h:∀ n∈l,(Lit.int .u64 n).wf=true):Wd l:=fun n hn=>Z9e (h n hn)
set_option maxHeartbeats 16000000 in
theorem Z5b (hK:S 12=[([],.bool true)])(hN:Nz S){d:Yap.D}{cs:List Value}(hl:Ty.wf Yap d)(ha:At m Yap d cs)
  {refs:List Int} {ro:Option Addr} {rf:Nat} (hr:Rs m ro refs.length (refs.flatMap fun n:Int=>[Value.int .u64 n]) 45 1 rf) (hrf:rf < m.next) (hrl:refs.length≤9223372036854775807) (hrw:∀ n∈refs,(Lit.int .u64 n).wf=true)
  {loc:List Int} {lo:Option Addr} {lf:Nat} (ho:Rs m lo loc.length (loc.flatMap fun n:Int=>[Value.int .u64 n]) 45 1 lf) (hlf:lf < m.next) (hll:loc.length≤9223372036854775807) (hlw:∀ n∈loc,(Lit.int .u64 n).wf=true)
  {wish fuel more:Int} (hwi:(Lit.int .i64 wish).wf=true) (hfu:(Lit.int .i64 fuel).wf=true) (hmo:(Lit.int .i64 more).wf=true) :
  ∃ r m',Zal Tryd.prog TT S 5 [Zpu Yap cs,.slice ro refs.length refs.length,.slice lo loc.length loc.length,.int .i64 wish,.int .i64 fuel,.int .i64 more] m=some (r,m')∧r=.bool true:=by
 have hkn:=fun m'=>Z8u (P:=Tryd.prog) (T:=TT) (m:=m') hK
 have hNk:∀ f,f≠66→f≠12→S f=[]:=hN.e
 rw [Zwh] at hr ho
 obtain⟨c1,c2,ecs,hops,c3,c4,ec2,hsh,c5,c6,ec4,hn,hunit⟩:=ha.atQ
 simp only [AtQ] at hunit hn
 subst hunit hn ec4
 obtain⟨oa,f1,rfl,hro,hqo⟩:=Zgp hops
 obtain⟨sa,f2,rfl,hrs,hqs⟩:=Zgp hsh
 subst ec2 ecs
 obtain⟨ops,sh,n,x⟩:=d
 have hol:ops.length≤9223372036854775807:=hl.1.1
 change ∃ r m',Zal Tryd.prog TT S 5 [.agg #[.slice oa ops.length ops.length,.slice sa sh.length sh.length,.int .i64 n],.slice ro refs.length refs.length,.slice lo loc.length loc.length,.int .i64 wish,.int .i64 fuel,.int .i64 more] m=some (r,m')∧r=.bool true
 have io:Za5 (fun f=>f < m.next) m oa ops:=⟨f1,hro,hqo⟩
 have is:Za5 (fun f=>f < m.next) m sa sh:=⟨f2,hrs,hqs⟩
 clear hops hsh hro hrs ha
 obtain⟨o1,k1,n1⟩:=Zay (m:=m) (cs:=[.slice oa ops.length ops.length,.slice sa sh.length sh.length,.int .i64 n]) (e:=47) rfl
 obtain⟨b1,hb1⟩:∃ b,m.next=b:=⟨_,rfl⟩
 obtain⟨m1,hm1⟩:∃ mm,m.new [.slice oa ops.length ops.length,.slice sa sh.length sh.length,.int .i64 n] 47=mm:=⟨_,rfl⟩
 rw [hm1,hb1] at o1 n1
 rw [hm1] at k1
 have l1:=o1.load (off:=0) 3 (by simp)
 simp [Za1] at l1
 have i1:∀ {ao:Option Addr} {l:List Int},Za5 (fun f=>f < m.next) m ao l→Za5 (fun f=>f < m1.next) m1 ao l:=fun h=>by
  obtain⟨f,h1,h2⟩:=h.keep k1 (by simp)
  exact⟨f,h1,fun hz=>by have:=h2 hz;have:=k1.1;omega⟩
 obtain⟨_,mU,cU,va,ba,ta,rfl,hUA,kU,nu1,nu2,nu3,nu4⟩:=Z4f (m0:=m1) (n:=n) ⟨hNk _ (by decide) (by decide),hNk _ (by decide) (by decide),hNk _ (by decide) (by decide),hNk _ (by decide) (by decide),hNk _ (by decide) (by decide),hNk _ (by decide) (by decide),hNk _ (by decide) (by decide)⟩ (i1 io) (i1 is) hol
 obtain⟨hok,hheads,hckA⟩:=Zxc hN.nk ops sh n nu1 nu2 nu3 nu4
 have hsz:=Zuz ops sh n
 generalize Zdn ops sh n=s at *
 obtain⟨o2,k2,n2⟩:=Zay (m:=mU) (cs:=[.int .i64 0,.int .i64 0,.slice none 0 0,.slice none 0 0,.slice none 0 0]) (e:=34) rfl
 obtain⟨xb,hxb⟩:∃ b,mU.next=b:=⟨_,rfl⟩
 obtain⟨mV,eV,oU,kV⟩:=Zap (r:=_) rfl o2 (off:=0) (vs:=Zcj s.un va ba ta) (by simp) (by simp [Zau,Zai])
 have kUV:=k2.fresh kV (by simp)
 have eo:Zb5 [.int .i64 0,.int .i64 0,.slice none 0 0,.slice none 0 0,.slice none 0 0] 0 (Zcj s.un va ba ta)=Zcj s.un va ba ta:=rfl
 rw [eo] at oU
 have eV:Zaj (mU.new [.int .i64 0,.int .i64 0,.slice none 0 0,.slice none 0 0,.slice none 0 0] 34) ⟨mU.next,0,none⟩ [.int .i64 1,.int .i64 2,.slice va s.vals.length s.vals.length,.slice ba s.blks.length s.blks.length,.slice ta s.sts.length s.sts.length]=some mV:=eV
 rw [hxb] at oU eV
 have hUV:=hUA.keep kUV (by simp)
 have kmV:Zag m mV []:=(k1.trans kU).trans kUV
 have hHo:Ho S:=⟨hNk _ (by decide) (by decide),hNk _ (by decide) (by decide),hNk _ (by decide) (by decide),hNk _ (by decide) (by decide),hNk _ (by decide) (by decide),hNk _ (by decide) (by decide)⟩
 have hHp:Hp S:=⟨hNk _ (by decide) (by decide),hNk _ (by decide) (by decide),hNk _ (by decide) (by decide),hNk _ (by decide) (by decide),hNk _ (by decide) (by decide),hNk _ (by decide) (by decide),hNk _ (by decide) (by decide),hNk _ (by decide) (by decide),hNk _ (by decide) (by decide)⟩
 have hos:=Zzi (Z3j hrw)
 obtain⟨_,mO1,cO1,⟨rb1,vb1,vf1,rfl,hR1⟩,kO1⟩:=Zmi (m:=mV) (hNk 14 (by decide) (by decide)) hHo (c:=refs.length) (hr.keep0 kmV (by simp)) (fun _=>by have:=kmV.1;omega) (Z3j hrw)
 obtain⟨_,mH1,cH1,⟨h1,hf1,wb1,wf1,rfl,hH1,nh1,nw1⟩,kH1⟩:=Zvy (hNk 15 (by decide) (by decide)) hHp hos hR1
 have kVH1:=kO1.trans kH1
 have kmH1:=kmV.trans kVH1
 obtain⟨_,mO2,cO2,⟨rb2,vb2,vf2,rfl,hR2⟩,kO2⟩:=Zmi (m:=mH1) (hNk 14 (by decide) (by decide)) hHo (c:=refs.length) (hr.keep0 kmH1 (by simp)) (fun _=>by have:=kmH1.1;omega) (Z3j hrw)
 obtain⟨_,mH2,cH2,⟨h2,hf2,wb2,wf2,rfl,hH2,nh2,nw2⟩,kH2⟩:=Zvy (hNk 15 (by decide) (by decide)) hHp hos hR2
 have kHH:=kO2.trans kH2
 have kmH2:=kmH1.trans kHH
 have hH1':=hH1.keep kHH (by simp) (by simp)
 have kVH2:=kVH1.trans kHH
 have oU2:=oU.keep kVH2 (by simp)
 have hU2:=hUV.keep kVH2 (by simp)
 have q1:=hH1.h.flt
 have q2:=hH1.w.flt
 have q3:=kO2.1
 have q4:=kVH1.1
 have q5:=kUV.1
 have q6:=hH2.h.flt
 have q7:=hH2.w.flt
 have q8:=kO1.1
 have q9:=oU.flt
 have lUx:∀ m',Zag mH2 m' [hf1,wf1]→loadRow m' ⟨xb,0,none⟩ 5=some [.int .i64 1,.int .i64 2,.slice va s.vals.length s.vals.length,.slice ba s.blks.length s.blks.length,.slice ta s.sts.length s.sts.length]:=fun m' k=>(oU2.keep k (by simp;omega)).load (off:=0) 5 (by simp)
 have lU2:=lUx mH2 ((Zcg _).mono (by simp))
 obtain⟨hw,hhw⟩:∃ hw,wO (Zpc refs)=hw:=⟨_,rfl⟩
 have hwne:hw≠[]:=by rw [← hhw];simp [wO]
 have hwl:hw.length≤100:=by rw [← hhw];have:=hos.l;omega
 have hwd:Wd hw:=by rw [← hhw];exact Z8p hos
 rw [hhw] at hH1' hH2
 have pk:=Zg7 (m:=mH2) (hNk 16 (by decide) (by decide)) wish 9 (by omega) (by omega)
 have pkf:=Zg7 (m:=mH2) (hNk 16 (by decide) (by decide)) fuel 500 (by omega) (by omega)
 have pkm:=fun m'=>Zg7 (m:=m') (hNk 16 (by decide) (by decide)) more 500 (by omega) (by omega)
 obtain⟨w,hw9⟩:∃ w,wish % 9=w:=⟨_,rfl⟩
 obtain⟨f,hf5⟩:∃ f,fuel % 500=f:=⟨_,rfl⟩
 obtain⟨g,hg5⟩:∃ g,more % 500=g:=⟨_,rfl⟩
 have w0:0≤w∧w≤8:=by omega
 have f0:0≤f∧f≤499:=by omega
 have g0:0≤g∧g≤499:=by omega
 rw [hw9] at pk
 rw [hf5] at pkf
 simp only [hg5] at pkm
 have ww:IntKind.i64.wrap (w - 1)=w - 1:=Zaf (by omega) (by omega)
 have wf:IntKind.i64.wrap (f+g)=f+g:=Zaf (by omega) (by omega)
 have wt:IntKind.i64.wrap (f+10)=f+10:=Zaf (by omega) (by omega)
 have hQ:∀ f,f < mU.next→f < mH2.next:=fun f hf=>by have:=kVH2.1;omega
 have lockw:=Z3j hlw
 have hckx:∀ mB,Zag mH2 mB [hf1,wf1]→∀ m',Zag mB m' []→∃ m2,Zal Tryd.prog TT S 22 [.agg (Zcj s.un va ba ta).toArray] m'=some (.bool true,m2)∧Zag m' m2 []:=fun mB kB m' k=>by
  have kk:Zag mH2 m' [hf1,wf1]:=kB.trans k.nil
  exact hckA m' (hU2.keep kk (fun f hf=>by simp at hf;omega)) (fun f hf=>by have:=hQ f hf;have:=kk.1;omega)
 have w1:-9223372036854775808≤w - 1∧w - 1≤9223372036854775807:=by omega
 obtain⟨v1,mR1,cR1,⟨K1,e1,e2,e3,e4,X1⟩,kR1⟩:=Z0e (m:=mH2) (Z4o hN) hU2 hQ hok (hckx mH2 ((Zcg _).mono (by simp))) hH1' ⟨by omega,by omega⟩ hwd (by omega) (ho.keep0 kmH2 (by simp)) (fun _=>by have:=kmH2.1;omega) lockw ⟨Nat.le_refl _,hll⟩ (wish:=w - 1) (fuel:=f) w1 (by omega)
 obtain⟨V1,hV1⟩:∃ V:Vv,(⟨wb1,hw,(Zjl s.un loc (Zbx s.un 0).1 (List.replicate (nv s.un) 0,0)).1,w - 1,(Zjl s.un loc (Zbx s.un 0).1 (List.replicate (nv s.un) 0,0)).2⟩:Vv)=V:=⟨_,rfl⟩
 have eV2:(⟨wb2,hw,(Zjl s.un loc (Zbx s.un 0).1 (List.replicate (nv s.un) 0,0)).1,w - 1,(Zjl s.un loc (Zbx s.un 0).1 (List.replicate (nv s.un) 0,0)).2⟩:Vv)={ V1 with hwb:=wb2 }:=by rw [← hV1]
 have st0:0≤V1.steps∧V1.steps≤f+4:=by
  have h1:=Zof s.un loc (Zbx s.un 0).1 (List.replicate (nv s.un) 0,0)
  have h2:=Zv2 (u:=s.un) loc (Zbx s.un 0).1 (List.replicate (nv s.un) 0,0)
  have h3:=hheads 0 hok.b.1
  have h4:(Zjl s.un loc (Zbx s.un 0).1 (List.replicate (nv s.un) 0,0)).2≤0+((4:Nat):Int):=Int.le_trans h2 (Int.add_le_add_left (Int.ofNat_le.2 h3) _)
  rw [← hV1]
  dsimp only at h1 ⊢
  omega
 have rel:=Z0m (u:=s.un) (f:=f) (f':=f+g) (by omega) (f.toNat+1) ((f+g).toNat+1) 0 V1 (by omega) (by omega)
 have rle:=Z5u (u:=s.un) (f:=f) hok hheads f0.1 (f.toNat+1) 0 V1 hok.b.1 st0.2
 have hlen:=Zux (u:=s.un) (fuel:=f) (f.toNat+1) 0 V1
 have hV1w:V1.hw=hw:=by rw [← hV1]
 rw [hV1] at X1
 rw [hV1w] at hlen
 have nex:∀ l:List Int,l.length=hw.length→l≠[]:=fun l h e=>by
  rw [e] at h
  cases hw with
  | nil=>exact hwne rfl
  | cons _ _=>simp at h
 have hnv:nv s.un≤1000000:=hok.n.2
 have second:∀ (mE:Mem),Zag mH2 mE [hf1,wf1]→∃ v2 mR2,Zal Tryd.prog TT S 10 [.agg (Zcj s.un va ba ta).toArray,.pointer (some ⟨h2,0,none⟩),.slice lo loc.length loc.length,.int .i64 (w - 1),.int .i64 (f+g)] mE=some (v2,mR2)∧(∃ K2:Kv,K2.hb=h2∧K2.hf=hf2∧K2.hwf=wf2∧K2.room=100∧Z8y (fun f=>f < mU.next) mE mR2 s.un K2 v2 ((Zhk s.un (f+g) ((f+g).toNat+1) 0 V1).hb wb2))∧Zag mE mR2 [hf2,wf2]:=by
  intro mE kE
  have hn:=kE.1
  have:=Z0e (m:=mE) (Z4o hN) (hU2.keep kE (fun f hf=>by simp at hf;omega)) (fun f hf=>by have:=hQ f hf;omega) hok (hckx mE kE) (hH2.keep kE (by simp;omega) (by simp;omega)) ⟨by omega,by omega⟩ hwd (by omega) (ho.keep0 (m':=mE) ((kmH2.nil (fs:=[hf1,wf1])).trans kE) (fun _=>by have:=kmH1.1;have:=kmV.1;simp;omega)) (fun _=>by have:=kmH2.1;omega) lockw ⟨Nat.le_refl _,hll⟩ (wish:=w - 1) (fuel:=f+g) w1 (by omega)
  rw [eV2,Z1c] at this
  exact this
 have cU':=cU
 cases hRA:Zhk s.un f (f.toNat+1) 0 V1 with
 | go A=>rw [hRA] at rel;exact rel.elim
 | left A st val =>
  rw [hRA] at rel hlen X1
  have rel:Zhk s.un (f+g) ((f+g).toNat+1) 0 V1=.left A st val:=rel
  have hlen:A.hw.length=hw.length:=hlen
  obtain⟨⟨fo,hv,hfr⟩,ev⟩:=X1
  subst hv
  have cR1:Zal Tryd.prog TT S 10 [.agg #[.int .i64 1,.int .i64 2,.slice va s.vals.length s.vals.length,.slice ba s.blks.length s.blks.length,.slice ta s.sts.length s.sts.length],.pointer (some ⟨h1,0,none⟩),.slice lo loc.length loc.length,.int .i64 (w - 1),.int .i64 f] mH2=_:=cR1
  obtain⟨L,hL⟩:∃ L,(stD s.un st).map (frW A.ws)=L:=⟨_,rfl⟩
  have hk:(stD s.un st).length=L.length:=by rw [← hL,List.length_map]
  rw [hk] at cR1
  obtain⟨mE1,fE1,eE1,oE1,kE1,nE1⟩:=Z30 (m:=mR1) (zs:=[.int .i64 0,.int .i64 0,.int .i64 0,.slice none 0 0,.int .i64 0]) (vs:=[.int .i64 1,.int .i64 st,.int .i64 val,.slice fo L.length L.length,.int .i64 A.steps]) (e:=28) rfl (by simp [Zau,Zai])
  have lE1:=lUx mE1 (kR1.trans kE1.nil)
  obtain⟨v2,mR2,cR2,⟨K2,b1,b2,b3,_,X2⟩,kR2⟩:=second mE1 (kR1.trans kE1.nil)
  rw [rel] at X2
  obtain⟨⟨go,hv2,hgr⟩,ev2⟩:=X2
  subst hv2
  have cR2:Zal Tryd.prog TT S 10 [.agg #[.int .i64 1,.int .i64 2,.slice va s.vals.length s.vals.length,.slice ba s.blks.length s.blks.length,.slice ta s.sts.length s.sts.length],.pointer (some ⟨h2,0,none⟩),.slice lo loc.length loc.length,.int .i64 (w - 1),.int .i64 (f+g)] mE1=some (.agg #[.int .i64 1,.int .i64 st,.int .i64 val,.slice go (stD s.un st).length (stD s.un st).length,.int .i64 A.steps],mR2):=cR2
  rw [hk] at cR2
  obtain⟨mE2,fE2,eE2,oE2,kE2,nE2⟩:=Z30 (m:=mR2) (zs:=[.int .i64 0,.int .i64 0,.int .i64 0,.slice none 0 0,.int .i64 0]) (vs:=[.int .i64 1,.int .i64 st,.int .i64 val,.slice go L.length L.length,.int .i64 A.steps]) (e:=28) rfl (by simp [Zau,Zai])
  have kB:Zag mE1 mE2 [hf2,wf2]:=kR2.trans kE2.nil
  have kC:Zag mR1 mE2 [hf2,wf2]:=(kE1.nil (fs:=[hf2,wf2])).trans kB
  have kA:Zag mH2 mE2 [hf1,wf1,hf2,wf2]:=(kR1.mono (by simp)).trans (kC.mono (by simp))
  have hR1:=kR1.1
  have OA:=oE1.keep kB (by simp;omega)
  have HA:=ev.heap
  rw [e1] at HA
  have HA:=HA.keep kC (by rw [e2];simp;omega) (by rw [e3];simp;omega)
  have HB:=ev2.heap
  rw [b1] at HB
  have HB:=HB.keep kE2 (by simp) (by simp)
  have FA:=hfr.keep kC (fun f hf=>by simp at hf;omega)
  have FB:=hgr.keep kE2 (by simp)
  have FB:AtQ (fun f=>mE1.next≤f) mE2 (Ty.slice 44 (Ty.pair (Ty.int .i64) (Ty.pair (Ty.int .i64) (Ty.pair (Ty.slice 45 (Ty.int .u64)) (Ty.pair (Ty.slice 45 (Ty.int .u64)) Ty.unit))))) ((stD s.un st).map (frW A.ws)) [.slice go (stD s.un st).length (stD s.un st).length]:=FB
  rw [hL,hk] at FA FB
  have hLb:L.length≤1000000∧∀ f∈L,List.length f.2.2.1≤1000000∧List.length f.2.2.2.1≤1000000:=by
   by_cases hst:st < ns s.un
   ·have h9:=hok.fr st hst
    rw [Zid hst] at hL
    refine⟨by rw [← hL,List.length_map];exact h9.1,fun f hf=>?_⟩
    rw [← hL] at hf
    obtain⟨g,hg,rfl⟩:=List.mem_map.1 hf
    have:=h9.2 g hg
    exact⟨by simp only [frW,Zoo,List.length_map];exact this.1,by simp only [frW,Zoo,List.length_map];exact this.2.1⟩
   ·have:L=[]:=by
     rw [← hL]
     unfold stD
     rw [List.getD_eq_getElem?_getD,List.getElem?_eq_none (by simpa using hst)]
     rfl
    rw [this];simp
  have hF:∀ m2,Zag mE2 m2 []→Zal Tryd.prog TT S 45 [.slice fo L.length L.length,.slice go L.length L.length] m2=some (.bool true,m2):=fun m2 k2=>Zwb (m:=m2) (hNk _ (by decide) (by decide)) (hNk _ (by decide) (by decide)) (FA.keep k2 (by simp)) (FB.keep k2 (by simp)) hLb.1 hLb.2
  have la:=OA.load (off:=0) 5 (by simp)
  have lb:=oE2.load (off:=0) 5 (by simp)
  simp [Za1] at la lb
  have la0:=OA.load1 (off:=0) rfl
  obtain⟨_,m1',c1,rfl,k1'⟩:=Z3d (m:=mE2) (hN.e 18 (by decide) (by decide)) (c:=1) (st:=st) (val:=val) (n:=A.steps) hF
  obtain⟨_,m2',c2,nb1,nf1,rfl,o2',n2',k2'⟩:=Znq (hN.e 20 (by decide) (by decide)) (HA.keep k1' (by simp) (by simp)) (nex _ hlen) (by rw [hlen];omega)
  obtain⟨_,m3',c3,nb2,nf2,rfl,o3',n3',k3'⟩:=Znq (hN.e 20 (by decide) (by decide)) ((HB.keep k1' (by simp) (by simp)).keep k2' (by simp) (by simp)) (nex _ hlen) (by rw [hlen];omega)
  obtain⟨q,c4,hq⟩:=Zsb (m:=m3') (hN.e 19 (by decide) (by decide)) (Sl.of (o2'.keep k3' (by simp)) (by rw [Zfw];simp)).rs (Sl.of o3' (by rw [Zfw];simp)).rs (by rw [hlen];omega) (by rw [hlen];omega)
  have hqt:=hq.2 rfl
  subst hqt
  refine Zfz 20 [43,66] k5 (hNk _ (by decide) (by decide)) rfl ?_
  simp [-Int.natCast_add,-BitVec.toNat_or,-BitVec.toNat_ofInt,-BitVec.toNat_and,Zdh b47,Zao Ycg,Zas Yar,Zad Yam,Zao Z1m,Zas Z8g,Zad Z3u,Za Zy5,Zaa ld3,Zao Z3f,Za Zy9,Za Zqx,Zaa Z87,Zac u26,hm1,hb1,l1,cU,hxb,eV,cO1,cH1,cO2,cH2,hkn,pk,pkf,pkm,ww,wf,lU2,cR1,eE1,lE1,cR2,eE2,la0,la,lb,c1,c2,c3,c4]
 | tired A =>
  rw [hRA] at rel rle hlen X1
  obtain⟨r1,r2⟩:=rel
  have rle:A.steps≤f+4:=rle
  obtain⟨hv,ev⟩:=X1
  subst hv
  have cR1:Zal Tryd.prog TT S 10 [.agg #[.int .i64 1,.int .i64 2,.slice va s.vals.length s.vals.length,.slice ba s.blks.length s.blks.length,.slice ta s.sts.length s.sts.length],.pointer (some ⟨h1,0,none⟩),.slice lo loc.length loc.length,.int .i64 (w - 1),.int .i64 f] mH2=_:=cR1
  obtain⟨mE1,fE1,eE1,oE1,kE1,nE1⟩:=Z30 (m:=mR1) (zs:=[.int .i64 0,.int .i64 0,.int .i64 0,.slice none 0 0,.int .i64 0]) (vs:=[.int .i64 0,.int .i64 (-1),.int .i64 (-1),.slice none 0 0,.int .i64 A.steps]) (e:=28) rfl (by simp [Zau,Zai])
  have lE1:=lUx mE1 (kR1.trans kE1.nil)
  obtain⟨v2,mR2,cR2,⟨K2,b1,b2,b3,_,X2⟩,kR2⟩:=second mE1 (kR1.trans kE1.nil)
  have hv2:∃ (c2 st2 val2 n2:Int) (go:Option Addr) (k2:Nat),v2=.agg #[.int .i64 c2,.int .i64 st2,.int .i64 val2,.slice go k2 k2,.int .i64 n2]∧A.steps≤n2:=by
   cases hRB:Zhk s.un (f+g) ((f+g).toNat+1) 0 V1 with
   | go B =>
    rw [hRB] at X2;exact X2.elim
   | tired B =>
    rw [hRB] at X2 r2
    exact⟨0,-1,-1,B.steps,none,0,X2.1,r2⟩
   | left B st2 val2 =>
    rw [hRB] at X2 r2
    obtain⟨⟨go,hv2,_⟩,_⟩:=X2
    exact⟨1,st2,val2,B.steps,go,_,hv2,r2⟩
  obtain⟨c2,st2,val2,n2',go,k2',rfl,hn2⟩:=hv2
  have cR2:Zal Tryd.prog TT S 10 [.agg #[.int .i64 1,.int .i64 2,.slice va s.vals.length s.vals.length,.slice ba s.blks.length s.blks.length,.slice ta s.sts.length s.sts.length],.pointer (some ⟨h2,0,none⟩),.slice lo loc.length loc.length,.int .i64 (w - 1),.int .i64 (f+g)] mE1=_:=cR2
  obtain⟨mE2,fE2,eE2,oE2,kE2,nE2⟩:=Z30 (m:=mR2) (zs:=[.int .i64 0,.int .i64 0,.int .i64 0,.slice none 0 0,.int .i64 0]) (vs:=[.int .i64 c2,.int .i64 st2,.int .i64 val2,.slice go k2' k2',.int .i64 n2']) (e:=28) rfl (by simp [Zau,Zai])
  have kB:Zag mE1 mE2 [hf2,wf2]:=kR2.trans kE2.nil
  have hR1:=kR1.1
  have OA:=oE1.keep kB (by simp;omega)
  have a0:=OA.load1 (off:=0) rfl
  have a3:=OA.load1 (off:=3) rfl
  have a4:=OA.load1 (off:=4) rfl
  have b4:=oE2.load1 (off:=4) rfl
  have s1:f≤A.steps:=r1
  have s2:A.steps < f+10:=by omega
  refine Zfz 20 [43,66] k5 (hNk _ (by decide) (by decide)) rfl ?_
  simp [-Int.natCast_add,-BitVec.toNat_or,-BitVec.toNat_ofInt,-BitVec.toNat_and,Zdh b47,Zao Ycg,Zas Yar,Zad Yam,Zao Z1m,Zas Z8g,Zad Z3u,Za Zy5,Zaa ld3,Zao Z3f,Za Zy9,Za Zqx,Zaa Z87,Zac u26,hm1,hb1,l1,cU,hxb,eV,cO1,cH1,cO2,cH2,hkn,pk,pkf,pkm,ww,wf,wt,lU2,cR1,eE1,lE1,cR2,eE2,a0,a3,a4,b4,s1,s2,hn2]
open Go.ChangeShapes Go.WideShapes Go.ChangeAt Go.RowKit
theorem own:ownKnob Tryd.prog.godebug=none:=by kernel_rfl
theorem tab:Sh.tabCheck Tryd.prog fns=true:=by kernel_rfl
def Zuy:List (Nat × List Value):=[]
theorem Z8s (w:World)(h:laidMetH Tryd.prog Rows.evalFuelRow.laid w):Za7 Tryd.prog (Z78 Tryd.prog) (memG Tryd.prog Zuy) (Zfb w) w w:=by
 refine Zvf Tryd.prog w Zuy fun p hp=>?_
 simp only [Zuy,List.mem_cons,List.not_mem_nil,or_false] at hp
theorem Yas (w:World)(hL:laidMetH Tryd.prog Rows.evalFuelRow.laid w){v0:Value}(h0:Z4n Tryd.prog w (Ty.pair (Ty.slice 3 (Ty.int .i64)) (Ty.pair (Ty.slice 3 (Ty.int .i64)) (Ty.pair (Ty.int .i64) Ty.unit))) v0){v1:Value}(h1:Zvn Tryd.prog w (fun n:Int=>[Value.int .u64 n]) (fun n=>(Lit.int .u64 n).wf=true) 45 1 v1){v2:Value}(h2:Zvn Tryd.prog w (fun n:Int=>[Value.int .u64 n]) (fun n=>(Lit.int .u64 n).wf=true) 45 1 v2)(x3:Int)(hx3:(Lit.int .i64 x3).wf=true)(x4:Int)(hx4:(Lit.int .i64 x4).wf=true)(x5:Int)(hx5:(Lit.int .i64 x5).wf=true) :
  Calls Tryd.prog 5 #[v0,v1,v2,.int .i64 x3,.int .i64 x4,.int .i64 x5] w fun e w'=>e=.returned (.bool true)∧Below w.heap.size w w':=by
 have hM:=Z8s w hL
 obtain⟨rs0,J0,m0,cs0,hw0,le0,hM0,vr0,hr0,hk0⟩:=h0 _ _ hM
 obtain⟨rs1,J1,m1,ao1,fr1,le1,hM1,vr1,hr1,hg1,hl1,hk1,hz1,hw1⟩:=Z49 hM0 Zfu (by omega) (fun _=>rfl) h1
 obtain⟨rs2,J2,m2,ao2,fr2,le2,hM2,vr2,hr2,hg2,hl2,hk2,hz2,hw2⟩:=Z49 hM1 Zfu (by omega) (fun _=>rfl) h2
 obtain⟨v',m',h,rfl⟩:=Z5b (S:=Z9o) (m:=m2) rfl nz hw0 ((hr0.keep hk1).keep hk2) (hr1.keep hk2 (by simp)) (by have:=hk2.1;omega) hz1 hw1 hr2 hl2 hz2 hw2 hx3 hx4 hx5
 exact Z12 Ztd (Sh.tab_ok tab) Z9k Tryd.func5 (by kernel_rfl) h rfl hM2 (.cons ((vr0.mono le1).mono le2) (.cons (vr1.mono le2) (.cons vr2 (.cons (.clo _ rfl) (.cons (.clo _ rfl) (.cons (.clo _ rfl) Zc2.nil))))))
theorem Zt8:laidOutB Tryd.prog=true:=by kernel_rfl
theorem Zrz {H:Type}{enc:TypeId × Value→H}{P:Program}{w:World}{base:Nat}{spare:Nat→Bool}{held:Bool}{y0 y1 y2 y3 y4 y5:TypeId}{args:Array Value}{ds:List (DataW H)}{ps:List MemPlace}(h:DataW.TrodAll enc P w base spare held [y0,y1,y2,y3,y4,y5] args.toList ds ps) :
  ∃ v0 v1 v2 v3 v4 v5 d0 d1 d2 d3 d4 d5 p0 p1 p2 p3 p4 p5,args=#[v0,v1,v2,v3,v4,v5]∧ds=[d0,d1,d2,d3,d4,d5]∧ps=p0++p1++p2++p3++p4++p5∧DataW.Trod enc P w base spare held y0 v0 d0 p0∧DataW.Trod enc P w base spare held y1 v1 d1 p1∧DataW.Trod enc P w base spare held y2 v2 d2 p2∧DataW.Trod enc P w base spare held y3 v3 d3 p3∧DataW.Trod enc P w base spare held y4 v4 d4 p4∧DataW.Trod enc P w base spare held y5 v5 d5 p5:=by
 obtain⟨v0,vs0,d0,es0,p0,q0,hargs,rfl,rfl,a0,b0⟩:=trodAll_cons h
 obtain⟨v1,vs1,d1,es1,p1,q1,rfl,rfl,rfl,a1,b1⟩:=trodAll_cons b0
 obtain⟨v2,vs2,d2,es2,p2,q2,rfl,rfl,rfl,a2,b2⟩:=trodAll_cons b1
 obtain⟨v3,vs3,d3,es3,p3,q3,rfl,rfl,rfl,a3,b3⟩:=trodAll_cons b2
 obtain⟨v4,vs4,d4,es4,p4,q4,rfl,rfl,rfl,a4,b4⟩:=trodAll_cons b3
 obtain⟨v5,vs5,d5,es5,p5,q5,rfl,rfl,rfl,a5,b5⟩:=trodAll_cons b4
 obtain⟨rfl,rfl,rfl⟩:=trodAll_nil b5
 exact⟨v0,v1,v2,v3,v4,v5,d0,d1,d2,d3,d4,d5,p0,p1,p2,p3,p4,p5,by cases args;simp_all,rfl,by simp,a0,a1,a2,a3,a4,a5⟩
theorem Zn2 {H:Type}{enc:TypeId × Value→H}{P:Program}{w:World}{base:Nat}{spare:Nat→Bool}{held:Bool}{y0 y1 y2 y3 y4 y5:TypeId}{v0 v1 v2 v3 v4 v5:Value}{d0 d1 d2 d3 d4 d5:DataW H}{p0 p1 p2 p3 p4 p5:List MemPlace}(a0:DataW.Trod enc P w base spare held y0 v0 d0 p0)(a1:DataW.Trod enc P w base spare held y1 v1 d1 p1)(a2:DataW.Trod enc P w base spare held y2 v2 d2 p2)(a3:DataW.Trod enc P w base spare held y3 v3 d3 p3)(a4:DataW.Trod enc P w base spare held y4 v4 d4 p4)(a5:DataW.Trod enc P w base spare held y5 v5 d5 p5):DataW.TrodAll enc P w base spare held [y0,y1,y2,y3,y4,y5] [v0,v1,v2,v3,v4,v5] [d0,d1,d2,d3,d4,d5] (p0++(p1++(p2++(p3++(p4++(p5++[])))))):=(trodAll_cons_mk a0 (trodAll_cons_mk a1 (trodAll_cons_mk a2 (trodAll_cons_mk a3 (trodAll_cons_mk a4 (trodAll_cons_mk a5 trodAll_mk0))))))
theorem Z3e (H:Type)(enc:TypeId × Value→H)(W:World)(base:Nat)(args:Array Value)(ds gs:List (DataW H))(before:List MemPlace)
  (hval:∀ (j:Nat) t v,Tryd.f5.params[j]?=some t→args[j]?=some v→Value.okWide Tryd.prog W .any base t v)
  (hW:DataW.Whole enc Tryd.prog Tryd.f5.params.toList Rows.evalFuelSpec.vars false W args.toList ds gs before) (hL:laidMetH Tryd.prog Rows.evalFuelRow.laid W) :
  Calls Tryd.prog 5 args W fun e W'=>∃ v,e=.returned v∧Rows.evalFuelSpec.post enc Tryd.prog Tryd.f5 false true false false W args v W':=by
 have hW':=hW
 obtain⟨p,q,hA0,hV,rfl,hfz,hnd⟩:=hW
 have hA:DataW.TrodAll enc Tryd.prog W 0 (fun _=>true) true Tryd.f5.params.toList args.toList ds p:=hA0
 rw [Tryd.params5] at hA hval
 obtain⟨v0,v1,v2,v3,v4,v5,d0,d1,d2,d3,d4,d5,p0,p1,p2,p3,p4,p5,rfl,rfl,rfl,t0,t1,t2,t3,t4,t5⟩:=Zrz hA
 obtain⟨rfl,rfl⟩:=trodVars_none hV
 have hv0:=Z5v (ty:=(Ty.pair (Ty.slice 3 (Ty.int .i64)) (Ty.pair (Ty.slice 3 (Ty.int .i64)) (Ty.pair (Ty.int .i64) Ty.unit)))) (t:=47) (by kernel_rfl) (hval 0 _ _ rfl rfl) t0
 have hv1:=Zvq u42 u45 Zfu (hval 1 _ _ rfl rfl) t1
 have hv2:=Zvq u42 u45 Zfu (hval 2 _ _ rfl rfl) t2
 obtain⟨x3,rfl,rfl,rfl,hx3⟩:=open_int u3 (hval 3 _ _ rfl rfl) t3
 obtain⟨x4,rfl,rfl,rfl,hx4⟩:=open_int u3 (hval 4 _ _ rfl rfl) t4
 obtain⟨x5,rfl,rfl,rfl,hx5⟩:=open_int u3 (hval 5 _ _ rfl rfl) t5
 clear hA0
 simp only [List.append_nil,List.nil_append] at hW'
 refine (Yas W hL hv0 hv1 hv2 x3 hx3 x4 hx4 x5 hx5).mono fun e W' ⟨he,hg⟩=>?_
 subst he
 have hlt0:∀ z∈p0,z.block < W.heap.size:=fun z hz=>hW'.lt z (by simp [hz])
 have hlt1:∀ z∈p1,z.block < W.heap.size:=fun z hz=>hW'.lt z (by simp [hz])
 have hlt2:∀ z∈p2,z.block < W.heap.size:=fun z hz=>hW'.lt z (by simp [hz])
 exact⟨_,rfl,Sh.law_post (pa:=(p0++(p1++(p2++([]++([]++([]++[]))))))) (pv:=[]) hW' hg (by simp) (fun sp hsp=>Zn2 (WideElems.Trod_stays Zt8 (by kernel_rfl) (of_decide_eq_true (by kernel_rfl)) t0 (fun z hz=>hg.same (hlt0 z hz)) (fun z hz=>hsp z (by simp [hz]))) (WideElems.Trod_stays Zt8 (by kernel_rfl) (of_decide_eq_true (by kernel_rfl)) t1 (fun z hz=>hg.same (hlt1 z hz)) (fun z hz=>hsp z (by simp [hz]))) (WideElems.Trod_stays Zt8 (by kernel_rfl) (of_decide_eq_true (by kernel_rfl)) t2 (fun z hz=>hg.same (hlt2 z hz)) (fun z hz=>hsp z (by simp [hz]))) (shut_int u3 hx3) (shut_int u3 hx4) (shut_int u3 hx5)) (fun _ _=>rfl) (fun _ _ _=>(trodAll_cons_mk (shut_bool u4 _) trodAll_mk0))
  (ok_one (by kernel_rfl) rfl (okWide_bool_mk u4 _))⟩
noncomputable def Zm3 (os:Os):World:=
 { World.holding Tryd.prog os ⟨#[],#[],[]⟩ with heap:=(((World.holding Tryd.prog os ⟨#[],#[],[]⟩).heap).modify 2 (Sh.laidBlock (Rows.laid_unicode_utf8_acceptRanges:DataW Unit))).modify 1 (Sh.laidBlock (Rows.laid_unicode_utf8_first:DataW Unit)) }
theorem Z19 (os:Os):laidMet Tryd.prog Rows.evalFuelRow.laid ((Zm3 os).forCall (fun _ _=>0) ⟨#[],#[(Zpu (Ty.pair (Ty.slice 3 (Ty.int .i64)) (Ty.pair (Ty.slice 3 (Ty.int .i64)) (Ty.pair (Ty.int .i64) Ty.unit))) ((Ty.pair (Ty.slice 3 (Ty.int .i64)) (Ty.pair (Ty.slice 3 (Ty.int .i64)) (Ty.pair (Ty.int .i64) Ty.unit)))).zeros),.slice none 0 0,.slice none 0 0,.int .i64 0,.int .i64 0,.int .i64 0],[]⟩).memory:=
 laidMet_of_run' 8 (by kernel_rfl) (by kernel_rfl)
theorem Z7l (os:Os){H:Type}(enc:TypeId × Value→H):∃ places,DataW.whole enc Tryd.prog ((Zm3 os).forCall (fun _ _=>0) ⟨#[],#[(Zpu (Ty.pair (Ty.slice 3 (Ty.int .i64)) (Ty.pair (Ty.slice 3 (Ty.int .i64)) (Ty.pair (Ty.int .i64) Ty.unit))) ((Ty.pair (Ty.slice 3 (Ty.int .i64)) (Ty.pair (Ty.slice 3 (Ty.int .i64)) (Ty.pair (Ty.int .i64) Ty.unit)))).zeros),.slice none 0 0,.slice none 0 0,.int .i64 0,.int .i64 0,.int .i64 0],[]⟩).memory Tryd.f5.params.toList Rows.evalFuelSpec.vars false (#[(Zpu (Ty.pair (Ty.slice 3 (Ty.int .i64)) (Ty.pair (Ty.slice 3 (Ty.int .i64)) (Ty.pair (Ty.int .i64) Ty.unit))) ((Ty.pair (Ty.slice 3 (Ty.int .i64)) (Ty.pair (Ty.slice 3 (Ty.int .i64)) (Ty.pair (Ty.int .i64) Ty.unit)))).zeros),.slice none 0 0,.slice none 0 0,.int .i64 0,.int .i64 0,.int .i64 0]:Array Value).toList 8=some ([(((Ty.pair (Ty.slice 3 (Ty.int .i64)) (Ty.pair (Ty.slice 3 (Ty.int .i64)) (Ty.pair (Ty.int .i64) Ty.unit)))).zdata),.nil,.nil,.lit (.int .i64 0),.lit (.int .i64 0),.lit (.int .i64 0)],[],places):=
 ⟨[],by kernel_rfl⟩
theorem Z8v (os:Os)(started:os.Started)(H:Type)(enc:TypeId × Value→H)(F:Stop.Interp) :
  ReturnsInHanded {} Tryd.checked os 5 .any ((OpenSpec.ofChange Rows.evalFuelSpec).preRow enc Tryd.prog Tryd.f5 Rows.evalFuelRow.domain false Rows.evalFuelRow.laid) (((OpenSpec.ofChange Rows.evalFuelSpec).at F).post enc Tryd.prog Tryd.f5 false true false false):=by
 obtain⟨places,hx⟩:=Z7l os enc
 refine returnsInHanded_of_row (C:=Tryd.checked) (s:=OpenSpec.ofChange Rows.evalFuelSpec) own started (by kernel_rfl) Tryd.func5
  (witness_row_at (enc:=enc) (C:=Tryd.checked) false (Zm3 os) #[(Zpu (Ty.pair (Ty.slice 3 (Ty.int .i64)) (Ty.pair (Ty.slice 3 (Ty.int .i64)) (Ty.pair (Ty.int .i64) Ty.unit))) ((Ty.pair (Ty.slice 3 (Ty.int .i64)) (Ty.pair (Ty.slice 3 (Ty.int .i64)) (Ty.pair (Ty.int .i64) Ty.unit)))).zeros),.slice none 0 0,.slice none 0 0,.int .i64 0,.int .i64 0,.int .i64 0] rfl (by kernel_rfl) (by kernel_rfl) (by kernel_rfl)
   (OpenSpec.preRow_of_cond 8 hx (by kernel_rfl) (fun k hk=>by cases hk) (by kernel_rfl) (Z19 os))) ?_
 intro W base args ds gs before hval hW _ hcd hwt hL _ _
 exact Z3e H enc W base args ds gs before hval hW hL
theorem Yda:Rows.EvalFuelSaid:=
 OpenClaim.holds_of_cond 5 Tryd.f5 rfl rfl rfl rfl rfl rfl rfl ⟨rfl,rfl,rfl,rfl,rfl⟩ rfl rfl rfl rfl rfl (by kernel_rfl) Tryd.func5 (by kernel_rfl)
  (of_decide_eq_true (by kernel_rfl)) (by unfold Func.isWrapper;first | (rw [if_pos (by decide +kernel)];kernel_rfl) | (rw [if_neg (by decide +kernel)];exact⟨rfl,rfl⟩))
  (fun os started H enc _ F=>by rw [OpenClaim.pre_eq_preRow];exact Z8v os started H enc F)
theorem Ztm (f:FuncId) (fn:Func) (hf:Tryd.pinned.checked.prog.funcNamed "turnstone/turnstonelaw16.EvalFuel"=some f) (hfn:Tryd.pinned.checked.prog.funcs[f]?=some fn) :
  false=Tryd.pinned.checked.prog.looks []∧∀ (j:Nat) t,fn.params[j]?=some t→Tryd.pinned.checked.prog.wantsStandIn t=false:=by
 obtain rfl:f=5:=Option.some.inj ((show Tryd.prog.funcNamed "turnstone/turnstonelaw16.EvalFuel"=some 5 by kernel_rfl).symm.trans hf) |>.symm
 obtain rfl:fn=Tryd.f5:=(Option.some.inj (Tryd.func5.symm.trans hfn)).symm
 refine⟨by kernel_rfl,fun j t ht=>?_⟩
 rw [Tryd.params5] at ht
 rcases j with _ | _ | _ | _ | _ | _ | _
 all_goals first
  | (simp at ht;done)
  | (obtain rfl:=Option.some.inj ht;kernel_rfl)
  | (simp at ht;subst ht;kernel_rfl)
theorem proved:Rows.EvalFuelCardSaid:=
 Claim7.holds_tied_plain_at .later [] _ _ _ _ Yda (fun _ h=>by cases h) (by kernel_rfl) (fun _ h=>by cases h) evalFuel_row_tie rfl ⟨rfl,rfl⟩ (by kernel_rfl) rfl Ztm (by kernel_rfl)
#print axioms proved
end Go.Proofs.YtlogdohlcdhepaaDoor.evalFuel
