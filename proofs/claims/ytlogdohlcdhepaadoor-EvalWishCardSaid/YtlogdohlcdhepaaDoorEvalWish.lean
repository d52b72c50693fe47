/- This text proves 'Rows.EvalWishCardSaid': the law 'EvalWish' returns true whatever it is given, in whatever memory and on every tape. The condition is the card's own: the listed package-level variables hold what the program's text lays. -/
import Derived.Test.YtlogdohlcdhepaaDoorCards
import Derived.Test.YtlogdohlcdhepaaDoorTie
import Derived.Deep.DeepHandedRow
import Derived.Lib.LaidTab
import Derived.Test.YtlogdohlcdhepaaDoorM20
set_option linter.unusedVariables false
set_option linter.unusedSimpArgs false
set_option maxRecDepth 100000
namespace Go.Proofs.YtlogdohlcdhepaaDoor.evalWish
open Go.Sh gen base
variable {S:Sums}{m:Mem}
abbrev RawT:Ty:=(Ty.pair (Ty.slice 3 (Ty.int .i64)) (Ty.pair (Ty.slice 3 (Ty.int .i64)) (Ty.pair (Ty.int .i64) Ty.unit)))
theorem words_flat (l:List Int):(l.flatMap fun n:Int=>[Value.int .u64 n])=words l:=List.map_eq_flatMap.symm
theorem wd_of {l:List Int}(h:∀ n∈l,(Lit.int .u64 n).wf=true):Wd l:=fun n hn=>u64_le (h n hn)
set_option maxHeartbeats 16000000 in
theorem law_run (hK:S 12=[([],.bool true)])(hN:Nz S){d:RawT.D}{cs:List Value}(hl:Ty.wf RawT d)(ha:At m RawT d cs)
    {refs:List Int} {ro:Option Addr} {rf:Nat} (hr:Rs m ro refs.length (refs.flatMap fun n:Int=>[Value.int .u64 n]) 45 1 rf) (hrf:rf < m.next) (hrl:refs.length≤9223372036854775807) (hrw:∀ n∈refs,(Lit.int .u64 n).wf=true)
    {loc:List Int} {lo:Option Addr} {lf:Nat} (ho:Rs m lo loc.length (loc.flatMap fun n:Int=>[Value.int .u64 n]) 45 1 lf) (hlf:lf < m.next) (hll:loc.length≤9223372036854775807) (hlw:∀ n∈loc,(Lit.int .u64 n).wf=true)
    {wish:Int} (hwi:(Lit.int .i64 wish).wf=true) :
    ∃ r m',callw Tryd.prog TT S 6 [tyVal RawT cs,.slice ro refs.length refs.length,.slice lo loc.length loc.length,.int .i64 wish] m=some (r,m')∧r=.bool true:=by
  have hkn:=fun m'=>sum_ok (P:=Tryd.prog) (T:=TT) (m:=m') hK
  have hNk:∀ f,f≠66→f≠12→S f=[]:=hN.e
  rw [words_flat] at hr ho
  obtain⟨c1,c2,ecs,hops,c3,c4,ec2,hsh,c5,c6,ec4,hn,hunit⟩:=ha.atQ
  simp only [AtQ] at hunit hn
  subst hunit hn ec4
  obtain⟨oa,f1,rfl,hro,hqo⟩:=ints_of hops
  obtain⟨sa,f2,rfl,hrs,hqs⟩:=ints_of hsh
  subst ec2 ecs
  obtain⟨ops,sh,n,x⟩:=d
  have hol:ops.length≤9223372036854775807:=hl.1.1
  change ∃ r m',callw Tryd.prog TT S 6 [.agg #[.slice oa ops.length ops.length,.slice sa sh.length sh.length,.int .i64 n],.slice ro refs.length refs.length,.slice lo loc.length loc.length,.int .i64 wish] m=some (r,m')∧r=.bool true
  have io:IntsAt (fun f=>f < m.next) m oa ops:=⟨f1,hro,hqo⟩
  have is:IntsAt (fun f=>f < m.next) m sa sh:=⟨f2,hrs,hqs⟩
  clear hops hsh hro hrs ha
  obtain⟨o1,k1,n1⟩:=new_own (m:=m) (cs:=[.slice oa ops.length ops.length,.slice sa sh.length sh.length,.int .i64 n]) (e:=47) rfl
  obtain⟨b1,hb1⟩:∃ b,m.next=b:=⟨_,rfl⟩
  obtain⟨m1,hm1⟩:∃ mm,m.new [.slice oa ops.length ops.length,.slice sa sh.length sh.length,.int .i64 n] 47=mm:=⟨_,rfl⟩
  rw [hm1,hb1] at o1 n1
  rw [hm1] at k1
  have l1:=o1.load (off:=0) 3 (by simp)
  simp [window] at l1
  have i1:∀ {ao:Option Addr} {l:List Int},IntsAt (fun f=>f < m.next) m ao l→IntsAt (fun f=>f < m1.next) m1 ao l:=fun h=>by
    obtain⟨f,h1,h2⟩:=h.keep k1 (by simp)
    exact⟨f,h1,fun hz=>by have:=h2 hz;have:=k1.1;omega⟩
  obtain⟨_,mU,cU,va,ba,ta,rfl,hUA,kU,nu1,nu2,nu3,nu4⟩:=unit_run (m0:=m1) (n:=n) ⟨hNk _ (by decide) (by decide),hNk _ (by decide) (by decide),hNk _ (by decide) (by decide),hNk _ (by decide) (by decide),hNk _ (by decide) (by decide),hNk _ (by decide) (by decide),hNk _ (by decide) (by decide)⟩ (i1 io) (i1 is) hol
  have hsz:=unitP_sz ops sh n
  generalize unitP ops sh n=s at *
  obtain⟨o2,k2,n2⟩:=new_own (m:=mU) (cs:=[.int .i64 0,.int .i64 0,.slice none 0 0,.slice none 0 0,.slice none 0 0]) (e:=34) rfl
  obtain⟨xb,hxb⟩:∃ b,mU.next=b:=⟨_,rfl⟩
  obtain⟨mV,eV,oU,kV⟩:=store_own (r:=_) rfl o2 (off:=0) (vs:=uCells s.un va ba ta) (by simp) (by simp [one_int,one_slice])
  have kUV:=k2.fresh kV (by simp)
  have eo:over [.int .i64 0,.int .i64 0,.slice none 0 0,.slice none 0 0,.slice none 0 0] 0 (uCells s.un va ba ta)=uCells s.un va ba ta:=rfl
  rw [eo] at oU
  have eV:storeRow (mU.new [.int .i64 0,.int .i64 0,.slice none 0 0,.slice none 0 0,.slice none 0 0] 34) ⟨mU.next,0,none⟩ [.int .i64 1,.int .i64 2,.slice va s.vals.length s.vals.length,.slice ba s.blks.length s.blks.length,.slice ta s.sts.length s.sts.length]=some mV:=eV
  rw [hxb] at oU eV
  have hUV:=hUA.keep kUV (by simp)
  have kmV:Keeps m mV []:=(k1.trans kU).trans kUV
  have hHo:Ho S:=⟨hNk _ (by decide) (by decide),hNk _ (by decide) (by decide),hNk _ (by decide) (by decide),hNk _ (by decide) (by decide),hNk _ (by decide) (by decide),hNk _ (by decide) (by decide)⟩
  have hHp:Hp S:=⟨hNk _ (by decide) (by decide),hNk _ (by decide) (by decide),hNk _ (by decide) (by decide),hNk _ (by decide) (by decide),hNk _ (by decide) (by decide),hNk _ (by decide) (by decide),hNk _ (by decide) (by decide),hNk _ (by decide) (by decide),hNk _ (by decide) (by decide)⟩
  have hos:=objs_ok (wd_of hrw)
  obtain⟨_,mO1,cO1,⟨rb1,vb1,vf1,rfl,hR1⟩,kO1⟩:=objects_run (m:=mV) (hNk 14 (by decide) (by decide)) hHo (c:=refs.length) (hr.keep0 kmV (by simp)) (fun _=>by have:=kmV.1;omega) (wd_of hrw)
  obtain⟨_,mH1,cH1,⟨h1,hf1,wb1,wf1,rfl,hH1,nh1,nw1⟩,kH1⟩:=heap_run (hNk 15 (by decide) (by decide)) hHp hos hR1
  have kVH1:=kO1.trans kH1
  have kmH1:=kmV.trans kVH1
  obtain⟨_,mO2,cO2,⟨rb2,vb2,vf2,rfl,hR2⟩,kO2⟩:=objects_run (m:=mH1) (hNk 14 (by decide) (by decide)) hHo (c:=refs.length) (hr.keep0 kmH1 (by simp)) (fun _=>by have:=kmH1.1;omega) (wd_of hrw)
  obtain⟨_,mH2,cH2,⟨h2,hf2,wb2,wf2,rfl,hH2,nh2,nw2⟩,kH2⟩:=heap_run (hNk 15 (by decide) (by decide)) hHp hos hR2
  have kHH:=kO2.trans kH2
  have kmH2:=kmH1.trans kHH
  have hH1':=hH1.keep kHH (by simp) (by simp)
  have kVH2:=kVH1.trans kHH
  have oU2:=oU.keep kVH2 (by simp)
  have hU2:=hUV.keep kVH2 (by simp)
  have q1:=hH1.h.flt
  have q2:=hH1.w.flt
  have q3:=kO2.1
  have q4:=kVH1.1
  have q5:=kUV.1
  have q6:=hH2.h.flt
  have q7:=hH2.w.flt
  have q8:=kO1.1
  have q9:=oU.flt
  have lUx:∀ m',Keeps mH2 m' [hf1,wf1]→loadRow m' ⟨xb,0,none⟩ 5=some [.int .i64 1,.int .i64 2,.slice va s.vals.length s.vals.length,.slice ba s.blks.length s.blks.length,.slice ta s.sts.length s.sts.length]:=fun m' k=>(oU2.keep k (by simp;omega)).load (off:=0) 5 (by simp)
  have lU2:=lUx mH2 ((keeps_refl _).mono (by simp))
  obtain⟨hw,hhw⟩:∃ hw,wO (objsP refs)=hw:=⟨_,rfl⟩
  have hwne:hw≠[]:=by rw [← hhw];simp [wO]
  have hwl:hw.length≤100:=by rw [← hhw];have:=hos.l;omega
  have hwd:Wd hw:=by rw [← hhw];exact wO_wd hos
  rw [hhw] at hH1' hH2
  have pk:=pickb_run (m:=mH2) (hNk 16 (by decide) (by decide)) wish 9 (by omega) (by omega)
  obtain⟨w,hw9⟩:∃ w,wish % 9=w:=⟨_,rfl⟩
  have w0:0≤w∧w≤8:=by omega
  rw [hw9] at pk
  have ww:IntKind.i64.wrap (w+1)=w+1:=wrap_i64 (by omega) (by omega)
  obtain⟨O,I,hT,hck⟩:=check_any hN.nk (hsz.size nu2) (show s.vals.length≤_ by omega) (show s.blks.length≤_ by omega) (show s.sts.length≤_ by omega)
  have hQ:∀ f,f < mU.next→f < mH2.next:=fun f hf=>by have:=kVH2.1;omega
  refine fn_w 16 [39,70] k6 (hNk _ (by decide) (by decide)) rfl ?_
  simp [-Int.natCast_add,-w6_7,-BitVec.toNat_or,-BitVec.toNat_ofInt,-BitVec.toNat_and,box_of b47,load_agg ld47,alloc_of zo34,store_of sz34,load_agg ld34,alloc_of zo28,store_of sz28,fieldAddr_of fa28_0,load_of ld3,fieldAddr_of fa28_2,fieldAddr_of fa34_2,load_of ld30,index_slice u30 sz38,fieldAddr_of fa38_0,fieldAddr_of fa28_4,load_agg ld28,hm1,hb1,l1,cU,hxb,eV,cO1,cH1,cO2,cH2,hkn,pk]
  have lockw:=wd_of hlw
  cases hcp:checkP s.un O I with
  | false =>
    rw [hcp] at hck
    obtain⟨_,mR1,cR1,rfl,kR1⟩:=refuse_run (m:=mH2) (hNk 10 (by decide) (by decide)) (a2:=.slice lo loc.length loc.length) (hb:=h1) (wish:=w) (fuel:=600) (x:=1) (y:=2) (va:=va) (ba:=ba) (sa:=ta) (nv:=s.vals.length) (nb:=s.blks.length) (ns:=s.sts.length)
      (fun m' k=>hck m' (hU2.keep k (by simp)) (fun f hf=>by have:=hQ f hf;have:=k.1;omega))
    obtain⟨mE1,fE1,eE1,oE1,kE1,_⟩:=newst (m:=mR1) (zs:=[.int .i64 0,.int .i64 0,.int .i64 0,.slice none 0 0,.int .i64 0]) (vs:=[.int .i64 0,.int .i64 (-1),.int .i64 (-1),.slice none 0 0,.int .i64 0]) (e:=28) rfl (by simp [one_int,one_slice])
    have kHE1:=kR1.trans kE1
    have lE1:=lUx mE1 kHE1.nil
    obtain⟨_,mR2,cR2,rfl,kR2⟩:=refuse_run (m:=mE1) (hNk 10 (by decide) (by decide)) (a2:=.slice lo loc.length loc.length) (hb:=h2) (wish:=w+1) (fuel:=600) (x:=1) (y:=2) (va:=va) (ba:=ba) (sa:=ta) (nv:=s.vals.length) (nb:=s.blks.length) (ns:=s.sts.length)
      (fun m' k=>hck m' ((hU2.keep kHE1 (by simp)).keep k (by simp)) (fun f hf=>by have:=hQ f hf;have:=k.1;have:=kHE1.1;omega))
    obtain⟨mE2,fE2,eE2,oE2,kE2,_⟩:=newst (m:=mR2) (zs:=[.int .i64 0,.int .i64 0,.int .i64 0,.slice none 0 0,.int .i64 0]) (vs:=[.int .i64 0,.int .i64 (-1),.int .i64 (-1),.slice none 0 0,.int .i64 0]) (e:=28) rfl (by simp [one_int,one_slice])
    have kEE:=kR2.trans kE2
    have kHE:=kHE1.trans kEE
    have H:=wtail_eq hN (hU2.keep kHE (by simp)) (oU2.keep kHE (by simp)) (oE1.keep kEE (by simp)) oE2 (fun m2 _=>samefr_run (m:=m2) (hNk _ (by decide) (by decide)) (hNk _ (by decide) (by decide)) (Q:=fun _=>True) (R:=fun _=>True) (fs:=[]) (fo:=none) (go:=none) ⟨none,[],0,rfl,rfl,by simp,⟨by simp,Or.inl ⟨rfl,.nil⟩⟩,by simp⟩ ⟨none,[],0,rfl,rfl,by simp,⟨by simp,Or.inl ⟨rfl,.nil⟩⟩,by simp⟩ (by simp) (by simp)) (hH1'.keep kHE (by simp) (by simp)) (hH2.keep kHE (by simp) (by simp)) hwne (by omega) (Or.inl (by omega)) (show s.vals.length≤_ by omega)
    simp [-Int.natCast_add,-w6_9,-BitVec.toNat_or,-BitVec.toNat_ofInt,-BitVec.toNat_and,box_of b47,load_agg ld47,alloc_of zo34,store_of sz34,load_agg ld34,alloc_of zo28,store_of sz28,fieldAddr_of fa28_0,load_of ld3,fieldAddr_of fa28_2,fieldAddr_of fa34_2,load_of ld30,index_slice u30 sz38,fieldAddr_of fa38_0,fieldAddr_of fa28_4,load_agg ld28,lU2,cR1,eE1,lE1,ww,cR2,eE2]
    refine (w_seq _ _).1 ((w_seq _ _).1 (w_sub H ?_))
    exact⟨by rfl,by rfl,by rfl,by rfl,by rfl,trivial⟩
  | true =>
    rw [hcp] at hck
    have hok:=uOk_un hsz nu1 nu2 hcp
    have hckx:∀ mB,Keeps mH2 mB [hf1,wf1]→∀ m',Keeps mB m' []→∃ m2,callw Tryd.prog TT S 22 [.agg (uCells s.un va ba ta).toArray] m'=some (.bool true,m2)∧Keeps m' m2 []:=fun mB kB m' k=>by
      have kk:Keeps mH2 m' [hf1,wf1]:=kB.trans k.nil
      exact hck m' (hU2.keep kk (fun f hf=>by simp at hf;omega)) (fun f hf=>by have:=hQ f hf;have:=kk.1;omega)
    have w1:-9223372036854775808≤w∧w≤9223372036854775807:=by omega
    have w2:-9223372036854775808≤w+1∧w+1≤9223372036854775807:=by omega
    obtain⟨v1,mR1,cR1,⟨K1,e1,e2,e3,e4,X1⟩,kR1⟩:=run_run (m:=mH2) (nuw_of hN) hU2 hQ hok (hckx mH2 ((keeps_refl _).mono (by simp))) hH1' ⟨by omega,by omega⟩ hwd (by omega) (ho.keep0 kmH2 (by simp)) (fun _=>by have:=kmH2.1;omega) lockw ⟨Nat.le_refl _,hll⟩ (wish:=w) (fuel:=600) w1 (by omega)
    obtain⟨V1,hV1⟩:∃ V:Vv,(⟨wb1,hw,(parF s.un loc (blkD s.un 0).1 (List.replicate (nv s.un) 0,0)).1,w,(parF s.un loc (blkD s.un 0).1 (List.replicate (nv s.un) 0,0)).2⟩:Vv)=V:=⟨_,rfl⟩
    have eV2:(⟨wb2,hw,(parF s.un loc (blkD s.un 0).1 (List.replicate (nv s.un) 0,0)).1,w+1,(parF s.un loc (blkD s.un 0).1 (List.replicate (nv s.un) 0,0)).2⟩:Vv)={ up V1 with hwb:=wb2 }:=by rw [← hV1];rfl
    have rel:=runF_rel (fuel:=600) hok ((600:Int).toNat+1) 0 V1 hok.b.1 (by rw [← hV1];exact w0.1)
    have hlen:=runF_hwl (u:=s.un) (fuel:=600) ((600:Int).toNat+1) 0 V1
    have hV1w:V1.hw=hw:=by rw [← hV1]
    rw [hV1] at X1
    rw [hV1w] at hlen
    have nex:∀ l:List Int,l.length=hw.length→l≠[]:=fun l h e=>by
      rw [e] at h
      cases hw with
      | nil=>exact hwne rfl
      | cons _ _=>simp at h
    have second:∀ (mE:Mem),Keeps mH2 mE [hf1,wf1]→∃ v2 mR2,callw Tryd.prog TT S 10 [.agg (uCells s.un va ba ta).toArray,.pointer (some ⟨h2,0,none⟩),.slice lo loc.length loc.length,.int .i64 (w+1),.int .i64 600] mE=some (v2,mR2)∧(∃ K2:Kv,K2.hb=h2∧K2.hf=hf2∧K2.hwf=wf2∧K2.room=100∧ExitV (fun f=>f < mU.next) mE mR2 s.un K2 v2 ((runF s.un 600 ((600:Int).toNat+1) 0 (up V1)).hb wb2))∧Keeps mE mR2 [hf2,wf2]:=by
      intro mE kE
      have hn:=kE.1
      have:=run_run (m:=mE) (nuw_of hN) (hU2.keep kE (fun f hf=>by simp at hf;omega)) (fun f hf=>by have:=hQ f hf;omega) hok (hckx mE kE) (hH2.keep kE (by simp;omega) (by simp;omega)) ⟨by omega,by omega⟩ hwd (by omega) (ho.keep0 (m':=mE) ((kmH2.nil (fs:=[hf1,wf1])).trans kE) (fun _=>by have:=kmH1.1;have:=kmV.1;simp;omega)) (fun _=>by have:=kmH2.1;omega) lockw ⟨Nat.le_refl _,hll⟩ (wish:=w+1) (fuel:=600) w2 (by omega)
      rw [eV2,runF_hb] at this
      exact this
    have run2:∀ (v:Value) (c st val n:Int) (fo:Option Addr) (k:Nat),v=.agg #[.int .i64 c,.int .i64 st,.int .i64 val,.slice fo k k,.int .i64 n]→callw Tryd.prog TT S 10 [.agg (uCells s.un va ba ta).toArray,.pointer (some ⟨h1,0,none⟩),.slice lo loc.length loc.length,.int .i64 w,.int .i64 600] mH2=some (v,mR1)→
        (∀ (v2:Value) (K2:Kv) (mE1 mR2:Mem) (fE1:Nat),Own mE1 mR1.next [.int .i64 c,.int .i64 st,.int .i64 val,.slice fo k k,.int .i64 n] 28 fE1→mR1.next≤fE1→Keeps mR1 mE1 []→K2.hb=h2→K2.hf=hf2→K2.hwf=wf2→ExitV (fun f=>f < mU.next) mE1 mR2 s.un K2 v2 ((runF s.un 600 ((600:Int).toNat+1) 0 (up V1)).hb wb2)→Keeps mE1 mR2 [hf2,wf2]→
          ∃ (c2 st2 val2 n2:Int) (go:Option Addr) (k2:Nat),v2=.agg #[.int .i64 c2,.int .i64 st2,.int .i64 val2,.slice go k2 k2,.int .i64 n2]∧∀ (mE2:Mem) (fE2:Nat),Own mE2 mR2.next [.int .i64 c2,.int .i64 st2,.int .i64 val2,.slice go k2 k2,.int .i64 n2] 28 fE2→Keeps mR2 mE2 []→
            W Tryd.prog TT S 16 [39,70] (.seq (.seq (rgn TT 6 9) (.cond (.tmp 70) (.seq (rgn TT 6 10) .ret) .skip)) (.seq (rgn TT 6 11) .ret)) [] [(9,.pointer (some ⟨xb,0,none⟩)),(10,.pointer (some ⟨h1,0,none⟩)),(12,.pointer (some ⟨h2,0,none⟩)),(14,.pointer (some ⟨mR1.next,0,none⟩)),(15,.pointer (some ⟨mR2.next,0,none⟩))] mE2 (QF Tryd.prog [.tmp 8] fun v m1=>v=.bool true))→
        W Tryd.prog TT S 16 [39,70] (.seq (rgn TT 6 7) (.seq (rgn TT 6 8) (.seq (.seq (rgn TT 6 9) (.cond (.tmp 70) (.seq (rgn TT 6 10) .ret) .skip)) (.seq (rgn TT 6 11) .ret)))) [] [(2,.slice lo loc.length loc.length),(3,.int .i64 w),(9,.pointer (some ⟨xb,0,none⟩)),(10,.pointer (some ⟨h1,0,none⟩)),(12,.pointer (some ⟨h2,0,none⟩))] mH2 (QF Tryd.prog [.tmp 8] fun v m1=>v=.bool true):=by
      intro v c st val n fo k hv cv hrest
      subst hv
      have cv:callw Tryd.prog TT S 10 [.agg #[.int .i64 1,.int .i64 2,.slice va s.vals.length s.vals.length,.slice ba s.blks.length s.blks.length,.slice ta s.sts.length s.sts.length],.pointer (some ⟨h1,0,none⟩),.slice lo loc.length loc.length,.int .i64 w,.int .i64 600] mH2=_:=cv
      obtain⟨mE1,fE1,eE1,oE1,kE1,nE1⟩:=newst (m:=mR1) (zs:=[.int .i64 0,.int .i64 0,.int .i64 0,.slice none 0 0,.int .i64 0]) (vs:=[.int .i64 c,.int .i64 st,.int .i64 val,.slice fo k k,.int .i64 n]) (e:=28) rfl (by simp [one_int,one_slice])
      have lE1:=lUx mE1 (kR1.trans kE1.nil)
      obtain⟨v2,mR2,cR2,⟨K2,b1,b2,b3,_,X2⟩,kR2⟩:=second mE1 (kR1.trans kE1.nil)
      obtain⟨c2,st2,val2,n2,go,k2,rfl,hW⟩:=hrest v2 K2 mE1 mR2 fE1 oE1 nE1 kE1 b1 b2 b3 X2 kR2
      have cR2:callw Tryd.prog TT S 10 [.agg #[.int .i64 1,.int .i64 2,.slice va s.vals.length s.vals.length,.slice ba s.blks.length s.blks.length,.slice ta s.sts.length s.sts.length],.pointer (some ⟨h2,0,none⟩),.slice lo loc.length loc.length,.int .i64 (w+1),.int .i64 600] mE1=_:=cR2
      obtain⟨mE2,fE2,eE2,oE2,kE2,nE2⟩:=newst (m:=mR2) (zs:=[.int .i64 0,.int .i64 0,.int .i64 0,.slice none 0 0,.int .i64 0]) (vs:=[.int .i64 c2,.int .i64 st2,.int .i64 val2,.slice go k2 k2,.int .i64 n2]) (e:=28) rfl (by simp [one_int,one_slice])
      have H:=hW mE2 fE2 oE2 kE2
      simp [-Int.natCast_add,-w6_9,-BitVec.toNat_or,-BitVec.toNat_ofInt,-BitVec.toNat_and,box_of b47,load_agg ld47,alloc_of zo34,store_of sz34,load_agg ld34,alloc_of zo28,store_of sz28,fieldAddr_of fa28_0,load_of ld3,fieldAddr_of fa28_2,fieldAddr_of fa34_2,load_of ld30,index_slice u30 sz38,fieldAddr_of fa38_0,fieldAddr_of fa28_4,load_agg ld28,lU2,cv,eE1,lE1,ww,cR2,eE2]
      refine (w_seq _ _).1 ((w_seq _ _).1 (w_sub H ?_))
      exact⟨by rfl,by rfl,by rfl,by rfl,by rfl,trivial⟩
    suffices H:W Tryd.prog TT S 16 [39,70] (.seq (rgn TT 6 7) (.seq (rgn TT 6 8) (.seq (.seq (rgn TT 6 9) (.cond (.tmp 70) (.seq (rgn TT 6 10) .ret) .skip)) (.seq (rgn TT 6 11) .ret)))) [] [(2,.slice lo loc.length loc.length),(3,.int .i64 w),(9,.pointer (some ⟨xb,0,none⟩)),(10,.pointer (some ⟨h1,0,none⟩)),(12,.pointer (some ⟨h2,0,none⟩))] mH2 (QF Tryd.prog [.tmp 8] fun v m1=>v=.bool true) by
      refine (w_seq _ _).1 (w_sub H ?_)
      exact⟨by rfl,by rfl,by rfl,by rfl,by rfl,trivial⟩
    clear second pk hr ho io is
    have hnv:nv s.un≤1000000:=hok.n.2
    cases hRA:runF s.un 600 ((600:Int).toNat+1) 0 V1 with
    | go A=>rw [hRA] at rel;exact rel.elim
    | tired A =>
      rw [hRA] at rel hlen X1
      have rel:runF s.un 600 ((600:Int).toNat+1) 0 (up V1)=.tired (up A):=rel
      have hlen:A.hw.length=hw.length:=hlen
      obtain⟨hv,ev⟩:=X1
      refine run2 v1 0 (-1) (-1) A.steps none 0 hv cR1 ?_
      intro v2 K2 mE1 mR2 fE1 oE1 nE1 kE1 b1 b2 b3 X2 kR2
      rw [rel] at X2
      obtain⟨hv2,ev2⟩:=X2
      refine⟨0,-1,-1,A.steps,none,0,hv2,fun mE2 fE2 oE2 kE2=>?_⟩
      have kB:Keeps mE1 mE2 [hf2,wf2]:=kR2.trans kE2.nil
      have kC:Keeps mR1 mE2 [hf2,wf2]:=(kE1.nil (fs:=[hf2,wf2])).trans kB
      have kA:Keeps mH2 mE2 [hf1,wf1,hf2,wf2]:=(kR1.mono (by simp)).trans (kC.mono (by simp))
      have hR1:=kR1.1
      have UA:=hU2.keep kA (fun f hf=>by simp at hf;omega)
      have OU:=oU2.keep kA (by simp;omega)
      have OA:=oE1.keep kB (by simp;omega)
      have HA:=ev.heap
      rw [e1] at HA
      have HA:=HA.keep kC (by rw [e2];simp;omega) (by rw [e3];simp;omega)
      have HB:=ev2.heap
      rw [b1] at HB
      have HB:=HB.keep kE2 (by simp) (by simp)
      exact wtail_eq hN UA OU OA oE2 (fun m2 _=>samefr_run (m:=m2) (hNk _ (by decide) (by decide)) (hNk _ (by decide) (by decide)) (Q:=fun _=>True) (R:=fun _=>True) (fs:=[]) (fo:=none) (go:=none) ⟨none,[],0,rfl,rfl,by simp,⟨by simp,Or.inl ⟨rfl,.nil⟩⟩,by simp⟩ ⟨none,[],0,rfl,rfl,by simp,⟨by simp,Or.inl ⟨rfl,.nil⟩⟩,by simp⟩ (by simp) (by simp)) HA HB (nex _ hlen) (by rw [hlen];omega) (Or.inl (by omega)) hnv
    | left A st val =>
      rw [hRA] at rel hlen X1
      have hlen:A.hw.length=hw.length:=hlen
      obtain⟨⟨fo,hv,hfr⟩,ev⟩:=X1
      refine run2 v1 1 st val A.steps fo _ hv cR1 ?_
      intro v2 K2 mE1 mR2 fE1 oE1 nE1 kE1 b1 b2 b3 X2 kR2
      rcases rel with⟨hval,rel⟩ | ⟨hval,h23,rel⟩
      · rw [rel] at X2
        obtain⟨⟨go,hv2,hgr⟩,ev2⟩:=X2
        refine⟨1,st,val,A.steps,go,_,hv2,fun mE2 fE2 oE2 kE2=>?_⟩
        have kB:Keeps mE1 mE2 [hf2,wf2]:=kR2.trans kE2.nil
        have kC:Keeps mR1 mE2 [hf2,wf2]:=(kE1.nil (fs:=[hf2,wf2])).trans kB
        have kA:Keeps mH2 mE2 [hf1,wf1,hf2,wf2]:=(kR1.mono (by simp)).trans (kC.mono (by simp))
        have hR1:=kR1.1
        have UA:=hU2.keep kA (fun f hf=>by simp at hf;omega)
        have OU:=oU2.keep kA (by simp;omega)
        have OA:=oE1.keep kB (by simp;omega)
        have HA:=ev.heap
        rw [e1] at HA
        have HA:=HA.keep kC (by rw [e2];simp;omega) (by rw [e3];simp;omega)
        have HB:=ev2.heap
        rw [b1] at HB
        have HB:=HB.keep kE2 (by simp) (by simp)
        have FA:=hfr.keep kC (fun f hf=>by simp at hf;omega)
        have FB:=hgr.keep kE2 (by simp)
        obtain⟨L,hL⟩:∃ L,(stD s.un st).map (frW A.ws)=L:=⟨_,rfl⟩
        have hk:(stD s.un st).length=L.length:=by rw [← hL,List.length_map]
        have FB:AtQ (fun f=>mE1.next≤f) mE2 (Ty.slice 44 (Ty.pair (Ty.int .i64) (Ty.pair (Ty.int .i64) (Ty.pair (Ty.slice 45 (Ty.int .u64)) (Ty.pair (Ty.slice 45 (Ty.int .u64)) Ty.unit))))) ((stD s.un st).map (frW A.ws)) [.slice go (stD s.un st).length (stD s.un st).length]:=FB
        rw [hL,hk] at FA FB
        rw [hk] at OA oE2
        have hLb:L.length≤1000000∧∀ f∈L,List.length f.2.2.1≤1000000∧List.length f.2.2.2.1≤1000000:=by
          by_cases hst:st < ns s.un
          · have h9:=hok.fr st hst
            rw [stD_eq hst] at hL
            refine⟨by rw [← hL,List.length_map];exact h9.1,fun f hf=>?_⟩
            rw [← hL] at hf
            obtain⟨g,hg,rfl⟩:=List.mem_map.1 hf
            have:=h9.2 g hg
            exact⟨by simp only [frW,rowW,List.length_map];exact this.1,by simp only [frW,rowW,List.length_map];exact this.2.1⟩
          · have:L=[]:=by
              rw [← hL]
              unfold stD
              rw [List.getD_eq_getElem?_getD,List.getElem?_eq_none (by simpa using hst)]
              rfl
            rw [this];simp
        exact wtail_eq hN UA OU OA oE2 (fun m2 k2=>samefr_run (m:=m2) (hNk _ (by decide) (by decide)) (hNk _ (by decide) (by decide)) (FA.keep k2 (by simp)) (FB.keep k2 (by simp)) hLb.1 hLb.2) HA HB (nex _ hlen) (by rw [hlen];omega) (Or.inr (by
          rcases hval with h | ⟨h,h22⟩
          · exact Or.inl (by omega)
          · exact Or.inr ⟨h,by rw [h22];decide⟩)) hnv
      · cases hRB:runF s.un 600 ((600:Int).toNat+1) 0 (up V1) with
        | go B=>rw [hRB] at rel;exact rel.elim
        | tired B =>
          rw [hRB] at X2
          obtain⟨hv2,ev2⟩:=X2
          refine⟨0,-1,-1,B.steps,none,0,hv2,fun mE2 fE2 oE2 kE2=>?_⟩
          have kB:Keeps mE1 mE2 [hf2,wf2]:=kR2.trans kE2.nil
          have kC:Keeps mR1 mE2 [hf2,wf2]:=(kE1.nil (fs:=[hf2,wf2])).trans kB
          have kA:Keeps mH2 mE2 [hf1,wf1,hf2,wf2]:=(kR1.mono (by simp)).trans (kC.mono (by simp))
          have hR1:=kR1.1
          have UA:=hU2.keep kA (fun f hf=>by simp at hf;omega)
          have OU:=oU2.keep kA (by simp;omega)
          have OA:=oE1.keep kB (by simp;omega)
          exact wtail_23 hN UA OU OA oE2 hval h23 hnv (Or.inr rfl)
        | left B st2 val2 =>
          rw [hRB] at X2 rel
          obtain⟨⟨go,hv2,hgr⟩,ev2⟩:=X2
          refine⟨1,st2,val2,B.steps,go,_,hv2,fun mE2 fE2 oE2 kE2=>?_⟩
          have kB:Keeps mE1 mE2 [hf2,wf2]:=kR2.trans kE2.nil
          have kC:Keeps mR1 mE2 [hf2,wf2]:=(kE1.nil (fs:=[hf2,wf2])).trans kB
          have kA:Keeps mH2 mE2 [hf1,wf1,hf2,wf2]:=(kR1.mono (by simp)).trans (kC.mono (by simp))
          have hR1:=kR1.1
          have UA:=hU2.keep kA (fun f hf=>by simp at hf;omega)
          have OU:=oU2.keep kA (by simp;omega)
          have OA:=oE1.keep kB (by simp;omega)
          exact wtail_23 hN UA OU OA oE2 hval h23 hnv (Or.inl rel)
open Go.ChangeShapes Go.WideShapes Go.ChangeAt Go.RowKit
theorem own:ownKnob Tryd.prog.godebug=none:=by kernel_rfl
theorem tab:Sh.tabCheck Tryd.prog fns=true:=by kernel_rfl
def tables:List (Nat × List Value):=[]
theorem startT (w:World)(h:laidMetH Tryd.prog Rows.evalWishRow.laid w):MRel Tryd.prog (inj0 Tryd.prog) (memG Tryd.prog tables) (allF w) w w:=by
  refine memG_rel Tryd.prog w tables fun p hp=>?_
  simp only [tables,List.mem_cons,List.not_mem_nil,or_false] at hp
theorem walk (w:World)(hL:laidMetH Tryd.prog Rows.evalWishRow.laid w){v0:Value}(h0:DatArg Tryd.prog w (Ty.pair (Ty.slice 3 (Ty.int .i64)) (Ty.pair (Ty.slice 3 (Ty.int .i64)) (Ty.pair (Ty.int .i64) Ty.unit))) v0){v1:Value}(h1:RowArg Tryd.prog w (fun n:Int=>[Value.int .u64 n]) (fun n=>(Lit.int .u64 n).wf=true) 45 1 v1){v2:Value}(h2:RowArg Tryd.prog w (fun n:Int=>[Value.int .u64 n]) (fun n=>(Lit.int .u64 n).wf=true) 45 1 v2)(x3:Int)(hx3:(Lit.int .i64 x3).wf=true) :
    Calls Tryd.prog 6 #[v0,v1,v2,.int .i64 x3] w fun e w'=>e=.returned (.bool true)∧Below w.heap.size w w':=by
  have hM:=startT w hL
  obtain⟨rs0,J0,m0,cs0,hw0,le0,hM0,vr0,hr0,hk0⟩:=h0 _ _ hM
  obtain⟨rs1,J1,m1,ao1,fr1,le1,hM1,vr1,hr1,hg1,hl1,hk1,hz1,hw1⟩:=row_in hM0 sz45 (by omega) (fun _=>rfl) h1
  obtain⟨rs2,J2,m2,ao2,fr2,le2,hM2,vr2,hr2,hg2,hl2,hk2,hz2,hw2⟩:=row_in hM1 sz45 (by omega) (fun _=>rfl) h2
  obtain⟨v',m',h,rfl⟩:=law_run (S:=sums) (m:=m2) rfl nz hw0 ((hr0.keep hk1).keep hk2) (hr1.keep hk2 (by simp)) (by have:=hk2.1;omega) hz1 hw1 hr2 hl2 hz2 hw2 hx3
  exact calls_of mixed (Sh.tab_ok tab) sumsOk Tryd.func6 (by kernel_rfl) h rfl hM2 (.cons ((vr0.mono le1).mono le2) (.cons (vr1.mono le2) (.cons vr2 (.cons (.clo _ rfl) LRel.nil))))
theorem laidOut:laidOutB Tryd.prog=true:=by kernel_rfl
theorem contract (H:Type)(enc:TypeId × Value→H)(W:World)(base:Nat)(args:Array Value)(ds gs:List (DataW H))(before:List MemPlace)
    (hval:∀ (j:Nat) t v,Tryd.f6.params[j]?=some t→args[j]?=some v→Value.okWide Tryd.prog W .any base t v)
    (hW:DataW.Whole enc Tryd.prog Tryd.f6.params.toList Rows.evalWishSpec.vars false W args.toList ds gs before) (hL:laidMetH Tryd.prog Rows.evalWishRow.laid W) :
    Calls Tryd.prog 6 args W fun e W'=>∃ v,e=.returned v∧Rows.evalWishSpec.post enc Tryd.prog Tryd.f6 false true false false W args v W':=by
  have hW':=hW
  obtain⟨p,q,hA0,hV,rfl,hfz,hnd⟩:=hW
  have hA:DataW.TrodAll enc Tryd.prog W 0 (fun _=>true) true Tryd.f6.params.toList args.toList ds p:=hA0
  rw [Tryd.params6] at hA hval
  obtain⟨v0,v1,v2,v3,d0,d1,d2,d3,p0,p1,p2,p3,rfl,rfl,rfl,t0,t1,t2,t3⟩:=trodAll_four hA
  obtain⟨rfl,rfl⟩:=trodVars_none hV
  have hv0:=dat_arg (ty:=(Ty.pair (Ty.slice 3 (Ty.int .i64)) (Ty.pair (Ty.slice 3 (Ty.int .i64)) (Ty.pair (Ty.int .i64) Ty.unit)))) (t:=47) (by kernel_rfl) (hval 0 _ _ rfl rfl) t0
  have hv1:=ints_row u42 u45 sz45 (hval 1 _ _ rfl rfl) t1
  have hv2:=ints_row u42 u45 sz45 (hval 2 _ _ rfl rfl) t2
  obtain⟨x3,rfl,rfl,rfl,hx3⟩:=open_int u3 (hval 3 _ _ rfl rfl) t3
  clear hA0
  simp only [List.append_nil,List.nil_append] at hW'
  refine (walk W hL hv0 hv1 hv2 x3 hx3).mono fun e W' ⟨he,hg⟩=>?_
  subst he
  have hlt0:∀ z∈p0,z.block < W.heap.size:=fun z hz=>hW'.lt z (by simp [hz])
  have hlt1:∀ z∈p1,z.block < W.heap.size:=fun z hz=>hW'.lt z (by simp [hz])
  have hlt2:∀ z∈p2,z.block < W.heap.size:=fun z hz=>hW'.lt z (by simp [hz])
  exact⟨_,rfl,Sh.law_post (pa:=(p0++(p1++(p2++[])))) (pv:=[]) hW' hg (by simp) (fun sp hsp=>trodAll_mk4 (WideElems.Trod_stays laidOut (by kernel_rfl) (of_decide_eq_true (by kernel_rfl)) t0 (fun z hz=>hg.same (hlt0 z hz)) (fun z hz=>hsp z (by simp [hz]))) (WideElems.Trod_stays laidOut (by kernel_rfl) (of_decide_eq_true (by kernel_rfl)) t1 (fun z hz=>hg.same (hlt1 z hz)) (fun z hz=>hsp z (by simp [hz]))) (WideElems.Trod_stays laidOut (by kernel_rfl) (of_decide_eq_true (by kernel_rfl)) t2 (fun z hz=>hg.same (hlt2 z hz)) (fun z hz=>hsp z (by simp [hz]))) (shut_int u3 hx3)) (fun _ _=>rfl) (fun _ _ _=>(trodAll_cons_mk (shut_bool u4 _) trodAll_mk0))
    (ok_one (by kernel_rfl) rfl (okWide_bool_mk u4 _))⟩
noncomputable def laidWorld (os:Os):World:=
  { World.holding Tryd.prog os ⟨#[],#[],[]⟩ with heap:=(((World.holding Tryd.prog os ⟨#[],#[],[]⟩).heap).modify 2 (Sh.laidBlock (Rows.laid_unicode_utf8_acceptRanges:DataW Unit))).modify 1 (Sh.laidBlock (Rows.laid_unicode_utf8_first:DataW Unit)) }
theorem laid_met (os:Os):laidMet Tryd.prog Rows.evalWishRow.laid ((laidWorld os).forCall (fun _ _=>0) ⟨#[],#[(tyVal (Ty.pair (Ty.slice 3 (Ty.int .i64)) (Ty.pair (Ty.slice 3 (Ty.int .i64)) (Ty.pair (Ty.int .i64) Ty.unit))) ((Ty.pair (Ty.slice 3 (Ty.int .i64)) (Ty.pair (Ty.slice 3 (Ty.int .i64)) (Ty.pair (Ty.int .i64) Ty.unit)))).zeros),.slice none 0 0,.slice none 0 0,.int .i64 0],[]⟩).memory:=
  laidMet_of_run' 8 (by kernel_rfl) (by kernel_rfl)
theorem reads (os:Os){H:Type}(enc:TypeId × Value→H):∃ places,DataW.whole enc Tryd.prog ((laidWorld os).forCall (fun _ _=>0) ⟨#[],#[(tyVal (Ty.pair (Ty.slice 3 (Ty.int .i64)) (Ty.pair (Ty.slice 3 (Ty.int .i64)) (Ty.pair (Ty.int .i64) Ty.unit))) ((Ty.pair (Ty.slice 3 (Ty.int .i64)) (Ty.pair (Ty.slice 3 (Ty.int .i64)) (Ty.pair (Ty.int .i64) Ty.unit)))).zeros),.slice none 0 0,.slice none 0 0,.int .i64 0],[]⟩).memory Tryd.f6.params.toList Rows.evalWishSpec.vars false (#[(tyVal (Ty.pair (Ty.slice 3 (Ty.int .i64)) (Ty.pair (Ty.slice 3 (Ty.int .i64)) (Ty.pair (Ty.int .i64) Ty.unit))) ((Ty.pair (Ty.slice 3 (Ty.int .i64)) (Ty.pair (Ty.slice 3 (Ty.int .i64)) (Ty.pair (Ty.int .i64) Ty.unit)))).zeros),.slice none 0 0,.slice none 0 0,.int .i64 0]:Array Value).toList 8=some ([(((Ty.pair (Ty.slice 3 (Ty.int .i64)) (Ty.pair (Ty.slice 3 (Ty.int .i64)) (Ty.pair (Ty.int .i64) Ty.unit)))).zdata),.nil,.nil,.lit (.int .i64 0)],[],places):=
  ⟨[],by kernel_rfl⟩
theorem lifted (os:Os)(started:os.Started)(H:Type)(enc:TypeId × Value→H)(F:Stop.Interp) :
    ReturnsInHanded {} Tryd.checked os 6 .any ((OpenSpec.ofChange Rows.evalWishSpec).preRow enc Tryd.prog Tryd.f6 Rows.evalWishRow.domain false Rows.evalWishRow.laid) (((OpenSpec.ofChange Rows.evalWishSpec).at F).post enc Tryd.prog Tryd.f6 false true false false):=by
  obtain⟨places,hx⟩:=reads os enc
  refine returnsInHanded_of_row (C:=Tryd.checked) (s:=OpenSpec.ofChange Rows.evalWishSpec) own started (by kernel_rfl) Tryd.func6
    (witness_row_at (enc:=enc) (C:=Tryd.checked) false (laidWorld os) #[(tyVal (Ty.pair (Ty.slice 3 (Ty.int .i64)) (Ty.pair (Ty.slice 3 (Ty.int .i64)) (Ty.pair (Ty.int .i64) Ty.unit))) ((Ty.pair (Ty.slice 3 (Ty.int .i64)) (Ty.pair (Ty.slice 3 (Ty.int .i64)) (Ty.pair (Ty.int .i64) Ty.unit)))).zeros),.slice none 0 0,.slice none 0 0,.int .i64 0] rfl (by kernel_rfl) (by kernel_rfl) (by kernel_rfl)
      (OpenSpec.preRow_of_cond 8 hx (by kernel_rfl) (fun k hk=>by cases hk) (by kernel_rfl) (laid_met os))) ?_
  intro W base args ds gs before hval hW _ hcd hwt hL _ _
  exact contract H enc W base args ds gs before hval hW hL
theorem said:Rows.EvalWishSaid:=
  OpenClaim.holds_of_cond 6 Tryd.f6 rfl rfl rfl rfl rfl rfl rfl ⟨rfl,rfl,rfl,rfl,rfl⟩ rfl rfl rfl rfl rfl (by kernel_rfl) Tryd.func6 (by kernel_rfl)
    (of_decide_eq_true (by kernel_rfl)) (by unfold Func.isWrapper;first | (rw [if_pos (by decide +kernel)];kernel_rfl) | (rw [if_neg (by decide +kernel)];exact⟨rfl,rfl⟩))
    (fun os started H enc _ F=>by rw [OpenClaim.pre_eq_preRow];exact lifted os started H enc F)
theorem plain (f:FuncId) (fn:Func) (hf:Tryd.pinned.checked.prog.funcNamed "turnstone/turnstonelaw16.EvalWish"=some f) (hfn:Tryd.pinned.checked.prog.funcs[f]?=some fn) :
    false=Tryd.pinned.checked.prog.looks []∧∀ (j:Nat) t,fn.params[j]?=some t→Tryd.pinned.checked.prog.wantsStandIn t=false:=by
  obtain rfl:f=6:=Option.some.inj ((show Tryd.prog.funcNamed "turnstone/turnstonelaw16.EvalWish"=some 6 by kernel_rfl).symm.trans hf) |>.symm
  obtain rfl:fn=Tryd.f6:=(Option.some.inj (Tryd.func6.symm.trans hfn)).symm
  refine⟨by kernel_rfl,fun j t ht=>?_⟩
  rw [Tryd.params6] at ht
  rcases j with _ | _ | _ | _ | _
  all_goals first
    | (simp at ht;done)
    | (obtain rfl:=Option.some.inj ht;kernel_rfl)
    | (simp at ht;subst ht;kernel_rfl)
theorem proved:Rows.EvalWishCardSaid:=
  Claim7.holds_tied_plain_at .later [] _ _ _ _ said (fun _ h=>by cases h) (by kernel_rfl) (fun _ h=>by cases h) evalWish_row_tie rfl ⟨rfl,rfl⟩ (by kernel_rfl) rfl plain (by kernel_rfl)
#print axioms proved
end Go.Proofs.YtlogdohlcdhepaaDoor.evalWish
