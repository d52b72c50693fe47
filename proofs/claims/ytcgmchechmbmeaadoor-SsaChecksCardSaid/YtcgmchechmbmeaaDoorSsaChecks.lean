/- This text proves 'Rows.SsaChecksCardSaid': the law 'SsaChecks' returns true whatever it is given, in whatever memory and on every tape. The condition is the card's own: the listed package-level variables hold what the program's text lays. -/
import Derived.Test.YtcgmchechmbmeaaDoorCards
import Derived.Test.YtcgmchechmbmeaaDoorTie
import Derived.Deep.DeepHandedRow
import Derived.Lib.LaidTab
import Derived.Test.YtcgmchechmbmeaaDoorM24
set_option linter.unusedVariables false
set_option linter.unusedSimpArgs false
set_option maxRecDepth 100000
namespace Go.Proofs.YtcgmchechmbmeaaDoor.ssaChecks
open Go.Sh gen base
variable {S:Zb7}{m:Mem}
abbrev Z8t:Ty:=(Ty.pair (Ty.slice 3 (Ty.int .i64)) (Ty.pair (Ty.slice 3 (Ty.int .i64)) (Ty.pair (Ty.int .i64) Ty.unit)))
theorem Zyq (l:List Int):(l.flatMap fun n:Int=>[Value.int .i64 n])=l.map (Value.int .i64):=List.map_eq_flatMap.symm
set_option maxHeartbeats 16000000 in
theorem Z5r (hK:S 9=[([],.bool true)])(hN:Nz S){d:Z8t.D}{cs:List Value}(hl:Ty.wf Z8t d)(ha:At m Z8t d cs)
  {how:List Int} {ro:Option Addr} {rf:Nat} (hr:Rs m ro how.length (how.flatMap fun n:Int=>[Value.int .i64 n]) 3 1 rf) (hrf:rf < m.next) (hrl:how.length≤9223372036854775807) (hrw:∀ n∈how,(Lit.int .i64 n).wf=true) :
  ∃ r m',Zaq Tryd.prog TT S 3 [Zo0 Z8t cs,.slice ro how.length how.length] m=some (r,m')∧r=.bool true:=by
 have hkn:=fun m'=>Z60 (P:=Tryd.prog) (T:=TT) (m:=m') hK
 have hNk:∀ f,f≠15→f≠9→S f=[]:=hN.e
 rw [Zyq] at hr
 obtain⟨c1,c2,ecs,hops,c3,c4,ec2,hsh,c5,c6,ec4,hn,hunit⟩:=AtI.of ha.atQ
 simp only [AtI] at hunit hn
 subst hunit hn ec4
 obtain⟨oa,f1,rfl,hro,hqo⟩:=Zd hops
 obtain⟨sa,f2,rfl,hrs,hqs⟩:=Zd hsh
 subst ec2 ecs
 obtain⟨ops,sh,n,x⟩:=d
 have hol:ops.length≤9223372036854775807:=hl.1.1
 change ∃ r m',Zaq Tryd.prog TT S 3 [.agg #[.slice oa ops.length ops.length,.slice sa sh.length sh.length,.int .i64 n],.slice ro how.length how.length] m=some (r,m')∧r=.bool true
 have io:Zag (fun f=>f < m.next) m oa ops:=⟨f1,hro,hqo⟩
 have is:Zag (fun f=>f < m.next) m sa sh:=⟨f2,hrs,hqs⟩
 have ih:Zag (fun f=>f < m.next) m ro how:=⟨rf,Zpg hr,fun _=>hrf⟩
 clear hops hsh hro hrs ha
 obtain⟨o1,k1,n1⟩:=Zas (m:=m) (cs:=[.slice oa ops.length ops.length,.slice sa sh.length sh.length,.int .i64 n]) (e:=24) rfl
 obtain⟨m1,hm1⟩:∃ mm,m.new [.slice oa ops.length ops.length,.slice sa sh.length sh.length,.int .i64 n] 24=mm:=⟨_,rfl⟩
 rw [hm1] at o1 n1 k1
 have l1:=o1.load (off:=0) 3 (by simp)
 simp [Zap] at l1
 have i1:∀ {ao:Option Addr} {l:List Int},Zag (fun f=>f < m.next) m ao l→Zag (qU m1 m1 m1.next) m1 ao l:=fun h=>by
  obtain⟨f,h1,h2⟩:=h.keep k1 (by simp)
  exact⟨f,h1,fun hz=>⟨by have:=h2 hz;have:=k1.1;omega,fun h=>by omega⟩⟩
 obtain⟨_,mU,cU,va,ba,ta,rfl,hUA,kU,nu1,nu2,nu3,nu4⟩:=Z1z (m0:=m1) (n:=n) ⟨hNk _ (by decide) (by decide),hNk _ (by decide) (by decide),hNk _ (by decide) (by decide),hNk _ (by decide) (by decide),hNk _ (by decide) (by decide),hNk _ (by decide) (by decide),hNk _ (by decide) (by decide)⟩ m1.next (i1 io) (i1 is) hol
 have hyes:=Zy6 hN.nk hN.nch ops sh n nu2 nu3 nu4
 have hsm:=(Zun ops sh n).small nu2 nu3 nu4
 generalize Zen ops sh n=s at *
 obtain⟨o2,k2,n2⟩:=Zas (m:=mU) (cs:=[.int .i64 0,.int .i64 0,.slice none 0 0,.slice none 0 0,.slice none 0 0]) (e:=29) rfl
 obtain⟨xb,hxb⟩:∃ b,mU.next=b:=⟨_,rfl⟩
 obtain⟨mV,eV,oU,kV⟩:=Zao (r:=_) rfl o2 (off:=0) (vs:=Za3 s.un va ba ta) (by simp) (by simp [Zau,Zae])
 have kUV:=k2.fresh kV (by simp)
 have eo:Zb1 [.int .i64 0,.int .i64 0,.slice none 0 0,.slice none 0 0,.slice none 0 0] 0 (Za3 s.un va ba ta)=Za3 s.un va ba ta:=rfl
 rw [eo] at oU
 have eV:Zad (mU.new [.int .i64 0,.int .i64 0,.slice none 0 0,.slice none 0 0,.slice none 0 0] 29) ⟨mU.next,0,none⟩ [.int .i64 1,.int .i64 2,.slice va s.vals.length s.vals.length,.slice ba s.blks.length s.blks.length,.slice ta s.sts.length s.sts.length]=some mV:=eV
 rw [hxb] at oU eV
 have q5:=kUV.1
 have hUV:UAt (fun f=>f < mV.next∧f≠xb) mV s.un va ba ta:=by
  have h:=hUA.keep kUV (by simp)
  have hq:∀ f,qU m1 mU m1.next f→f < mV.next∧f≠xb:=fun f hf=>by have:=hf.1;omega
  exact⟨h.v.mono hq,h.b.mono hq,h.s.mono hq⟩
 have kmV:Zaa m mV []:=(k1.trans kU).trans kUV
 have ihV:Zag (fun f=>f < mV.next) mV ro how:=by
  obtain⟨f,h1,h2⟩:=ih.keep kmV (by simp)
  exact⟨f,h1,fun hz=>by have:=h2 hz;have:=kmV.1;omega⟩
 have lV:=oU.load (off:=0) 5 (by simp)
 obtain⟨_,mB,cB,⟨w,vo,bo,so,rfl,hW,hsw⟩,kB⟩:=Z1e (hNk 8 (by decide) (by decide)) (hNk 16 (by decide) (by decide)) oU.flt hUV ihV hrl hsm
 obtain⟨o3,kz3,n3⟩:=Zas (m:=mB) (cs:=[.int .i64 0,.int .i64 0,.slice none 0 0,.slice none 0 0,.slice none 0 0]) (e:=29) rfl
 obtain⟨yb,hyb⟩:∃ b,mB.next=b:=⟨_,rfl⟩
 obtain⟨mC,eC,oW,kC⟩:=Zao (r:=_) rfl o3 (off:=0) (vs:=Za3 w vo bo so) (by simp) (by simp [Zau,Zae])
 have kBC:=kz3.fresh kC (by simp)
 have eo:Zb1 [.int .i64 0,.int .i64 0,.slice none 0 0,.slice none 0 0,.slice none 0 0] 0 (Za3 w vo bo so)=Za3 w vo bo so:=rfl
 rw [eo] at oW
 rw [hyb] at oW eC
 obtain⟨V,hV⟩:=Z1k hN.nk hN.nch (hsw.sizeOk (by omega)) (by have:=hsw.v;omega) (by have:=hsw.b;omega) (by have:=hsw.s;omega)
 have kVC:=kB.trans kBC
 have hUC:=hUV.keep kVC (by simp)
 have hWC:=hW.keep kBC (by simp)
 have nBC:=kBC.1
 have nVC:=kVC.1
 obtain⟨mD,cD,kD⟩:=(hyes mC hUC (fun f hf=>by omega)).2
 have nD:=kD.1
 obtain⟨mE,cE,kE⟩:=(hyes mD (hUC.keep kD (by simp)) (fun f hf=>by omega)).1
 have nE:=kE.1
 obtain⟨mF,cF,kF⟩:=(hV mE ((hWC.keep kD (by simp)).keep kE (by simp)) (fun f hf=>by omega)).1
 have nF:=kF.1
 obtain⟨mG,cG,kG⟩:=(hV mF (((hWC.keep kD (by simp)).keep kE (by simp)).keep kF (by simp)) (fun f hf=>by omega)).2
 have oUC:=oU.keep kVC (by simp)
 have lC:=oUC.load (off:=0) 5 (by simp)
 have lD:=(oUC.keep kD (by simp)).load (off:=0) 5 (by simp)
 have lE:=((oW.keep kD (by simp)).keep kE (by simp)).load (off:=0) 5 (by simp)
 have lF:=(((oW.keep kD (by simp)).keep kE (by simp)).keep kF (by simp)).load (off:=0) 5 (by simp)
 simp [Zap] at lV lC lD lE lF
 simp only [Za3] at cB cD cE cF cG lV lC lD lE lF eC eV
 have es1:nv s.un=s.vals.length:=rfl
 have es2:nb s.un=s.blks.length:=rfl
 have es3:ns s.un=s.sts.length:=rfl
 have es4:s.un.1=1:=rfl
 have es5:s.un.2.1=2:=rfl
 simp only [es1,es2,es3,es4,es5] at cB cD cE cF cG lV lC lD
 refine Zho 7 [] k3 (hNk _ (by decide) (by decide)) rfl ?_
 simp [-Int.natCast_add,-BitVec.toNat_or,-BitVec.toNat_ofInt,-BitVec.toNat_and,Zbw b24,Zuw u4 .eql (Or.inl rfl),hm1,l1,cU,hxb,eV,lV,cB,hyb,eC,hkn,lC,cD,lD,cE,lE,cF,lF,cG]
open Go.ChangeShapes Go.WideShapes Go.ChangeAt Go.RowKit
theorem own:ownKnob Tryd.prog.godebug=none:=by kernel_rfl
theorem tab:Sh.tabCheck Tryd.prog fns=true:=by kernel_rfl
def Zt3:List (Nat × List Value):=[]
theorem Z7m (w:World)(h:laidMetH Tryd.prog Rows.ssaChecksRow.laid w):Za7 Tryd.prog (Z56 Tryd.prog) (memG Tryd.prog Zt3) (Zdm w) w w:=by
 refine Zu5 Tryd.prog w Zt3 fun p hp=>?_
 simp only [Zt3,List.mem_cons,List.not_mem_nil,or_false] at hp
theorem Z8u (w:World)(hL:laidMetH Tryd.prog Rows.ssaChecksRow.laid w){v0:Value}(h0:Z27 Tryd.prog w (Ty.pair (Ty.slice 3 (Ty.int .i64)) (Ty.pair (Ty.slice 3 (Ty.int .i64)) (Ty.pair (Ty.int .i64) Ty.unit))) v0){v1:Value}(h1:Zxg Tryd.prog w (fun n:Int=>[Value.int .i64 n]) (fun n=>(Lit.int .i64 n).wf=true) 3 1 v1) :
  Calls Tryd.prog 3 #[v0,v1] w fun e w'=>e=.returned (.bool true)∧Below w.heap.size w w':=by
 have hM:=Z7m w hL
 obtain⟨rs0,J0,m0,cs0,hw0,le0,hM0,vr0,hr0,hk0⟩:=h0 _ _ hM
 obtain⟨rs1,J1,m1,ao1,fr1,le1,hM1,vr1,hr1,hg1,hl1,hk1,hz1,hw1⟩:=Z8g hM0 sz3 (by omega) (fun _=>rfl) h1
 obtain⟨v',m',h,rfl⟩:=Z5r (S:=Z7e) (m:=m1) rfl nz hw0 (hr0.keep hk1) hr1 hl1 hz1 hw1
 exact Z09 Zst (Sh.tab_ok tab) Z71 Tryd.func3 (by kernel_rfl) h rfl hM1 (.cons (vr0.mono le1) (.cons vr1 Zcv.nil))
theorem Zyb:laidOutB Tryd.prog=true:=by kernel_rfl
theorem Z2l (H:Type)(enc:TypeId × Value→H)(W:World)(base:Nat)(args:Array Value)(ds gs:List (DataW H))(before:List MemPlace)
  (hval:∀ (j:Nat) t v,Tryd.f3.params[j]?=some t→args[j]?=some v→Value.okWide Tryd.prog W .any base t v)
  (hW:DataW.Whole enc Tryd.prog Tryd.f3.params.toList Rows.ssaChecksSpec.vars false W args.toList ds gs before) (hL:laidMetH Tryd.prog Rows.ssaChecksRow.laid W) :
  Calls Tryd.prog 3 args W fun e W'=>∃ v,e=.returned v∧Rows.ssaChecksSpec.post enc Tryd.prog Tryd.f3 false true false false W args v W':=by
 have hW':=hW
 obtain⟨p,q,hA0,hV,rfl,hfz,hnd⟩:=hW
 have hA:DataW.TrodAll enc Tryd.prog W 0 (fun _=>true) true Tryd.f3.params.toList args.toList ds p:=hA0
 rw [Tryd.params3] at hA hval
 obtain⟨v0,v1,d0,d1,p0,p1,rfl,rfl,rfl,t0,t1⟩:=trodAll_two hA
 obtain⟨rfl,rfl⟩:=trodVars_none hV
 have hv0:=Z3o (ty:=(Ty.pair (Ty.slice 3 (Ty.int .i64)) (Ty.pair (Ty.slice 3 (Ty.int .i64)) (Ty.pair (Ty.int .i64) Ty.unit)))) (t:=24) (by kernel_rfl) (hval 0 _ _ rfl rfl) t0
 have hv1:=Z1x u22 u3 sz3 (hval 1 _ _ rfl rfl) t1
 clear hA0
 simp only [List.append_nil,List.nil_append] at hW'
 refine (Z8u W hL hv0 hv1).mono fun e W' ⟨he,hg⟩=>?_
 subst he
 have hlt0:∀ z∈p0,z.block < W.heap.size:=fun z hz=>hW'.lt z (by simp [hz])
 have hlt1:∀ z∈p1,z.block < W.heap.size:=fun z hz=>hW'.lt z (by simp [hz])
 exact⟨_,rfl,Sh.law_post (pa:=(p0++p1)) (pv:=[]) hW' hg (by simp) (fun sp hsp=>trodAll_mk2 (WideElems.Trod_stays Zyb (by kernel_rfl) (of_decide_eq_true (by kernel_rfl)) t0 (fun z hz=>hg.same (hlt0 z hz)) (fun z hz=>hsp z (by simp [hz]))) (WideElems.Trod_stays Zyb (by kernel_rfl) (of_decide_eq_true (by kernel_rfl)) t1 (fun z hz=>hg.same (hlt1 z hz)) (fun z hz=>hsp z (by simp [hz])))) (fun _ _=>rfl) (fun _ _ _=>(trodAll_cons_mk (shut_bool u4 _) trodAll_mk0))
  (ok_one (by kernel_rfl) rfl (okWide_bool_mk u4 _))⟩
noncomputable def Znf (os:Os):World:=
 { World.holding Tryd.prog os ⟨#[],#[],[]⟩ with heap:=(((World.holding Tryd.prog os ⟨#[],#[],[]⟩).heap).modify 2 (Sh.laidBlock (Rows.laid_unicode_utf8_acceptRanges:DataW Unit))).modify 1 (Sh.laidBlock (Rows.laid_unicode_utf8_first:DataW Unit)) }
theorem Z1y (os:Os):laidMet Tryd.prog Rows.ssaChecksRow.laid ((Znf os).forCall (fun _ _=>0) ⟨#[],#[(Zo0 (Ty.pair (Ty.slice 3 (Ty.int .i64)) (Ty.pair (Ty.slice 3 (Ty.int .i64)) (Ty.pair (Ty.int .i64) Ty.unit))) ((Ty.pair (Ty.slice 3 (Ty.int .i64)) (Ty.pair (Ty.slice 3 (Ty.int .i64)) (Ty.pair (Ty.int .i64) Ty.unit)))).zeros),.slice none 0 0],[]⟩).memory:=
 laidMet_of_run' 8 (by kernel_rfl) (by kernel_rfl)
theorem Z4r (os:Os){H:Type}(enc:TypeId × Value→H):∃ places,DataW.whole enc Tryd.prog ((Znf os).forCall (fun _ _=>0) ⟨#[],#[(Zo0 (Ty.pair (Ty.slice 3 (Ty.int .i64)) (Ty.pair (Ty.slice 3 (Ty.int .i64)) (Ty.pair (Ty.int .i64) Ty.unit))) ((Ty.pair (Ty.slice 3 (Ty.int .i64)) (Ty.pair (Ty.slice 3 (Ty.int .i64)) (Ty.pair (Ty.int .i64) Ty.unit)))).zeros),.slice none 0 0],[]⟩).memory Tryd.f3.params.toList Rows.ssaChecksSpec.vars false (#[(Zo0 (Ty.pair (Ty.slice 3 (Ty.int .i64)) (Ty.pair (Ty.slice 3 (Ty.int .i64)) (Ty.pair (Ty.int .i64) Ty.unit))) ((Ty.pair (Ty.slice 3 (Ty.int .i64)) (Ty.pair (Ty.slice 3 (Ty.int .i64)) (Ty.pair (Ty.int .i64) Ty.unit)))).zeros),.slice none 0 0]:Array Value).toList 8=some ([(((Ty.pair (Ty.slice 3 (Ty.int .i64)) (Ty.pair (Ty.slice 3 (Ty.int .i64)) (Ty.pair (Ty.int .i64) Ty.unit)))).zdata),.nil],[],places):=
 ⟨[],by kernel_rfl⟩
theorem Z67 (os:Os)(started:os.Started)(H:Type)(enc:TypeId × Value→H)(F:Stop.Interp) :
  ReturnsInHanded {} Tryd.checked os 3 .any ((OpenSpec.ofChange Rows.ssaChecksSpec).preRow enc Tryd.prog Tryd.f3 Rows.ssaChecksRow.domain false Rows.ssaChecksRow.laid) (((OpenSpec.ofChange Rows.ssaChecksSpec).at F).post enc Tryd.prog Tryd.f3 false true false false):=by
 obtain⟨places,hx⟩:=Z4r os enc
 refine returnsInHanded_of_row (C:=Tryd.checked) (s:=OpenSpec.ofChange Rows.ssaChecksSpec) own started (by kernel_rfl) Tryd.func3
  (witness_row_at (enc:=enc) (C:=Tryd.checked) false (Znf os) #[(Zo0 (Ty.pair (Ty.slice 3 (Ty.int .i64)) (Ty.pair (Ty.slice 3 (Ty.int .i64)) (Ty.pair (Ty.int .i64) Ty.unit))) ((Ty.pair (Ty.slice 3 (Ty.int .i64)) (Ty.pair (Ty.slice 3 (Ty.int .i64)) (Ty.pair (Ty.int .i64) Ty.unit)))).zeros),.slice none 0 0] rfl (by kernel_rfl) (by kernel_rfl) (by kernel_rfl)
   (OpenSpec.preRow_of_cond 8 hx (by kernel_rfl) (fun k hk=>by cases hk) (by kernel_rfl) (Z1y os))) ?_
 intro W base args ds gs before hval hW _ hcd hwt hL _ _
 exact Z2l H enc W base args ds gs before hval hW hL
theorem Yb4:Rows.SsaChecksSaid:=
 OpenClaim.holds_of_cond 3 Tryd.f3 rfl rfl rfl rfl rfl rfl rfl ⟨rfl,rfl,rfl,rfl,rfl⟩ rfl rfl rfl rfl rfl (by kernel_rfl) Tryd.func3 (by kernel_rfl)
  (of_decide_eq_true (by kernel_rfl)) (by unfold Func.isWrapper;first | (rw [if_pos (by decide +kernel)];kernel_rfl) | (rw [if_neg (by decide +kernel)];exact⟨rfl,rfl⟩))
  (fun os started H enc _ F=>by rw [OpenClaim.pre_eq_preRow];exact Z67 os started H enc F)
theorem Zrh (f:FuncId) (fn:Func) (hf:Tryd.pinned.checked.prog.funcNamed "turnstone/turnstonelaw15.SsaChecks"=some f) (hfn:Tryd.pinned.checked.prog.funcs[f]?=some fn) :
  false=Tryd.pinned.checked.prog.looks []∧∀ (j:Nat) t,fn.params[j]?=some t→Tryd.pinned.checked.prog.wantsStandIn t=false:=by
 obtain rfl:f=3:=Option.some.inj ((show Tryd.prog.funcNamed "turnstone/turnstonelaw15.SsaChecks"=some 3 by kernel_rfl).symm.trans hf) |>.symm
 obtain rfl:fn=Tryd.f3:=(Option.some.inj (Tryd.func3.symm.trans hfn)).symm
 refine⟨by kernel_rfl,fun j t ht=>?_⟩
 rw [Tryd.params3] at ht
 rcases j with _ | _ | _
 all_goals first
  | (simp at ht;done)
  | (obtain rfl:=Option.some.inj ht;kernel_rfl)
  | (simp at ht;subst ht;kernel_rfl)
theorem proved:Rows.SsaChecksCardSaid:=
 Claim7.holds_tied_plain_at .later [] _ _ _ _ Yb4 (fun _ h=>by cases h) (by kernel_rfl) (fun _ h=>by cases h) ssaChecks_row_tie rfl ⟨rfl,rfl⟩ (by kernel_rfl) rfl Zrh (by kernel_rfl)
#print axioms proved
end Go.Proofs.YtcgmchechmbmeaaDoor.ssaChecks
