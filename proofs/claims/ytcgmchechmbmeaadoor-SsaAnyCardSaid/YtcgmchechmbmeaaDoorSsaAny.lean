/- This text proves 'Rows.SsaAnyCardSaid': the law 'SsaAny' returns true whatever it is given, in whatever memory and on every tape. The condition is the card's own: the listed package-level variables hold what the program's text lays. -/
import Derived.Test.YtcgmchechmbmeaaDoorCards
import Derived.Test.YtcgmchechmbmeaaDoorTie
import Derived.Deep.DeepHandedRow
import Derived.Lib.LaidTab
import Derived.Test.YtcgmchechmbmeaaDoorM24
set_option linter.unusedVariables false
set_option linter.unusedSimpArgs false
set_option maxRecDepth 100000
namespace Go.Proofs.YtcgmchechmbmeaaDoor.ssaAny
open Go.Sh gen base
variable {S:Zb4}{m:Mem}
theorem Zxn:Tryd.prog.bytesOf 3=8:=by kernel_rfl
theorem Z7h:Tryd.prog.bytesOf 43=64:=by kernel_rfl
theorem Z69:Tryd.prog.bytesOf 36=96:=by kernel_rfl
theorem Z5k:Tryd.prog.bytesOf 41=24:=by kernel_rfl
theorem Z6t:Tryd.prog.bytesOf 52=64:=by kernel_rfl
theorem Zy4 {u:UnT.D}(h:Ty.fits Tryd.prog UnT u):Zli u∧nv u≤20000000000000∧nb u≤20000000000000∧ns u≤20000000000000:=by
 obtain⟨_,_,⟨hv,hv'⟩,⟨hb,hb'⟩,⟨hs,hs'⟩,_⟩:=h
 have h1:nv u * Tryd.prog.bytesOf 43≤140737488351232:=hv
 have h2:nb u * Tryd.prog.bytesOf 36≤140737488351232:=hb
 have h3:ns u * Tryd.prog.bytesOf 41≤140737488351232:=hs
 rw [Z7h] at h1
 rw [Z69] at h2
 rw [Z5k] at h3
 refine⟨⟨fun b hm=>?_,fun s hm=>?_,fun v hm=>?_⟩,by omega,by omega,by omega⟩
 ·obtain⟨⟨x1,_⟩,_,_,⟨x2,_⟩,⟨x3,_⟩,_⟩:=hb' b hm
  have x1:List.length b.1 * Tryd.prog.bytesOf 3≤140737488351232:=x1
  have x2:List.length b.2.2.2.1 * Tryd.prog.bytesOf 3≤140737488351232:=x2
  have x3:List.length b.2.2.2.2.1 * Tryd.prog.bytesOf 3≤140737488351232:=x3
  rw [Zxn] at x1 x2 x3
  omega
 ·obtain⟨⟨x1,x2⟩,_⟩:=hs' s hm
  have x1:List.length s.1 * Tryd.prog.bytesOf 52≤140737488351232:=x1
  rw [Z6t] at x1
  refine⟨by omega,fun f hf=>?_⟩
  obtain⟨_,_,⟨y1,_⟩,⟨y2,_⟩,_⟩:=x2 f hf
  have y1:List.length f.2.2.1 * Tryd.prog.bytesOf 3≤140737488351232:=y1
  have y2:List.length f.2.2.2.1 * Tryd.prog.bytesOf 3≤140737488351232:=y2
  rw [Zxn] at y1 y2
  omega
 ·obtain⟨_,_,_,_,⟨x1,_⟩,_⟩:=hv' v hm
  have x1:List.length v.2.2.2.2.1 * Tryd.prog.bytesOf 3≤140737488351232:=x1
  rw [Zxn] at x1
  omega
set_option maxHeartbeats 16000000 in
theorem Z2s (hK:S 9=[([],.bool true)])(hN:Nz S){u:UnT.D}{c:List Value}(wx:Ty.wf UnT u∧Ty.fits Tryd.prog UnT u)(hx:At m UnT u c){near:Bool} :
  ∃ r m',Zaq Tryd.prog TT S 4 [Zo2 UnT c,.bool near] m=some (r,m')∧r=.bool true:=by
 have hkn:=fun m'=>Z6v (P:=Tryd.prog) (T:=TT) (m:=m') hK
 have hNk:∀ f,f≠15→f≠9→S f=[]:=hN.e
 obtain⟨hz,hzv,hzb,hzs⟩:=Zy4 wx.2
 obtain⟨_,_,rfl,rfl,_,_,rfl,rfl,_,_,rfl,hv,_,_,rfl,hb,_,_,rfl,hs,h7⟩:=AtI.of hx.atQ
 simp only [AtI] at h7
 subst h7
 have hv':=hv
 obtain⟨vo,_,_,rfl,_⟩:=hv'
 have hb':=hb
 obtain⟨bo,_,_,rfl,_⟩:=hb'
 have hs':=hs
 obtain⟨so,_,_,rfl,_⟩:=hs'
 have hU:UAt (fun f=>f < m.next) m u vo bo so:=⟨hv,hb,hs⟩
 clear hv hb hs hx
 change ∃ r m',Zaq Tryd.prog TT S 4 [.agg (Za1 u vo bo so).toArray,.bool near] m=some (r,m')∧r=.bool true
 obtain⟨o1,k1,n1⟩:=Zar (m:=m) (cs:=Za1 u vo bo so) (e:=29) rfl
 obtain⟨m1,hm1⟩:∃ mm,m.new (Za1 u vo bo so) 29=mm:=⟨_,rfl⟩
 obtain⟨ub,hub⟩:∃ mm,m.next=mm:=⟨_,rfl⟩
 rw [hm1,hub] at o1 n1
 rw [hm1] at k1
 have l1:=o1.load (off:=0) 5 (by simp)
 simp [Zao] at l1
 have hU1:=hU.keep k1 (by simp)
 refine Zhk 7 [7,21,31] k4 (hNk _ (by decide) (by decide)) rfl ?_
 cases near with
 | false =>
  obtain⟨V,hV⟩:=Zuu hN.nk hN.nch hz hzv hzb hzs
  have nk:=k1.1
  obtain⟨m2,c2,k2⟩:=(hV m1 hU1 (fun f hf=>by omega)).1
  obtain⟨m3,c3,k3⟩:=(hV m2 (hU1.keep k2 (by simp)) (fun f hf=>by have:=k2.1;omega)).2
  have l2:=(o1.keep k2 (by simp)).load (off:=0) 5 (by simp)
  simp [Zao] at l2
  simp only [Za1] at hm1 c2 c3
  simp [-Int.natCast_add,-BitVec.toNat_or,-BitVec.toNat_ofInt,-BitVec.toNat_and,Zbn b29,Zax Z5e,Za u22 bs3 rfl,Zgy u4 .eql (Or.inl rfl),hm1,hub,l1,l2,c2,c3,hkn]
 | true =>
  simp only [Za1] at hm1
  have u2:=o1.load1 (off:=2) rfl
  have u3:=o1.load1 (off:=3) rfl
  simp [-Int.natCast_add,-BitVec.toNat_or,-BitVec.toNat_ofInt,-BitVec.toNat_and,Zbn b29,Zax Z5e,Za u22 bs3 rfl,Zgy u4 .eql (Or.inl rfl),hm1,hub,u2,u3]
  obtain⟨n,hn⟩:∃ n:Int,(if (1:Int) < (if (8:Int) < (nv u:Int) then 8 else (nv u:Int)) then (if (8:Int) < (nv u:Int) then 8 else (nv u:Int)) else 1)=n:=⟨_,rfl⟩
  simp only [hn]
  have bm:(nb u:Int)≤9223372036854775807:=by omega
  refine Zag 7 [7,21,31] (fun d E mX=>∃ i:Nat,6 - i=d∧i≤6∧mX=m1∧
   E=[(2,.pointer (some ⟨ub,0,none⟩)),(5,.int .i64 n),(6,.int .i64 (i:Int))]) _ ⟨_,⟨0,rfl,by omega,rfl,rfl⟩,⟨by rfl,by rfl,by rfl,trivial⟩⟩ ?_
  rintro d E mX ih ⟨i,hd,hi,rfl,rfl⟩
  have im:(i:Int)≤9223372036854775807:=by omega
  by_cases hlt:i < nb u∧i < 6
  ·obtain⟨hib,hi6⟩:=hlt
   have i1:(i:Int) < nb u:=by omega
   have i2:(i:Int) < 6:=by omega
   have wi:IntKind.i64.wrap ((i:Int)+1)=((i+1:Nat):Int):=by rw [Zab (by omega) (by omega)];omega
   obtain⟨xb,xvo,xno,xpo,hbo,ld,_⟩:=Zr3 hU1 hib
   have lb:=Zbo (k:=0) (ld mX [] (.refl _ _) (by simp)) rfl
   rw [Nat.add_zero] at lb
   rw [hbo] at u3
   by_cases h8:8 < List.length (u.2.2.2.1[i]).1
   ·have h8':(8:Int) < (List.length (u.2.2.2.1[i]).1:Int):=by omega
    simp [-Int.natCast_add,-BitVec.toNat_or,-BitVec.toNat_ofInt,-BitVec.toNat_and,Zbn b29,Zax Z5e,Za u22 bs3 rfl,Zgy u4 .eql (Or.inl rfl),i1,i2,im,hib,u3,lb,h8,h8',hkn]
   ·have h8':¬ (8:Int) < (List.length (u.2.2.2.1[i]).1:Int):=by omega
    simp [-Int.natCast_add,-BitVec.toNat_or,-BitVec.toNat_ofInt,-BitVec.toNat_and,Zbn b29,Zax Z5e,Za u22 bs3 rfl,Zgy u4 .eql (Or.inl rfl),i1,i2,im,hib,u3,lb,h8,h8',wi]
    exact ih _ _ _ _ ⟨i+1,rfl,by omega,rfl,rfl⟩ (by omega) ⟨by rfl,by rfl,by rfl,trivial⟩
  ·clear ih
   have inil:Zah (qU mX mX ub) mX none []:=⟨0,⟨rfl,Or.inl ⟨rfl,fun a e=>by cases e⟩⟩,fun h=>absurd rfl h⟩
   obtain⟨_,mU,cU,va,ba,ta,rfl,hUA,kU,nu1,nu2,nu3,nu4⟩:=Z0s (m0:=mX) (n:=n) ⟨hNk _ (by decide) (by decide),hNk _ (by decide) (by decide),hNk _ (by decide) (by decide),hNk _ (by decide) (by decide),hNk _ (by decide) (by decide),hNk _ (by decide) (by decide),hNk _ (by decide) (by decide)⟩ ub inil inil (by simp)
   have hsm:=(Z14 [] [] n).small nu2 nu3 nu4
   generalize Zje [] [] n=s at *
   have u3U:=(o1.keep kU (by simp)).load1 (off:=3) rfl
   obtain⟨o2,k2,n2⟩:=Zar (m:=mU) (cs:=[.int .i64 n,.int .i64 (nb u:Int)]) (e:=3) rfl
   obtain⟨xb,hxb⟩:∃ b,mU.next=b:=⟨_,rfl⟩
   obtain⟨mV,hmV⟩:∃ mm,mU.new [.int .i64 n,.int .i64 (nb u:Int)] 3=mm:=⟨_,rfl⟩
   rw [hmV,hxb] at o2 n2
   rw [hmV] at k2
   have q5:=k2.1
   have fub:=o1.flt
   have hUV:UAt (fun f=>f < mV.next∧f≠ub) mV s.un va ba ta:=by
    have h:=hUA.keep k2 (by simp)
    have hq:∀ f,qU mX mU ub f→f < mV.next∧f≠ub:=fun f hf=>⟨by have:=hf.1;omega,fun e=>hf.2 (by omega) e⟩
    exact⟨h.v.mono hq,h.b.mono hq,h.s.mono hq⟩
   have ihV:Zah (fun f=>f < mV.next) mV (some ⟨xb,0,none⟩) [n,(nb u:Int)]:=Zd5 o2 n2
   obtain⟨_,mB,cB,⟨w,vo2,bo2,so2,rfl,hW,hsw⟩,kB⟩:=Z0l (hNk 8 (by decide) (by decide)) (hNk 16 (by decide) (by decide)) (by have:=kU.1;omega) hUV ihV (by simp) hsm
   have KB:=(kU.trans k2).trans kB
   obtain⟨mC,eC,oW,kC⟩:=Zap (r:=_) rfl (o1.keep KB (by simp)) (off:=0) (vs:=Za1 w vo2 bo2 so2) (by simp [Za1]) (by simp [Zau,Zae])
   have eo:Zbx (Za1 u vo bo so) 0 (Za1 w vo2 bo2 so2)=Za1 w vo2 bo2 so2:=rfl
   rw [eo] at oW
   obtain⟨V,hV⟩:=Zuu hN.nk hN.nch (hsw.sizeOk (by omega)) (by have:=hsw.v;omega) (by have:=hsw.b;omega) (by have:=hsw.s;omega)
   have nC:=kC.1
   have nKB:=KB.1
   have fub:=o1.flt
   have hWQ:UAt (fun f=>f < mB.next∧f≠ub) mC w vo2 bo2 so2:=hW.keep kC (fun f hf hq=>by simp at hf;exact hq.2 hf)
   obtain⟨mD,cD,kD⟩:=(hV mC hWQ (fun f hf=>by omega)).1
   have nD:=kD.1
   obtain⟨mE,cE,kE⟩:=(hV mD (hWQ.keep kD (by simp)) (fun f hf=>by omega)).2
   have lC:=oW.load (off:=0) 5 (by simp)
   have lD:=(oW.keep kD (by simp)).load (off:=0) 5 (by simp)
   simp [Zao] at lC lD
   simp only [Za1] at cB cD cE lC lD eC
   have es1:nv s.un=s.vals.length:=rfl
   have es2:nb s.un=s.blks.length:=rfl
   have es3:ns s.un=s.sts.length:=rfl
   have es4:s.un.1=1:=rfl
   have es5:s.un.2.1=2:=rfl
   simp only [es1,es2,es3,es4,es5,List.length_cons,List.length_nil,Nat.zero_add] at cB
   simp only [List.length_nil] at cU
   have key:∀ {P:Prop},((i:Int) < nb u→¬ (i:Int) < 6→P)→(¬ (i:Int) < nb u→P)→P:=fun h1 h2=>by
    by_cases h:(i:Int) < nb u
    ·exact h1 h (by omega)
    ·exact h2 h
   refine key (fun g1 g2=>?_) (fun g1=>?_)
   ·simp [-Int.natCast_add,-BitVec.toNat_or,-BitVec.toNat_ofInt,-BitVec.toNat_and,Zbn b29,Zax Z5e,Za u22 bs3 rfl,Zgy u4 .eql (Or.inl rfl),g1,g2,im,u3,cU,u3U,hmV,hxb,cB,eC,lC,cD,lD,cE,hkn]
   ·simp [-Int.natCast_add,-BitVec.toNat_or,-BitVec.toNat_ofInt,-BitVec.toNat_and,Zbn b29,Zax Z5e,Za u22 bs3 rfl,Zgy u4 .eql (Or.inl rfl),g1,im,u3,cU,u3U,hmV,hxb,cB,eC,lC,cD,lD,cE,hkn]
open Go.ChangeShapes Go.WideShapes Go.ChangeAt Go.RowKit
theorem own:ownKnob Tryd.prog.godebug=none:=by kernel_rfl
theorem tab:Sh.tabCheck Tryd.prog fns=true:=by kernel_rfl
def Zt0:List (Nat × List Value):=[]
theorem Z62 (w:World)(h:laidMetH Tryd.prog Rows.ssaAnyRow.laid w):Za8 Tryd.prog (Z5i Tryd.prog) (memG Tryd.prog Zt0) (Zdo w) w w:=by
 refine Zum Tryd.prog w Zt0 fun p hp=>?_
 simp only [Zt0,List.mem_cons,List.not_mem_nil,or_false] at hp
theorem Z8f (w:World)(hL:laidMetH Tryd.prog Rows.ssaAnyRow.laid w){v0:Value}(h0:Zyx Tryd.prog w (Ty.pair (Ty.int .i64) (Ty.pair (Ty.int .i64) (Ty.pair (Ty.slice 43 (Ty.pair (Ty.int .i64) (Ty.pair (Ty.int .i64) (Ty.pair (Ty.int .i64) (Ty.pair (Ty.int .i64) (Ty.pair (Ty.slice 3 (Ty.int .i64)) (Ty.pair (Ty.int .i64) Ty.unit))))))) (Ty.pair (Ty.slice 36 (Ty.pair (Ty.slice 3 (Ty.int .i64)) (Ty.pair (Ty.int .i64) (Ty.pair (Ty.int .i64) (Ty.pair (Ty.slice 3 (Ty.int .i64)) (Ty.pair (Ty.slice 3 (Ty.int .i64)) (Ty.pair (Ty.int .i64) Ty.unit))))))) (Ty.pair (Ty.slice 41 (Ty.pair (Ty.slice 52 (Ty.pair (Ty.int .i64) (Ty.pair (Ty.int .i64) (Ty.pair (Ty.slice 3 (Ty.int .i64)) (Ty.pair (Ty.slice 3 (Ty.int .i64)) Ty.unit))))) Ty.unit)) Ty.unit))))) v0)(x1:Bool) :
  Calls Tryd.prog 4 #[v0,.bool x1] w fun e w'=>e=.returned (.bool true)∧Below w.heap.size w w':=by
 have hM:=Z62 w hL
 obtain⟨rs0,J0,m0,cs0,hw0,le0,hM0,vr0,hr0,hk0⟩:=h0 _ _ hM
 obtain⟨v',m',h,rfl⟩:=Z2s (S:=Z5v) (m:=m0) rfl nz hw0 hr0
 exact Zz4 Zs2 (Sh.tab_ok tab) Z5n Tryd.func4 (by kernel_rfl) h rfl hM0 (.cons vr0 (.cons (.clo _ rfl) Zcr.nil))
theorem Z3u:laidOutB Tryd.prog=true:=by kernel_rfl
theorem Z02 (H:Type)(enc:TypeId × Value→H)(W:World)(base:Nat)(args:Array Value)(ds gs:List (DataW H))(before:List MemPlace)
  (hval:∀ (j:Nat) t v,Tryd.f4.params[j]?=some t→args[j]?=some v→Value.okWide Tryd.prog W .any base t v)
  (hW:DataW.Whole enc Tryd.prog Tryd.f4.params.toList Rows.ssaAnySpec.vars false W args.toList ds gs before) (hwt0:(DataW.weightsEach Tryd.prog (Tryd.f4.params.toList++(OpenSpec.ofChange Rows.ssaAnySpec).bare.plain.varTypes Tryd.prog) (ds++gs)).all (·≤reachBytes)=true) (hL:laidMetH Tryd.prog Rows.ssaAnyRow.laid W) :
  Calls Tryd.prog 4 args W fun e W'=>∃ v,e=.returned v∧Rows.ssaAnySpec.post enc Tryd.prog Tryd.f4 false true false false W args v W':=by
 have hW':=hW
 obtain⟨p,q,hA0,hV,rfl,hfz,hnd⟩:=hW
 have hA:DataW.TrodAll enc Tryd.prog W 0 (fun _=>true) true Tryd.f4.params.toList args.toList ds p:=hA0
 rw [Tryd.params4] at hA hval
 have hwt:=hwt0
 rw [Tryd.params4] at hwt
 obtain⟨v0,v1,d0,d1,p0,p1,rfl,rfl,rfl,t0,t1⟩:=trodAll_two hA
 obtain⟨rfl,rfl⟩:=trodVars_none hV
 simp only [List.toList_toArray,List.cons_append,List.nil_append,DataW.weightsEach,List.all_append,Bool.and_eq_true] at hwt
 have hv0:=Zwm (ty:=(Ty.pair (Ty.int .i64) (Ty.pair (Ty.int .i64) (Ty.pair (Ty.slice 43 (Ty.pair (Ty.int .i64) (Ty.pair (Ty.int .i64) (Ty.pair (Ty.int .i64) (Ty.pair (Ty.int .i64) (Ty.pair (Ty.slice 3 (Ty.int .i64)) (Ty.pair (Ty.int .i64) Ty.unit))))))) (Ty.pair (Ty.slice 36 (Ty.pair (Ty.slice 3 (Ty.int .i64)) (Ty.pair (Ty.int .i64) (Ty.pair (Ty.int .i64) (Ty.pair (Ty.slice 3 (Ty.int .i64)) (Ty.pair (Ty.slice 3 (Ty.int .i64)) (Ty.pair (Ty.int .i64) Ty.unit))))))) (Ty.pair (Ty.slice 41 (Ty.pair (Ty.slice 52 (Ty.pair (Ty.int .i64) (Ty.pair (Ty.int .i64) (Ty.pair (Ty.slice 3 (Ty.int .i64)) (Ty.pair (Ty.slice 3 (Ty.int .i64)) Ty.unit))))) Ty.unit)) Ty.unit)))))) (t:=29) (by kernel_rfl) (hval 0 _ _ rfl rfl) t0 hwt.1
 obtain⟨x1,rfl,rfl,rfl⟩:=open_bool u4 (hval 1 _ _ rfl rfl) t1
 clear hA0
 simp only [List.append_nil,List.nil_append] at hW'
 refine (Z8f W hL hv0 x1).mono fun e W' ⟨he,hg⟩=>?_
 subst he
 have hlt0:∀ z∈p0,z.block < W.heap.size:=fun z hz=>hW'.lt z (by simp [hz])
 exact⟨_,rfl,Sh.law_post (pa:=(p0++[])) (pv:=[]) hW' hg (by simp) (fun sp hsp=>trodAll_mk2 (WideElems.Trod_stays Z3u (by kernel_rfl) (of_decide_eq_true (by kernel_rfl)) t0 (fun z hz=>hg.same (hlt0 z hz)) (fun z hz=>hsp z (by simp [hz]))) (shut_bool u4 _)) (fun _ _=>rfl) (fun _ _ _=>(trodAll_cons_mk (shut_bool u4 _) trodAll_mk0))
  (ok_one (by kernel_rfl) rfl (okWide_bool_mk u4 _))⟩
noncomputable def Zl1 (os:Os):World:=
 { World.holding Tryd.prog os ⟨#[],#[],[]⟩ with heap:=(((World.holding Tryd.prog os ⟨#[],#[],[]⟩).heap).modify 2 (Sh.laidBlock (Rows.laid_unicode_utf8_acceptRanges:DataW Unit))).modify 1 (Sh.laidBlock (Rows.laid_unicode_utf8_first:DataW Unit)) }
theorem Z0a (os:Os):laidMet Tryd.prog Rows.ssaAnyRow.laid ((Zl1 os).forCall (fun _ _=>0) ⟨#[],#[(Zo2 (Ty.pair (Ty.int .i64) (Ty.pair (Ty.int .i64) (Ty.pair (Ty.slice 43 (Ty.pair (Ty.int .i64) (Ty.pair (Ty.int .i64) (Ty.pair (Ty.int .i64) (Ty.pair (Ty.int .i64) (Ty.pair (Ty.slice 3 (Ty.int .i64)) (Ty.pair (Ty.int .i64) Ty.unit))))))) (Ty.pair (Ty.slice 36 (Ty.pair (Ty.slice 3 (Ty.int .i64)) (Ty.pair (Ty.int .i64) (Ty.pair (Ty.int .i64) (Ty.pair (Ty.slice 3 (Ty.int .i64)) (Ty.pair (Ty.slice 3 (Ty.int .i64)) (Ty.pair (Ty.int .i64) Ty.unit))))))) (Ty.pair (Ty.slice 41 (Ty.pair (Ty.slice 52 (Ty.pair (Ty.int .i64) (Ty.pair (Ty.int .i64) (Ty.pair (Ty.slice 3 (Ty.int .i64)) (Ty.pair (Ty.slice 3 (Ty.int .i64)) Ty.unit))))) Ty.unit)) Ty.unit))))) ((Ty.pair (Ty.int .i64) (Ty.pair (Ty.int .i64) (Ty.pair (Ty.slice 43 (Ty.pair (Ty.int .i64) (Ty.pair (Ty.int .i64) (Ty.pair (Ty.int .i64) (Ty.pair (Ty.int .i64) (Ty.pair (Ty.slice 3 (Ty.int .i64)) (Ty.pair (Ty.int .i64) Ty.unit))))))) (Ty.pair (Ty.slice 36 (Ty.pair (Ty.slice 3 (Ty.int .i64)) (Ty.pair (Ty.int .i64) (Ty.pair (Ty.int .i64) (Ty.pair (Ty.slice 3 (Ty.int .i64)) (Ty.pair (Ty.slice 3 (Ty.int .i64)) (Ty.pair (Ty.int .i64) Ty.unit))))))) (Ty.pair (Ty.slice 41 (Ty.pair (Ty.slice 52 (Ty.pair (Ty.int .i64) (Ty.pair (Ty.int .i64) (Ty.pair (Ty.slice 3 (Ty.int .i64)) (Ty.pair (Ty.slice 3 (Ty.int .i64)) Ty.unit))))) Ty.unit)) Ty.unit)))))).zeros),.bool false],[]⟩).memory:=
 laidMet_of_run' 8 (by kernel_rfl) (by kernel_rfl)
theorem Z37 (os:Os){H:Type}(enc:TypeId × Value→H):∃ places,DataW.whole enc Tryd.prog ((Zl1 os).forCall (fun _ _=>0) ⟨#[],#[(Zo2 (Ty.pair (Ty.int .i64) (Ty.pair (Ty.int .i64) (Ty.pair (Ty.slice 43 (Ty.pair (Ty.int .i64) (Ty.pair (Ty.int .i64) (Ty.pair (Ty.int .i64) (Ty.pair (Ty.int .i64) (Ty.pair (Ty.slice 3 (Ty.int .i64)) (Ty.pair (Ty.int .i64) Ty.unit))))))) (Ty.pair (Ty.slice 36 (Ty.pair (Ty.slice 3 (Ty.int .i64)) (Ty.pair (Ty.int .i64) (Ty.pair (Ty.int .i64) (Ty.pair (Ty.slice 3 (Ty.int .i64)) (Ty.pair (Ty.slice 3 (Ty.int .i64)) (Ty.pair (Ty.int .i64) Ty.unit))))))) (Ty.pair (Ty.slice 41 (Ty.pair (Ty.slice 52 (Ty.pair (Ty.int .i64) (Ty.pair (Ty.int .i64) (Ty.pair (Ty.slice 3 (Ty.int .i64)) (Ty.pair (Ty.slice 3 (Ty.int .i64)) Ty.unit))))) Ty.unit)) Ty.unit))))) ((Ty.pair (Ty.int .i64) (Ty.pair (Ty.int .i64) (Ty.pair (Ty.slice 43 (Ty.pair (Ty.int .i64) (Ty.pair (Ty.int .i64) (Ty.pair (Ty.int .i64) (Ty.pair (Ty.int .i64) (Ty.pair (Ty.slice 3 (Ty.int .i64)) (Ty.pair (Ty.int .i64) Ty.unit))))))) (Ty.pair (Ty.slice 36 (Ty.pair (Ty.slice 3 (Ty.int .i64)) (Ty.pair (Ty.int .i64) (Ty.pair (Ty.int .i64) (Ty.pair (Ty.slice 3 (Ty.int .i64)) (Ty.pair (Ty.slice 3 (Ty.int .i64)) (Ty.pair (Ty.int .i64) Ty.unit))))))) (Ty.pair (Ty.slice 41 (Ty.pair (Ty.slice 52 (Ty.pair (Ty.int .i64) (Ty.pair (Ty.int .i64) (Ty.pair (Ty.slice 3 (Ty.int .i64)) (Ty.pair (Ty.slice 3 (Ty.int .i64)) Ty.unit))))) Ty.unit)) Ty.unit)))))).zeros),.bool false],[]⟩).memory Tryd.f4.params.toList Rows.ssaAnySpec.vars false (#[(Zo2 (Ty.pair (Ty.int .i64) (Ty.pair (Ty.int .i64) (Ty.pair (Ty.slice 43 (Ty.pair (Ty.int .i64) (Ty.pair (Ty.int .i64) (Ty.pair (Ty.int .i64) (Ty.pair (Ty.int .i64) (Ty.pair (Ty.slice 3 (Ty.int .i64)) (Ty.pair (Ty.int .i64) Ty.unit))))))) (Ty.pair (Ty.slice 36 (Ty.pair (Ty.slice 3 (Ty.int .i64)) (Ty.pair (Ty.int .i64) (Ty.pair (Ty.int .i64) (Ty.pair (Ty.slice 3 (Ty.int .i64)) (Ty.pair (Ty.slice 3 (Ty.int .i64)) (Ty.pair (Ty.int .i64) Ty.unit))))))) (Ty.pair (Ty.slice 41 (Ty.pair (Ty.slice 52 (Ty.pair (Ty.int .i64) (Ty.pair (Ty.int .i64) (Ty.pair (Ty.slice 3 (Ty.int .i64)) (Ty.pair (Ty.slice 3 (Ty.int .i64)) Ty.unit))))) Ty.unit)) Ty.unit))))) ((Ty.pair (Ty.int .i64) (Ty.pair (Ty.int .i64) (Ty.pair (Ty.slice 43 (Ty.pair (Ty.int .i64) (Ty.pair (Ty.int .i64) (Ty.pair (Ty.int .i64) (Ty.pair (Ty.int .i64) (Ty.pair (Ty.slice 3 (Ty.int .i64)) (Ty.pair (Ty.int .i64) Ty.unit))))))) (Ty.pair (Ty.slice 36 (Ty.pair (Ty.slice 3 (Ty.int .i64)) (Ty.pair (Ty.int .i64) (Ty.pair (Ty.int .i64) (Ty.pair (Ty.slice 3 (Ty.int .i64)) (Ty.pair (Ty.slice 3 (Ty.int .i64)) (Ty.pair (Ty.int .i64) Ty.unit))))))) (Ty.pair (Ty.slice 41 (Ty.pair (Ty.slice 52 (Ty.pair (Ty.int .i64) (Ty.pair (Ty.int .i64) (Ty.pair (Ty.slice 3 (Ty.int .i64)) (Ty.pair (Ty.slice 3 (Ty.int .i64)) Ty.unit))))) Ty.unit)) Ty.unit)))))).zeros),.bool false]:Array Value).toList 8=some ([(((Ty.pair (Ty.int .i64) (Ty.pair (Ty.int .i64) (Ty.pair (Ty.slice 43 (Ty.pair (Ty.int .i64) (Ty.pair (Ty.int .i64) (Ty.pair (Ty.int .i64) (Ty.pair (Ty.int .i64) (Ty.pair (Ty.slice 3 (Ty.int .i64)) (Ty.pair (Ty.int .i64) Ty.unit))))))) (Ty.pair (Ty.slice 36 (Ty.pair (Ty.slice 3 (Ty.int .i64)) (Ty.pair (Ty.int .i64) (Ty.pair (Ty.int .i64) (Ty.pair (Ty.slice 3 (Ty.int .i64)) (Ty.pair (Ty.slice 3 (Ty.int .i64)) (Ty.pair (Ty.int .i64) Ty.unit))))))) (Ty.pair (Ty.slice 41 (Ty.pair (Ty.slice 52 (Ty.pair (Ty.int .i64) (Ty.pair (Ty.int .i64) (Ty.pair (Ty.slice 3 (Ty.int .i64)) (Ty.pair (Ty.slice 3 (Ty.int .i64)) Ty.unit))))) Ty.unit)) Ty.unit)))))).zdata),.lit (.bool false)],[],places):=
 ⟨[],by kernel_rfl⟩
theorem Z7q (os:Os)(started:os.Started)(H:Type)(enc:TypeId × Value→H)(F:Stop.Interp) :
  ReturnsInHanded {} Tryd.checked os 4 .any ((OpenSpec.ofChange Rows.ssaAnySpec).preRow enc Tryd.prog Tryd.f4 Rows.ssaAnyRow.domain false Rows.ssaAnyRow.laid) (((OpenSpec.ofChange Rows.ssaAnySpec).at F).post enc Tryd.prog Tryd.f4 false true false false):=by
 obtain⟨places,hx⟩:=Z37 os enc
 refine returnsInHanded_of_row (C:=Tryd.checked) (s:=OpenSpec.ofChange Rows.ssaAnySpec) own started (by kernel_rfl) Tryd.func4
  (witness_row_at (enc:=enc) (C:=Tryd.checked) false (Zl1 os) #[(Zo2 (Ty.pair (Ty.int .i64) (Ty.pair (Ty.int .i64) (Ty.pair (Ty.slice 43 (Ty.pair (Ty.int .i64) (Ty.pair (Ty.int .i64) (Ty.pair (Ty.int .i64) (Ty.pair (Ty.int .i64) (Ty.pair (Ty.slice 3 (Ty.int .i64)) (Ty.pair (Ty.int .i64) Ty.unit))))))) (Ty.pair (Ty.slice 36 (Ty.pair (Ty.slice 3 (Ty.int .i64)) (Ty.pair (Ty.int .i64) (Ty.pair (Ty.int .i64) (Ty.pair (Ty.slice 3 (Ty.int .i64)) (Ty.pair (Ty.slice 3 (Ty.int .i64)) (Ty.pair (Ty.int .i64) Ty.unit))))))) (Ty.pair (Ty.slice 41 (Ty.pair (Ty.slice 52 (Ty.pair (Ty.int .i64) (Ty.pair (Ty.int .i64) (Ty.pair (Ty.slice 3 (Ty.int .i64)) (Ty.pair (Ty.slice 3 (Ty.int .i64)) Ty.unit))))) Ty.unit)) Ty.unit))))) ((Ty.pair (Ty.int .i64) (Ty.pair (Ty.int .i64) (Ty.pair (Ty.slice 43 (Ty.pair (Ty.int .i64) (Ty.pair (Ty.int .i64) (Ty.pair (Ty.int .i64) (Ty.pair (Ty.int .i64) (Ty.pair (Ty.slice 3 (Ty.int .i64)) (Ty.pair (Ty.int .i64) Ty.unit))))))) (Ty.pair (Ty.slice 36 (Ty.pair (Ty.slice 3 (Ty.int .i64)) (Ty.pair (Ty.int .i64) (Ty.pair (Ty.int .i64) (Ty.pair (Ty.slice 3 (Ty.int .i64)) (Ty.pair (Ty.slice 3 (Ty.int .i64)) (Ty.pair (Ty.int .i64) Ty.unit))))))) (Ty.pair (Ty.slice 41 (Ty.pair (Ty.slice 52 (Ty.pair (Ty.int .i64) (Ty.pair (Ty.int .i64) (Ty.pair (Ty.slice 3 (Ty.int .i64)) (Ty.pair (Ty.slice 3 (Ty.int .i64)) Ty.unit))))) Ty.unit)) Ty.unit)))))).zeros),.bool false] rfl (by kernel_rfl) (by kernel_rfl) (by kernel_rfl)
   (OpenSpec.preRow_of_cond 8 hx (by kernel_rfl) (fun k hk=>by cases hk) (by kernel_rfl) (Z0a os))) ?_
 intro W base args ds gs before hval hW _ hcd hwt hL _ _
 exact Z02 H enc W base args ds gs before hval hW hwt hL
theorem Ybb:Rows.SsaAnySaid:=
 OpenClaim.holds_of_cond 4 Tryd.f4 rfl rfl rfl rfl rfl rfl rfl ⟨rfl,rfl,rfl,rfl,rfl⟩ rfl rfl rfl rfl rfl (by kernel_rfl) Tryd.func4 (by kernel_rfl)
  (of_decide_eq_true (by kernel_rfl)) (by unfold Func.isWrapper;first | (rw [if_pos (by decide +kernel)];kernel_rfl) | (rw [if_neg (by decide +kernel)];exact⟨rfl,rfl⟩))
  (fun os started H enc _ F=>by rw [OpenClaim.pre_eq_preRow];exact Z7q os started H enc F)
theorem plain (f:FuncId) (fn:Func) (hf:Tryd.pinned.checked.prog.funcNamed "turnstone/turnstonelaw15.SsaAny"=some f) (hfn:Tryd.pinned.checked.prog.funcs[f]?=some fn) :
  false=Tryd.pinned.checked.prog.looks []∧∀ (j:Nat) t,fn.params[j]?=some t→Tryd.pinned.checked.prog.wantsStandIn t=false:=by
 obtain rfl:f=4:=Option.some.inj ((show Tryd.prog.funcNamed "turnstone/turnstonelaw15.SsaAny"=some 4 by kernel_rfl).symm.trans hf) |>.symm
 obtain rfl:fn=Tryd.f4:=(Option.some.inj (Tryd.func4.symm.trans hfn)).symm
 refine⟨by kernel_rfl,fun j t ht=>?_⟩
 rw [Tryd.params4] at ht
 rcases j with _ | _ | _
 all_goals first
  | (simp at ht;done)
  | (obtain rfl:=Option.some.inj ht;kernel_rfl)
  | (simp at ht;subst ht;kernel_rfl)
theorem proved:Rows.SsaAnyCardSaid:=
 Claim7.holds_tied_plain_at .later [] _ _ _ _ Ybb (fun _ h=>by cases h) (by kernel_rfl) (fun _ h=>by cases h) ssaAny_row_tie rfl ⟨rfl,rfl⟩ (by kernel_rfl) rfl plain (by kernel_rfl)
#print axioms proved
end Go.Proofs.YtcgmchechmbmeaaDoor.ssaAny
