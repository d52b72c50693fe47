/- This text proves 'Rows.VerifyCodesCardSaid': the law 'VerifyCodes' returns true whatever it is given, in whatever memory and on every tape. The condition is the card's own: the listed package-level variables hold what the program's text lays. -/
import Derived.Test.YtbldiceiindbdaaGreatDoorCards
import Derived.Test.YtbldiceiindbdaaGreatDoorTie
import Derived.Deep.DeepHandedRow
import Derived.Lib.LaidTab
import Derived.Test.YtbldiceiindbdaaGreatDoorVrI
import Derived.Test.YtbldiceiindbdaaGreatDoorCodN9
set_option linter.unusedVariables false
set_option linter.unusedSimpArgs false
set_option maxRecDepth 100000
namespace Go.Proofs.YtbldiceiindbdaaGreatDoor.verifyCodes
open Go.Sh gen base
variable {S:Zed}{m:Mem}
abbrev InT:Ty:=(Ty.pair (Ty.int .i64) (Ty.pair (Ty.int .i64) (Ty.pair (Ty.int .i64) Ty.unit)))
def Z4t (d:InT.D):Ix:=(d.1,d.2.1,d.2.2.1)
theorem Z0v {l:List InT.D}{css:List (List Value)}(hcl:css.length=l.length)(hce:∀ (i:Nat) d c,l[i]?=some d→css[i]?=some c→At m InT d c):css.flatten=ixv (l.map Z4t):=by
 induction css generalizing l with
 | nil=>cases l with
  | nil=>rfl
  | cons a l=>simp at hcl
 | cons c css ih=>cases l with
  | nil=>simp at hcl
  | cons a l =>
   have h0:=hce 0 a c rfl rfl
   obtain⟨c1,d1,rfl,h1,c2,d2,rfl,h2,c3,d3,rfl,h3,h5⟩:=h0
   simp only [At] at h1 h2 h3 h5
   subst h1 h2 h3 h5
   have:=ih (l:=l) (by simpa using hcl) (fun i d c hd hc=>hce (i+1) d c (by simpa using hd) (by simpa using hc))
   simp only [List.flatten_cons,this,List.map_cons,ixv,List.flatMap_cons,Z4t,List.append_nil,List.cons_append,List.nil_append]
theorem Z36 {l:List InT.D}{cs:List Value}(ha:At m (Ty.slice 40 InT) l cs):∃ ao fam,cs=[.slice ao l.length l.length]∧Rs m ao (l.map Z4t).length (ixv (l.map Z4t)) 40 3 fam:=by
 obtain⟨ao,css,fam,rfl,hcl,hce,hrs⟩:=ha
 refine⟨ao,fam,rfl,?_⟩
 rw [Z0v hcl hce] at hrs
 rw [List.length_map]
 exact hrs
theorem Z10 (l:List Int):(l.flatMap fun n:Int=>[Value.int .i64 n])=ic l:=by
 induction l with
 | nil=>rfl
 | cons a l ih=>simp only [List.flatMap_cons,ih,ic,List.map_cons,List.cons_append,List.nil_append]
theorem nx:Nx Z4z:=by repeat' constructor
theorem Z0w (hN:Nx S){l:List InT.D}{cs:List Value}(hl:(Ty.slice 40 InT).wf l)(ha:At m (Ty.slice 40 InT) l cs)
  {res:Int} (hres:(Lit.int .i64 res).wf=true) {loc:List Int} {lo:Option Addr} {of:Nat} (ho:Rs m lo loc.length (loc.flatMap fun n:Int=>[Value.int .i64 n]) 3 1 of) (hof:of < m.next) (hol:loc.length≤9223372036854775807) (how:∀ n∈loc,(Lit.int .i64 n).wf=true) :
  ∃ v m',Zbi Tryz.prog TT S 3 [Zo6 (Ty.slice 40 InT) cs,.int .i64 res,.slice lo loc.length loc.length] m=some (v,m')∧v=.bool true:=by
 obtain⟨ao,fam,rfl,hrs⟩:=Z36 ha
 have hll:l.length≤9223372036854775807:=hl.1
 rw [Z10] at ho
 have h:=Zu4 (m:=m) hN hrs (by simpa using hll) (res:=res) ho hol
 rw [List.length_map] at h
 exact h
open Go.ChangeShapes Go.WideShapes Go.ChangeAt Go.RowKit
theorem own:ownKnob Tryz.prog.godebug=none:=by kernel_rfl
theorem tab:Sh.tabCheck Tryz.prog fns=true:=by kernel_rfl
def Zsl:List (Nat × List Value):=[]
theorem Z38 (w:World)(h:laidMetH Tryz.prog Rows.verifyCodesRow.laid w):Zcf Tryz.prog (Z2u Tryz.prog) (memG Tryz.prog Zsl) (Zg1 w) w w:=by
 refine Zs9 Tryz.prog w Zsl fun p hp=>?_
 simp only [Zsl,List.mem_cons,List.not_mem_nil,or_false] at hp
theorem walk (w:World)(hL:laidMetH Tryz.prog Rows.verifyCodesRow.laid w){v0:Value}(h0:Z0d Tryz.prog w (Ty.slice 40 (Ty.pair (Ty.int .i64) (Ty.pair (Ty.int .i64) (Ty.pair (Ty.int .i64) Ty.unit)))) v0)(x1:Int)(hx1:(Lit.int .i64 x1).wf=true){v2:Value}(h2:Zvo Tryz.prog w (fun n:Int=>[Value.int .i64 n]) (fun n=>(Lit.int .i64 n).wf=true) 3 1 v2) :
  Calls Tryz.prog 3 #[v0,.int .i64 x1,v2] w fun e w'=>e=.returned (.bool true)∧Below w.heap.size w w':=by
 have hM:=Z38 w hL
 obtain⟨rs0,J0,m0,cs0,hw0,le0,hM0,vr0,hr0,hk0⟩:=h0 _ _ hM
 obtain⟨rs2,J2,m2,ao2,fr2,le2,hM2,vr2,hr2,hg2,hl2,hk2,hz2,hw2⟩:=Z4b hM0 sz3 (by omega) (fun _=>rfl) h2
 obtain⟨v',m',h,rfl⟩:=Z0w (S:=Z4z) (m:=m2) nx hw0 (hr0.keep hk2) hx1 hr2 hl2 hz2 hw2
 exact Zyv Zuh (Sh.tab_ok tab) Z3s Tryz.func3 (by kernel_rfl) h rfl hM2 (.cons (vr0.mono le2) (.cons (.clo _ rfl) (.cons vr2 Ze.nil)))
theorem Zvw:laidOutB Tryz.prog=true:=by kernel_rfl
theorem Zx5 (H:Type)(enc:TypeId × Value→H)(W:World)(base:Nat)(args:Array Value)(ds gs:List (DataW H))(before:List MemPlace)
  (hval:∀ (j:Nat) t v,Tryz.f3.params[j]?=some t→args[j]?=some v→Value.okWide Tryz.prog W .any base t v)
  (hW:DataW.Whole enc Tryz.prog Tryz.f3.params.toList Rows.verifyCodesSpec.vars false W args.toList ds gs before) (hL:laidMetH Tryz.prog Rows.verifyCodesRow.laid W) :
  Calls Tryz.prog 3 args W fun e W'=>∃ v,e=.returned v∧Rows.verifyCodesSpec.post enc Tryz.prog Tryz.f3 false true false false W args v W':=by
 have hW':=hW
 obtain⟨p,q,hA0,hV,rfl,hfz,hnd⟩:=hW
 have hA:DataW.TrodAll enc Tryz.prog W 0 (fun _=>true) true Tryz.f3.params.toList args.toList ds p:=hA0
 rw [Tryz.params3] at hA hval
 obtain⟨v0,v1,v2,d0,d1,d2,p0,p1,p2,rfl,rfl,rfl,t0,t1,t2⟩:=trodAll_three hA
 obtain⟨rfl,rfl⟩:=trodVars_none hV
 have hv0:=Z00 (ty:=(Ty.slice 40 (Ty.pair (Ty.int .i64) (Ty.pair (Ty.int .i64) (Ty.pair (Ty.int .i64) Ty.unit))))) (t:=22) (by kernel_rfl) (hval 0 _ _ rfl rfl) t0
 obtain⟨x1,rfl,rfl,rfl,hx1⟩:=open_int u3 (hval 1 _ _ rfl rfl) t1
 have hv2:=Zzc u23 u3 sz3 (hval 2 _ _ rfl rfl) t2
 clear hA0
 simp only [List.append_nil,List.nil_append] at hW'
 refine (walk W hL hv0 x1 hx1 hv2).mono fun e W' ⟨he,hg⟩=>?_
 subst he
 have hlt0:∀ z∈p0,z.block < W.heap.size:=fun z hz=>hW'.lt z (by simp [hz])
 have hlt2:∀ z∈p2,z.block < W.heap.size:=fun z hz=>hW'.lt z (by simp [hz])
 exact⟨_,rfl,Sh.law_post (pa:=(p0++([]++p2))) (pv:=[]) hW' hg (by simp) (fun sp hsp=>trodAll_mk3 (WideElems.Trod_stays Zvw (by kernel_rfl) (of_decide_eq_true (by kernel_rfl)) t0 (fun z hz=>hg.same (hlt0 z hz)) (fun z hz=>hsp z (by simp [hz]))) (shut_int u3 hx1) (WideElems.Trod_stays Zvw (by kernel_rfl) (of_decide_eq_true (by kernel_rfl)) t2 (fun z hz=>hg.same (hlt2 z hz)) (fun z hz=>hsp z (by simp [hz])))) (fun _ _=>rfl) (fun _ _ _=>(trodAll_cons_mk (shut_bool u4 _) trodAll_mk0))
  (ok_one (by kernel_rfl) rfl (okWide_bool_mk u4 _))⟩
noncomputable def Zmq (os:Os):World:=
 { World.holding Tryz.prog os ⟨#[],#[],[]⟩ with heap:=(((World.holding Tryz.prog os ⟨#[],#[],[]⟩).heap).modify 2 (Sh.laidBlock (Rows.laid_unicode_utf8_acceptRanges:DataW Unit))).modify 1 (Sh.laidBlock (Rows.laid_unicode_utf8_first:DataW Unit)) }
theorem Zzd (os:Os):laidMet Tryz.prog Rows.verifyCodesRow.laid ((Zmq os).forCall (fun _ _=>0) ⟨#[],#[(Zo6 (Ty.slice 40 (Ty.pair (Ty.int .i64) (Ty.pair (Ty.int .i64) (Ty.pair (Ty.int .i64) Ty.unit)))) ((Ty.slice 40 (Ty.pair (Ty.int .i64) (Ty.pair (Ty.int .i64) (Ty.pair (Ty.int .i64) Ty.unit))))).zeros),.int .i64 0,.slice none 0 0],[]⟩).memory:=
 laidMet_of_run' 8 (by kernel_rfl) (by kernel_rfl)
theorem Z1j (os:Os){H:Type}(enc:TypeId × Value→H):∃ places,DataW.whole enc Tryz.prog ((Zmq os).forCall (fun _ _=>0) ⟨#[],#[(Zo6 (Ty.slice 40 (Ty.pair (Ty.int .i64) (Ty.pair (Ty.int .i64) (Ty.pair (Ty.int .i64) Ty.unit)))) ((Ty.slice 40 (Ty.pair (Ty.int .i64) (Ty.pair (Ty.int .i64) (Ty.pair (Ty.int .i64) Ty.unit))))).zeros),.int .i64 0,.slice none 0 0],[]⟩).memory Tryz.f3.params.toList Rows.verifyCodesSpec.vars false (#[(Zo6 (Ty.slice 40 (Ty.pair (Ty.int .i64) (Ty.pair (Ty.int .i64) (Ty.pair (Ty.int .i64) Ty.unit)))) ((Ty.slice 40 (Ty.pair (Ty.int .i64) (Ty.pair (Ty.int .i64) (Ty.pair (Ty.int .i64) Ty.unit))))).zeros),.int .i64 0,.slice none 0 0]:Array Value).toList 8=some ([(((Ty.slice 40 (Ty.pair (Ty.int .i64) (Ty.pair (Ty.int .i64) (Ty.pair (Ty.int .i64) Ty.unit))))).zdata),.lit (.int .i64 0),.nil],[],places):=
 ⟨[],by kernel_rfl⟩
theorem Z26 (os:Os)(started:os.Started)(H:Type)(enc:TypeId × Value→H)(F:Stop.Interp) :
  ReturnsInHanded {} Tryz.checked os 3 .any ((OpenSpec.ofChange Rows.verifyCodesSpec).preRow enc Tryz.prog Tryz.f3 Rows.verifyCodesRow.domain false Rows.verifyCodesRow.laid) (((OpenSpec.ofChange Rows.verifyCodesSpec).at F).post enc Tryz.prog Tryz.f3 false true false false):=by
 obtain⟨places,hx⟩:=Z1j os enc
 refine returnsInHanded_of_row (C:=Tryz.checked) (s:=OpenSpec.ofChange Rows.verifyCodesSpec) own started (by kernel_rfl) Tryz.func3
  (witness_row_at (enc:=enc) (C:=Tryz.checked) false (Zmq os) #[(Zo6 (Ty.slice 40 (Ty.pair (Ty.int .i64) (Ty.pair (Ty.int .i64) (Ty.pair (Ty.int .i64) Ty.unit)))) ((Ty.slice 40 (Ty.pair (Ty.int .i64) (Ty.pair (Ty.int .i64) (Ty.pair (Ty.int .i64) Ty.unit))))).zeros),.int .i64 0,.slice none 0 0] rfl (by kernel_rfl) (by kernel_rfl) (by kernel_rfl)
   (OpenSpec.preRow_of_cond 8 hx (by kernel_rfl) (fun k hk=>by cases hk) (by kernel_rfl) (Zzd os))) ?_
 intro W base args ds gs before hval hW _ hcd hwt hL _ _
 exact Zx5 H enc W base args ds gs before hval hW hL
theorem Z68:Rows.VerifyCodesSaid:=
 OpenClaim.holds_of_cond 3 Tryz.f3 rfl rfl rfl rfl rfl rfl rfl ⟨rfl,rfl,rfl,rfl,rfl⟩ rfl rfl rfl rfl rfl (by kernel_rfl) Tryz.func3 (by kernel_rfl)
  (of_decide_eq_true (by kernel_rfl)) (by unfold Func.isWrapper;first | (rw [if_pos (by decide +kernel)];kernel_rfl) | (rw [if_neg (by decide +kernel)];exact⟨rfl,rfl⟩))
  (fun os started H enc _ F=>by rw [OpenClaim.pre_eq_preRow];exact Z26 os started H enc F)
theorem Z2i (f:FuncId) (fn:Func) (hf:Tryz.pinned.checked.prog.funcNamed "turnstone/turnstonelaw9.VerifyCodes"=some f) (hfn:Tryz.pinned.checked.prog.funcs[f]?=some fn) :
  true=Tryz.pinned.checked.prog.looks []∧∀ (j:Nat) t,fn.params[j]?=some t→Tryz.pinned.checked.prog.wantsStandIn t=false:=by
 obtain rfl:f=3:=Option.some.inj ((show Tryz.prog.funcNamed "turnstone/turnstonelaw9.VerifyCodes"=some 3 by kernel_rfl).symm.trans hf) |>.symm
 obtain rfl:fn=Tryz.f3:=(Option.some.inj (Tryz.func3.symm.trans hfn)).symm
 refine⟨by kernel_rfl,fun j t ht=>?_⟩
 rw [Tryz.params3] at ht
 rcases j with _ | _ | _ | _
 all_goals first
  | (simp at ht;done)
  | (obtain rfl:=Option.some.inj ht;kernel_rfl)
  | (simp at ht;subst ht;kernel_rfl)
theorem proved:Rows.VerifyCodesCardSaid:=
 Claim7.holds_tied_plain_at .later [] _ _ _ _ Z68 (fun _ h=>by cases h) (by kernel_rfl) (fun _ h=>by cases h) verifyCodes_row_tie rfl ⟨rfl,rfl⟩ (by kernel_rfl) rfl Z2i (by kernel_rfl)
#print axioms proved
end Go.Proofs.YtbldiceiindbdaaGreatDoor.verifyCodes
