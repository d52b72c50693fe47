/- This text proves what eval.Run answers, over the abstract run, where ssa.Check says yes. Condition: nothing is known of the calls ahead ('S f = []'). -/
import Derived.Test.YtlogdohlcdhepaaDoorM5
import Derived.Test.YtlogdohlcdhepaaDoorM12
set_option linter.unusedVariables false
set_option linter.unusedSimpArgs false
section
set_option maxRecDepth 100000
namespace Go.Proofs.YtlogdohlcdhepaaDoor.base
open Go.Sh gen
variable {S:Sums}{m:Mem}
inductive Ro where
  | go (V:Vv)
  | tired (V:Vv)
  | left (V:Vv) (st:Nat) (val:Int)
def valsF (u:UnT.D)(fuel:Int):List Int→Vv→Ro
  | [],V=>.go V
  | v::r,V =>
    let x:=valD u v
    if x.1=21∨x.1=1 then valsF u fuel r V else
    if fuel≤V.steps then .tired V else
    if leavesB x V.ws V.wish=true then .left { V with steps:=V.steps+1,wish:=leavesW x V.wish } (show Int from x.2.2.2.2.2.1).toNat v else
    valsF u fuel r { V with steps:=V.steps+1,wish:=leavesW x V.wish,hw:=doesH x V.hw V.ws,ws:=doesW x v.toNat V.hw V.ws }
def whichF (b:BlkT.D)(ws:List Int):Nat:=if b.2.1=2∧ws.getD (show Int from b.2.2.1).toNat 0=0 then 1 else 0
def runF (u:UnT.D)(fuel:Int):Nat→Nat→Vv→Ro
  | 0,_,V=>.tired V
  | k+1,at_,V =>
    let b:=blkD u at_
    match valsF u fuel b.1 V with
    | .go V1 =>
      if fuel≤V1.steps then .tired V1 else
      if b.2.1=3 then .left { V1 with steps:=V1.steps+1 } (show Int from b.2.2.2.2.2.1).toNat (-1) else
      let to:=((show List Int from b.2.2.2.1).getD (whichF b V1.ws) 0).toNat
      let t:=blkD u to
      let p:=phiL u t.1 (idxF t.2.2.2.2.1 (at_:Int)) V1.ws
      runF u fuel k to { V1 with ws:=setN t.1 p p.length V1.ws,steps:=V1.steps+1+p.length }
    | r=>r
structure BOk (u:UnT.D)(at_:Nat)(b:BlkT.D):Prop where
  vl:List.length b.1≤1000000
  vin:∀ v∈(show List Int from b.1),(0:Int)≤v∧v < (nv u:Int)
  ed:b.2.1=3→(0:Int)≤(show Int from b.2.2.2.2.2.1)∧(show Int from b.2.2.2.2.2.1) < (ns u:Int)
  cd:b.2.1=2→(0:Int)≤(show Int from b.2.2.1)∧(show Int from b.2.2.1) < (nv u:Int)
  nl:List.length b.2.2.2.1≤1000000∧List.length b.2.2.2.2.1≤1000000
  n2:b.2.1≠3→(if b.2.1=2 then 1 else 0) < List.length b.2.2.2.1
  nx:∀ t∈(show List Int from b.2.2.2.1),(0:Int)≤t∧t < (nb u:Int)∧(blkD u t.toNat).2.2.2.2.1≠([]:List Int)∧
    ∀ v∈(show List Int from (blkD u t.toNat).1),(valD u v).1=21→idxF (blkD u t.toNat).2.2.2.2.1 (at_:Int) < (valD u v).2.2.2.2.1.length∧(valD u v).2.2.2.2.1.length≤1000000∧(0:Int)≤(show List Int from (valD u v).2.2.2.2.1).getD (idxF (blkD u t.toNat).2.2.2.2.1 (at_:Int)) 0∧(show List Int from (valD u v).2.2.2.2.1).getD (idxF (blkD u t.toNat).2.2.2.2.1 (at_:Int)) 0 < (nv u:Int)
structure UOk (u:UnT.D):Prop where
  n:0 < nv u∧nv u≤1000000
  b:0 < nb u∧nb u≤1000000
  s:ns u≤1000000
  bl:∀ i,i < nb u→BOk u i (blkD u i)
  vl:∀ x∈u.2.2.1,x.1≠1→x.1≠21→VOk u x
  pa:∀ x∈u.2.2.1,x.1=1→(0:Int)≤x.2.2.2.1∧x.2.2.2.1≤9223372036854775807
  gd:∀ x∈u.2.2.1,x.1=22→(0:Int)≤x.2.1∧x.2.1 < (nv u:Int)
  lv:∀ x∈u.2.2.1,x.1=22∨x.1=23→(0:Int)≤x.2.2.2.2.2.1∧x.2.2.2.2.2.1 < (ns u:Int)
  fr:∀ st,(h:st < ns u)→(u.2.2.2.2.1[st]).1.length≤1000000∧∀ f∈(u.2.2.2.2.1[st]).1,f.2.2.1.length≤1000000∧f.2.2.2.1.length≤1000000∧(∀ v∈(show List Int from f.2.2.1),(0:Int)≤v∧v < (nv u:Int))∧(∀ v∈(show List Int from f.2.2.2.1),(0:Int)≤v∧v < (nv u:Int))
def ExitV (Q:Nat→Prop)(m0 m1:Mem)(u:UnT.D)(K:Kv)(v:Value):Ro→Prop
  | .go _=>False
  | .tired V=>v=.agg #[.int .i64 0,.int .i64 (-1),.int .i64 (-1),.slice none 0 0,.int .i64 V.steps]∧Ev Q m1 u K V
  | .left V st val=>(∃ fo,v=.agg #[.int .i64 1,.int .i64 (st:Int),.int .i64 val,.slice fo (stD u st).length (stD u st).length,.int .i64 V.steps]∧AtQ (fun f=>m0.next≤f) m1 (Ty.slice 44 (Ty.pair (Ty.int .i64) (Ty.pair (Ty.int .i64) (Ty.pair (Ty.slice 45 (Ty.int .u64)) (Ty.pair (Ty.slice 45 (Ty.int .u64)) Ty.unit))))) ((stD u st).map (frW V.ws)) [.slice fo (stD u st).length (stD u st).length])∧Ev Q m1 u K V
structure Nu (S:Sums):Prop where
  nv:Nv S
  run:S 10=[]
  tired:S 26=[]
  leaves:S 27=[]
  params:S 25=[]
  come:S 30=[]
  left:S 28=[]
  left1:S 57=[]
theorem words_zero (n:Nat):List.replicate n (Value.int .u64 0)=words (List.replicate n 0):=by simp [words]
theorem leavesW_in {x:ValT.D}{w:Int}(h:-9223372036854775808≤w∧w≤9223372036854775807):-9223372036854775808≤leavesW x w∧leavesW x w≤9223372036854775807:=by
  unfold leavesW;split <;> omega
theorem parF_steps (u:UnT.D)(loc l:List Int)(p:List Int × Int):p.2≤(parF u loc l p).2∧(parF u loc l p).2≤p.2+l.length:=by
  induction l generalizing p with
  | nil=>simp [parF]
  | cons a r ih =>
    have e:parF u loc (a::r) p=parF u loc r (parS u loc p a):=rfl
    rw [e]
    have:=ih (parS u loc p a)
    have h2:p.2≤(parS u loc p a).2∧(parS u loc p a).2≤p.2+1:=by
      unfold parS
      split
      · dsimp only;omega
      · omega
    rw [List.length_cons]
    omega
theorem leavesB_op {x:ValT.D}{ws:List Int}{w:Int}(h:leavesB x ws w=true):x.1=22∨x.1=23:=by
  unfold leavesB at h
  by_cases h1:x.1=22
  · exact Or.inl h1
  · rw [if_neg h1] at h
    by_cases h2:x.1=23
    · exact Or.inr h2
    · rw [if_neg h2] at h;cases h
theorem zeros_u64 (k:Nat)(hk:k≤1000000):zerosOf Tryd.prog 45 k=some (List.replicate k (Value.int .u64 0)):=zeros_of (bt:=8) (by kernel_rfl) k (by omega)
set_option maxHeartbeats 32000000 in
theorem run_run (hN:Nu S){Q:Nat→Prop}{u:UnT.D}{vo bo so:Option Addr}(hU:UAt Q m u vo bo so)(hQ:∀ f,Q f→f < m.next)(hok:UOk u)
    (hck:∀ m1,Keeps m m1 []→∃ m2,callw Tryd.prog TT S 22 [.agg (uCells u vo bo so).toArray] m1=some (.bool true,m2)∧Keeps m1 m2 [])
    {hb hf hwb hwf:Nat} {hw:List Int} {room:Int} (hH:HeapAt m hb hf hwb hwf hw room) (hhq:¬ Q hf∧¬ Q hwf) (hhw:Wd hw) (hhl:hw.length≤65536)
    {lo:Option Addr} {loc:List Int} {c lf:Nat} (hlo:Rs m lo loc.length (words loc) 45 1 lf) (hlq:loc.length≠0→lf < m.next) (hlw:Wd loc) (hlc:loc.length≤c∧c≤9223372036854775807)
    {wish fuel:Int} (hwi:-9223372036854775808≤wish∧wish≤9223372036854775807) (hfu:0≤fuel∧fuel≤1000000) :
    ∃ v m1,callw Tryd.prog TT S 10 [.agg (uCells u vo bo so).toArray,.pointer (some ⟨hb,0,none⟩),.slice lo loc.length c,.int .i64 wish,.int .i64 fuel] m=some (v,m1)∧
      (∃ K:Kv,K.hb=hb∧K.hf=hf∧K.hwf=hwf∧K.room=room∧ExitV Q m m1 u K v (runF u fuel (fuel.toNat+1) 0 ⟨hwb,hw,(parF u loc (blkD u 0).1 (List.replicate (nv u) 0,0)).1,wish,(parF u loc (blkD u 0).1 (List.replicate (nv u) 0,0)).2⟩))∧Keeps m m1 [hf,hwf]:=by
  obtain⟨oU,kU,nU⟩:=new_own (m:=m) (cs:=uCells u vo bo so) (e:=34) rfl
  obtain⟨pb,hpb⟩:∃ pb,m.next=pb:=⟨_,rfl⟩
  obtain⟨mA,hmA⟩:∃ mA,m.new (uCells u vo bo so) 34=mA:=⟨_,rfl⟩
  rw [hmA,hpb] at oU nU
  rw [hmA] at kU
  obtain⟨oR,kR,nR⟩:=new_own (m:=mA) (cs:=[.int .i64 0,.int .i64 0,.int .i64 0,.slice none 0 0,.int .i64 0]) (e:=28) rfl
  obtain⟨rb,hrb⟩:∃ rb,mA.next=rb:=⟨_,rfl⟩
  obtain⟨mB,hmB⟩:∃ mB,mA.new [.int .i64 0,.int .i64 0,.int .i64 0,.slice none 0 0,.int .i64 0] 28=mB:=⟨_,rfl⟩
  rw [hmB,hrb] at oR nR
  rw [hmB] at kR
  have lU:=(oU.keep kR (by simp)).load (off:=0) 5 (by simp)
  simp [window] at lU
  obtain⟨mC,cC,kC⟩:=hck mB (kU.trans kR)
  have oUC:=(oU.keep kR (by simp)).keep kC (by simp)
  have lUC:=oUC.load (off:=0) 5 (by simp)
  simp [window] at lUC
  have u2C:=oUC.load1 (off:=2) rfl
  have hz:=zeros_u64 (nv u) hok.n.2
  rw [words_zero] at hz
  have n1:(nv u:Int)≤9223372036854775807:=by have:=hok.n;omega
  have n2:nv u * 8≤281474976710656:=by have:=hok.n;omega
  obtain⟨oW,kW,nW⟩:=new_own (m:=mC) (cs:=words (List.replicate (nv u) 0)) (e:=45) rfl
  obtain⟨wb,hwb'⟩:∃ wb,mC.next=wb:=⟨_,rfl⟩
  obtain⟨mD,hmD⟩:∃ mD,mC.new (words (List.replicate (nv u) 0)) 45=mD:=⟨_,rfl⟩
  rw [hmD,hwb'] at oW nW
  rw [hmD] at kW
  obtain⟨oM,kM,nM⟩:=new_own (m:=mD) (cs:=[.int .i64 u.1,.int .i64 u.2.1,.slice vo (nv u) (nv u),.slice bo (nb u) (nb u),.slice so (ns u) (ns u),.pointer (some ⟨hb,0,none⟩),.slice (some ⟨wb,0,none⟩) (nv u) (nv u),.int .i64 wish,.int .i64 0]) (e:=78) rfl
  obtain⟨xb,hxb⟩:∃ xb,mD.next=xb:=⟨_,rfl⟩
  obtain⟨mE,hmE⟩:∃ mE,mD.new [.int .i64 u.1,.int .i64 u.2.1,.slice vo (nv u) (nv u),.slice bo (nb u) (nb u),.slice so (ns u) (ns u),.pointer (some ⟨hb,0,none⟩),.slice (some ⟨wb,0,none⟩) (nv u) (nv u),.int .i64 wish,.int .i64 0] 78=mE:=⟨_,rfl⟩
  rw [hmE,hxb] at oM nM
  rw [hmE] at kM
  have lUD:=(oUC.keep kW (by simp)).load (off:=0) 5 (by simp)
  simp [window] at lUD
  have KC:Keeps m mC []:=(kU.trans kR).trans kC
  have KE:Keeps m mE []:=(KC.trans kW).trans kM
  have c1:=(kU.trans kR).1
  have c2:=kC.1
  have c3:=hH.h.flt
  have c4:=hH.w.flt
  have mnx:m.next≤wb∧wb < xb∧pb=m.next∧pb < rb∧rb < wb:=by
    have:=oU.flt;have:=oR.flt;have:=oW.flt;omega
  obtain⟨K,hK⟩:∃ K:Kv,K=⟨xb,xb,hb,hf,hwf,wb,wb,room,vo,bo,so⟩:=⟨_,rfl⟩
  have ev0:Ev Q mE u K ⟨hwb,hw,List.replicate (nv u) 0,wish,0⟩:=by
    subst hK
    refine⟨oM,oW.keep kM (by simp),by simp,?_,hhw,hhl,hH.keep KE (by simp) (by simp),hU.keep KE (by simp),⟨fun q=>?_,fun q=>?_,hhq.1,hhq.2⟩,?_⟩
    · intro w hw'
      rw [List.mem_replicate] at hw'
      rw [hw'.2];omega
    · have:=hQ _ q;dsimp only at this;omega
    · have:=hQ _ q;dsimp only at this;omega
    · have:=hH.ne
      dsimp only
      omega
  have hb0:=hok.b
  have eb0:blkD u 0=u.2.2.2.1[0]'hb0.1:=blkD_eq hb0.1
  have B0:=hok.bl 0 hb0.1
  rw [eb0] at B0 ⊢
  obtain⟨_,mF,cF,ev1,kF⟩:=params_run hN.params ev0 hok.n.2 hb0.1 B0.vl B0.vin hok.pa (by dsimp only;omega) (lo:=lo) (loc:=loc) (c:=c) (lf:=lf) (by exact hlo.keep0 KE (by simp)) (fun q=>by have:=hlq q;subst hK;dsimp only;omega) hlw hlc
  have eKx:K.x=xb:=by rw [hK]
  rw [eKx] at cF
  refine fn_w 112 [112,118,128] k10 hN.run rfl ?_
  simp [-Int.natCast_add,box_of b34,alloc_of zo28,bin_ptr u22,load_agg ld34,fieldAddr_of fa34_2,load_of ld30,len_slice u30,build_of bo78,box_of b78,hpb,hmA,hrb,hmB,lU,cC,lUC,u2C,make_of u42 ap45,hz,n1,n2,hwb',hmD,hxb,hmE,lUD,cF]
  have kF':Keeps m mF [hf,hwf]:=keeps_mix (KE.mono (by simp)) kF (by subst hK;intro g hg hm;simp at hm;omega)
  have oUF:=((oUC.keep kW (by simp)).keep kM (by simp)).keep kF (by subst hK;simp;omega)
  have oRF:=(((oR.keep kC (by simp)).keep kW (by simp)).keep kM (by simp)).keep kF (by subst hK;simp;omega)
  have hps:=parF_steps u loc (u.2.2.2.1[0]'hb0.1).1 (List.replicate (nv u) 0,0)
  have hpl:=B0.vl
  dsimp only at hps
  obtain⟨V1,hV1⟩:∃ V1:Vv,V1=⟨hwb,hw,(parF u loc (u.2.2.2.1[0]'hb0.1).1 (List.replicate (nv u) 0,0)).1,wish,(parF u loc (u.2.2.2.1[0]'hb0.1).1 (List.replicate (nv u) 0,0)).2⟩:=⟨_,rfl⟩
  have ev1':Ev Q mF u K V1:=by rw [hV1];exact ev1
  have hs1:0≤V1.steps∧V1.steps≤3000000:=by rw [hV1];dsimp only;omega
  have hw1:V1.wish=wish:=by rw [hV1]
  rw [← hV1]
  obtain⟨R0,hR0⟩:∃ R0,runF u fuel (fuel.toNat+1) 0 V1=R0:=⟨_,rfl⟩
  rw [hR0]
  have eK:K.hb=hb∧K.hf=hf∧K.hwf=hwf∧K.room=room∧K.f=xb∧K.wf=wb∧K.x=xb∧K.bo=bo∧K.vo=vo:=by rw [hK];exact⟨rfl,rfl,rfl,rfl,rfl,rfl,rfl,rfl,rfl⟩
  obtain⟨eK1,eK2,eK3,eK4,eK5,eK6,eK7,eK8,eK9⟩:=eK
  have qn:∀ f,m.next≤f→¬ Q f:=fun f hf q=>by have:=hQ f q;omega
  clear hK ev0 ev1 cF lU cC lUC u2C lUD hps hz
  refine wsem_loop 112 [112,118,128] (fun d E mG=>∃ (k at_:Nat) (V:Vv),k=d∧1≤k∧fuel < V.steps+k∧0≤V.steps∧V.steps≤3000000∧(-9223372036854775808≤V.wish∧V.wish≤9223372036854775807)∧at_ < nb u∧runF u fuel k at_ V=R0∧Ev Q mG u K V∧Own mG pb (uCells u vo bo so) 34 pb∧Own mG rb [.int .i64 0,.int .i64 0,.int .i64 0,.slice none 0 0,.int .i64 0] 28 rb∧Keeps m mG [hf,hwf]∧
    E=[(4,.int .i64 fuel),(5,.pointer (some ⟨pb,0,none⟩)),(10,.pointer (some ⟨rb,0,none⟩)),(11,.pointer (some ⟨xb,0,none⟩)),(12,.int .i64 (at_:Int))]) _ ⟨_,⟨fuel.toNat+1,0,V1,rfl,by omega,by omega,hs1.1,hs1.2,by rw [hw1];exact hwi,hb0.1,hR0,ev1',oUF,oRF,kF',rfl⟩,⟨by rfl,by rfl,by rfl,by rfl,by rfl,trivial⟩⟩ ?_
  rintro d E mG ih ⟨k,at_,V,hd,hk1,hkf,hs0,hs3,hwb1,hat,hrun,hG,oUG,oRG,kG,rfl⟩
  have B:=hok.bl at_ hat
  obtain⟨bb,vo',no',po',hbo',ldb,hvo',hno',hpo'⟩:=blk_at hG.unit hat
  rw [eK8] at hbo'
  rw [← blkD_eq hat] at ldb hvo' hno' hpo'
  obtain⟨b,hb'⟩:∃ b:BlkT.D,blkD u at_=b:=⟨_,rfl⟩
  rw [hb'] at ldb hvo' hno' hpo' B
  obtain⟨l,hl⟩:∃ l:List Int,b.1=l:=⟨_,rfl⟩
  have Bvl:l.length≤1000000:=by rw [← hl];exact B.vl
  have Bvin:∀ v∈l,(0:Int)≤v∧v < (nv u:Int):=by rw [← hl];exact B.vin
  have hvl:IntsAt Q mG vo' l:=by rw [← hl];exact hvo'
  have hun:=hok.n
  have hub:=hok.b
  have a1:(at_:Int) < nb u:=by omega
  have a2:(at_:Int)≤9223372036854775807:=by omega
  have u3:=oUG.load1 (off:=3) rfl
  rw [hbo'] at u3
  obtain⟨oZ,kZ,nZ⟩:=new_own (m:=mG) (cs:=[.slice none 0 0,.int .i64 0,.int .i64 0,.slice none 0 0,.slice none 0 0,.int .i64 0]) (e:=40) rfl
  obtain⟨bx,hbx⟩:∃ bx,mG.next=bx:=⟨_,rfl⟩
  obtain⟨mH,eH,oX,kX⟩:=store_own (r:=_) rfl oZ (off:=0) (vs:=blkC b vo' no' po') (by simp) (by simp [one_int,one_slice])
  simp [over] at oX
  have kH:=kZ.fresh kX (by simp)
  rw [hbx] at oX nZ eH
  have hH':=hG.keep0 kH
  have bs:m.next≤bx∧xb < bx∧rb < bx∧pb < bx∧wb < bx:=by
    have:=kG.1;have:=hG.own.flt;have:=oRG.flt;have:=oUG.flt;omega
  have x0:=oX.load1 (off:=0) rfl
  have x0':loadRow mH ⟨bx,0,none⟩ 1=some [.slice vo' l.length l.length]:=by rw [x0,hl]
  simp [-Int.natCast_add,fieldAddr_of fa34_3,load_of ld31,index_slice u31 sz40,load_agg ld40,alloc_of zo40,store_of sz40,fieldAddr_of fa40_0,load_of ld36,len_slice u36,u3,a2,hat,ldb,hbx,eH,x0']
  have kGH:Keeps m mH [hf,hwf]:=keeps_mix kG kH (by simp)
  obtain⟨R1,hR1⟩:∃ R1,valsF u fuel l V=R1:=⟨_,rfl⟩
  refine wsem_loop 112 [112,118,128] (fun d E mI=>∃ (i:Nat) (V':Vv),l.length - i=d∧i≤l.length∧valsF u fuel (l.drop i) V'=R1∧V.steps≤V'.steps∧V'.steps≤3000000∧(-9223372036854775808≤V'.wish∧V'.wish≤9223372036854775807)∧Ev Q mI u K V'∧Own mI bx (blkC b vo' no' po') 40 bx∧Own mI pb (uCells u vo bo so) 34 pb∧Own mI rb [.int .i64 0,.int .i64 0,.int .i64 0,.slice none 0 0,.int .i64 0] 28 rb∧Keeps m mI [hf,hwf]∧Keeps mH mI [K.f,K.wf,hwf]∧
    E=[(4,.int .i64 fuel),(5,.pointer (some ⟨pb,0,none⟩)),(10,.pointer (some ⟨rb,0,none⟩)),(11,.pointer (some ⟨xb,0,none⟩)),(12,.int .i64 (at_:Int)),(13,.pointer (some ⟨bx,0,none⟩)),(44,.slice vo' l.length l.length),(45,.int .i64 l.length),(46,.int .i64 (i:Int))]) _ ⟨_,⟨0,V,rfl,by omega,by rw [List.drop_zero];exact hR1,by omega,hs3,hwb1,hH',by rw [hbx] at *;exact oX,oUG.keep kH (by simp),oRG.keep kH (by simp),kGH,.refl _ _,rfl⟩,⟨by rfl,by rfl,by rfl,by rfl,by rfl,by rfl,by rfl,by rfl,by rfl,trivial⟩⟩ ?_
  rintro d' E mI ih2 ⟨i,V',hd2,hi,hvals,hst,hst3,hwb2,hI,oXI,oUI,oRI,kI,kHI,rfl⟩
  have im:(i:Int)≤9223372036854775807:=by omega
  by_cases hlt:i < l.length
  · have i1:(i:Int) < l.length:=by omega
    have wi:IntKind.i64.wrap ((i:Int)+1)=((i+1:Nat):Int):=by rw [wrap_i64 (by omega) (by omega)];omega
    have nq3:∀ f∈[K.f,K.wf,hwf],¬ Q f:=by
      intro f hf'
      simp at hf'
      rcases hf' with q | q | q
      · rw [q];exact hI.nq.1
      · rw [q];exact hI.nq.2.1
      · rw [q];exact hhq.2
    obtain⟨lb,hlb,li⟩:=((hvl.keep kH (by simp)).keep kHI nq3).get hlt
    rw [hlb] at ih2 oXI ⊢
    obtain⟨v,ev⟩:∃ v:Nat,l.getD i 0=(v:Int):=⟨(l.getD i 0).toNat,by have:=Bvin _ (getD_mem hlt);omega⟩
    have hvn:v < nv u:=by have:=Bvin _ (getD_mem hlt);omega
    have hdrop:l.drop i=(v:Int)::l.drop (i+1):=by
      rw [List.drop_eq_getElem_cons hlt,← ev,List.getD_eq_getElem?_getD,List.getElem?_eq_getElem hlt];rfl
    rw [ev] at li
    rw [hdrop,valsF,valD_eq hvn] at hvals
    obtain⟨xb2,ao,fa,hxv,ldx,hra,hqa⟩:=val_at hI.unit hvn
    rw [eK9] at hxv
    have u2:=oUI.load1 (off:=2) rfl
    rw [hxv] at u2
    have lop:=load_sub (k:=0) ldx rfl
    rw [Nat.add_zero] at lop
    have v1:(v:Int) < nv u:=by omega
    have v2:(v:Int)≤9223372036854775807:=by omega
    obtain⟨o,ho⟩:∃ o:Int,(u.2.2.1[v]).1=o:=⟨_,rfl⟩
    rw [ho] at lop
    have hmem:u.2.2.1[v]∈u.2.2.1:=List.getElem_mem hvn
    by_cases c21:o=21∨o=1
    · dsimp only at hvals
      rw [if_pos (by rw [ho];exact c21)] at hvals
      have c1:¬ o=21→o=1:=fun q=>c21.resolve_left q
      by_cases c21':o=21
      · simp [-Int.natCast_add,-List.getD_eq_getElem?_getD,fieldAddr_of fa34_2,load_of ld30,index_slice u36 sz3,load_of ld3,index_slice u30 sz38,fieldAddr_of fa38_0,i1,im,hlt,li,u2,v2,hvn,lop,c21',wi]
        exact ih2 _ _ _ _ ⟨i+1,V',rfl,by omega,hvals,hst,hst3,hwb2,hI,oXI,oUI,oRI,kI,kHI,rfl⟩ (by omega) ⟨by rfl,by rfl,by rfl,by rfl,by rfl,by rfl,by rfl,by rfl,by rfl,trivial⟩
      · have c1':=c1 c21'
        simp [-Int.natCast_add,-List.getD_eq_getElem?_getD,fieldAddr_of fa34_2,load_of ld30,index_slice u36 sz3,load_of ld3,index_slice u30 sz38,fieldAddr_of fa38_0,i1,im,hlt,li,u2,v2,hvn,lop,c1',wi]
        exact ih2 _ _ _ _ ⟨i+1,V',rfl,by omega,hvals,hst,hst3,hwb2,hI,oXI,oUI,oRI,kI,kHI,rfl⟩ (by omega) ⟨by rfl,by rfl,by rfl,by rfl,by rfl,by rfl,by rfl,by rfl,by rfl,trivial⟩
    · have n21:¬ o=21:=fun q=>c21 (Or.inl q)
      have n01:¬ o=1:=fun q=>c21 (Or.inr q)
      dsimp only at hvals
      rw [if_neg (by rw [ho];exact c21)] at hvals
      have w8:=hI.own.load1 (off:=8) rfl
      rw [eK7] at w8
      by_cases ft:fuel≤V'.steps
      · rw [if_pos ft] at hvals
        have hR:R0=.tired V':=by
          rw [← hrun]
          obtain⟨k,rfl⟩:∃ k',k=k'+1:=⟨k - 1,by omega⟩
          rw [runF,hb',hl]
          dsimp only
          rw [hR1,← hvals]
        obtain⟨_,m1,ct,rfl,kt⟩:=tired_run hN.tired hI
        rw [eK7] at ct
        obtain⟨m2,e2,oR2,k2⟩:=store_own (r:=_) rfl (oRI.keep kt (by simp)) (off:=0) (vs:=[.int .i64 0,.int .i64 (-1),.int .i64 (-1),.slice none 0 0,.int .i64 V'.steps]) (by simp) (by simp [one_int,one_slice])
        simp [over] at oR2
        have lR:=oR2.load (off:=0) 5 (by simp)
        simp [window] at lR
        have h2:=(hI.keep0 kt).keep k2 (by rw [eK5];simp;omega) (by rw [eK6];simp;omega) (by rw [eK2];simp;omega) (by rw [eK3];simp;omega) (by simp;exact qn _ (by omega))
        simp [-Int.natCast_add,-List.getD_eq_getElem?_getD,lres_agg ld28,store_of sz28,fieldAddr_of fa34_2,load_of ld30,index_slice u36 sz3,load_of ld3,index_slice u30 sz38,fieldAddr_of fa38_0,fieldAddr_of fa78_4,i1,im,hlt,li,u2,v2,hvn,lop,n21,n01,w8,ft,ct,e2,lR]
        exact⟨⟨K,eK1,eK2,eK3,eK4,by rw [hR];exact⟨rfl,h2⟩⟩,keeps_mix (keeps_mix kI kt (by simp)) k2 (by simp;omega)⟩
      · rw [if_neg ft] at hvals
        obtain⟨mJ,eJ,hJ,kJ⟩:=ev_steps hI (V'.steps+1)
        rw [eK7] at eJ
        rw [eK5] at kJ
        have wst:IntKind.i64.wrap (V'.steps+1)=V'.steps+1:=wrap_i64 (by omega) (by omega)
        obtain⟨_,mK,cL,rfl,hKv,kK⟩:=leaves_run hN.leaves hJ hun.2 hvn (fun q=>hok.gd _ hmem q) hwb2
        rw [eK7] at cL
        rw [eK5] at kK
        dsimp only at hKv cL
        have oUJ:=(oUI.keep kJ (by simp;omega)).keep kK (by simp;omega)
        have oRJ:=(oRI.keep kJ (by simp;omega)).keep kK (by simp;omega)
        have oXJ:=(oXI.keep kJ (by simp;omega)).keep kK (by simp;omega)
        have kJI:Keeps m mK [hf,hwf]:=keeps_mix (keeps_mix kI kJ (by simp;omega)) kK (by simp;omega)
        have lwb:=leavesW_in (x:=u.2.2.1[v]) hwb2
        by_cases lv:leavesB (u.2.2.1[v]) V'.ws V'.wish=true
        · rw [if_pos lv] at hvals
          rw [lv] at cL
          obtain⟨s0,s1⟩:=hok.lv _ hmem (leavesB_op lv)
          obtain⟨xb3,ao3,fa3,hxv3,ldx3,_,_⟩:=val_at hKv.unit hvn
          rw [eK9,hxv] at hxv3
          simp only [Option.some.injEq,Addr.mk.injEq,and_true] at hxv3
          subst hxv3
          have lst:=load_sub (k:=5) ldx3 rfl
          have u2K:=oUJ.load1 (off:=2) rfl
          rw [hxv] at u2K
          obtain⟨st,est⟩:∃ st:Nat,(show Int from (u.2.2.1[v]).2.2.2.2.2.1)=(st:Int):=⟨_,(Int.toNat_of_nonneg s0).symm⟩
          have hst':st < ns u:=by
            have:(show Int from (u.2.2.1[v]).2.2.2.2.2.1) < (ns u:Int):=s1
            omega
          have lst':loadRow mK ⟨xb2,v * 6+5,none⟩ 1=some [.int .i64 (st:Int)]:=by rw [lst];rw [show (u.2.2.1[v]).2.2.2.2.2.1=(st:Int) from est]
          obtain⟨f1,f2⟩:=hok.fr st hst'
          obtain⟨_,mL,cF2,⟨fo,rfl,hfr⟩,kL⟩:=left_run hN.left hN.left1 hKv hun.2 hok.s hst' (v:Int) rfl f1 f2
          rw [eK7] at cF2
          dsimp only at cF2
          obtain⟨m2,e2,oR2,k2⟩:=store_own (r:=_) rfl (oRJ.keep kL (by simp)) (off:=0) (vs:=[.int .i64 1,.int .i64 (st:Int),.int .i64 (v:Int),.slice fo (u.2.2.2.2.1[st]).1.length (u.2.2.2.2.1[st]).1.length,.int .i64 (V'.steps+1)]) (by simp) (by simp [one_int,one_slice])
          simp [over] at oR2
          have lR:=oR2.load (off:=0) 5 (by simp)
          simp [window] at lR
          have h2:=(hKv.keep0 kL).keep k2 (by rw [eK5];simp;omega) (by rw [eK6];simp;omega) (by rw [eK2];simp;omega) (by rw [eK3];simp;omega) (by simp;exact qn _ (by omega))
          have hR:R0=.left { V' with steps:=V'.steps+1,wish:=leavesW (u.2.2.1[v]) V'.wish } st (v:Int):=by
            rw [← hrun]
            obtain⟨k,rfl⟩:∃ k',k=k'+1:=⟨k - 1,by omega⟩
            rw [runF,hb',hl]
            dsimp only
            rw [hR1,← hvals]
            dsimp only
            have e5:Int.toNat (show Int from (u.2.2.1[v]).2.2.2.2.2.1)=st:=by rw [est];exact Int.toNat_natCast st
            exact congrArg (fun z=>Ro.left _ z _) e5
          have mKn:=kJI.1
          have fr2:=(hfr.keep k2 (by have:=oRJ.flt;simp;omega)).mono (R:=fun f=>m.next≤f) (fun f q=>by omega)
          simp [-Int.natCast_add,-List.getD_eq_getElem?_getD,lres_agg ld28,store_of sz28,fieldAddr_of fa34_2,load_of ld30,index_slice u36 sz3,load_of ld3,index_slice u30 sz38,fieldAddr_of fa38_0,fieldAddr_of fa78_4,store_of sz3,fieldAddr_of fa38_5,i1,im,hlt,li,u2,v2,hvn,lop,n21,n01,w8,ft,wst,eJ,cL,u2K,lst',cF2,e2,lR]
          refine⟨⟨K,eK1,eK2,eK3,eK4,by rw [hR];exact⟨⟨fo,by rw [stD_eq hst'],by rw [stD_eq hst'];exact fr2⟩,h2⟩⟩,keeps_mix (keeps_mix kJI kL (by simp)) k2 (by simp;omega)⟩
        · rw [if_neg lv] at hvals
          have lv':leavesB (u.2.2.1[v]) V'.ws V'.wish=false:=by simpa using lv
          rw [lv'] at cL
          have hx:=hok.vl _ hmem (by rw [ho];exact n01) (by rw [ho];exact n21)
          obtain⟨_,mL,cD,hD,kD⟩:=does_run hN.nv hKv hun.2 hvn hx
          rw [eK7] at cD
          rw [eK6,eK3] at kD
          dsimp only at hD
          have oUL:=oUJ.keep kD (by simp;omega)
          have oRL:=oRJ.keep kD (by simp;omega)
          have oXL:=oXJ.keep kD (by simp;omega)
          have kLI:Keeps m mL [hf,hwf]:=keeps_mix kJI kD (by simp;omega)
          have kLH:Keeps mH mL [K.f,K.wf,hwf]:=by
            rw [eK5,eK6] at kHI ⊢
            exact ((kHI.trans (kJ.mono (by simp))).trans (kK.mono (by simp))).trans (kD.mono (by simp))
          simp [-Int.natCast_add,-List.getD_eq_getElem?_getD,fieldAddr_of fa34_2,load_of ld30,index_slice u36 sz3,load_of ld3,index_slice u30 sz38,fieldAddr_of fa38_0,fieldAddr_of fa78_4,store_of sz3,i1,im,hlt,li,u2,v2,hvn,lop,n21,n01,w8,ft,wst,eJ,cL,cD,wi]
          exact ih2 _ _ _ _ ⟨i+1,_,rfl,by omega,hvals,by dsimp only;omega,by dsimp only;omega,lwb,by simpa using hD,oXL,oUL,oRL,kLI,kLH,rfl⟩ (by omega) ⟨by rfl,by rfl,by rfl,by rfl,by rfl,by rfl,by rfl,by rfl,by rfl,trivial⟩
  clear ih2
  have i1:¬ (i:Int) < l.length:=by omega
  rw [List.drop_of_length_le (by omega),valsF] at hvals
  obtain⟨k,rfl⟩:∃ k',k=k'+1:=⟨k - 1,by omega⟩
  rw [runF,hb',hl] at hrun
  dsimp only at hrun
  rw [hR1,← hvals] at hrun
  dsimp only at hrun
  have w8:=hI.own.load1 (off:=8) rfl
  rw [eK7] at w8
  by_cases ft:fuel≤V'.steps
  · rw [if_pos ft] at hrun
    obtain⟨_,m1,ct,rfl,kt⟩:=tired_run hN.tired hI
    rw [eK7] at ct
    obtain⟨m2,e2,oR2,k2⟩:=store_own (r:=_) rfl (oRI.keep kt (by simp)) (off:=0) (vs:=[.int .i64 0,.int .i64 (-1),.int .i64 (-1),.slice none 0 0,.int .i64 V'.steps]) (by simp) (by simp [one_int,one_slice])
    simp [over] at oR2
    have lR:=oR2.load (off:=0) 5 (by simp)
    simp [window] at lR
    have h2:=(hI.keep0 kt).keep k2 (by rw [eK5];simp;omega) (by rw [eK6];simp;omega) (by rw [eK2];simp;omega) (by rw [eK3];simp;omega) (by simp;exact qn _ (by omega))
    simp [-Int.natCast_add,lres_agg ld28,store_of sz28,load_of ld3,fieldAddr_of fa78_4,i1,w8,ft,ct,e2,lR]
    exact⟨⟨K,eK1,eK2,eK3,eK4,by rw [← hrun];exact⟨rfl,h2⟩⟩,keeps_mix (keeps_mix kI kt (by simp)) k2 (by simp;omega)⟩
  rw [if_neg ft] at hrun
  obtain⟨mJ,eJ,hJ,kJ⟩:=ev_steps hI (V'.steps+1)
  rw [eK7] at eJ
  rw [eK5] at kJ
  have wst:IntKind.i64.wrap (V'.steps+1)=V'.steps+1:=wrap_i64 (by omega) (by omega)
  have oUJ:=oUI.keep kJ (by simp;omega)
  have oRJ:=oRI.keep kJ (by simp;omega)
  have oXJ:=oXI.keep kJ (by simp;omega)
  have kJI:Keeps m mJ [hf,hwf]:=keeps_mix kI kJ (by simp;omega)
  obtain⟨en,hen⟩:∃ en:Int,b.2.1=en:=⟨_,rfl⟩
  have y1:=oXJ.load1 (off:=1) rfl
  rw [hen] at y1
  by_cases e3:en=3
  · rw [if_pos (by rw [hen];exact e3)] at hrun
    obtain⟨s0,s1⟩:=B.ed (by rw [hen];exact e3)
    obtain⟨st,est⟩:∃ st:Nat,(show Int from b.2.2.2.2.2.1)=(st:Int):=⟨_,(Int.toNat_of_nonneg s0).symm⟩
    have e5:Int.toNat (show Int from b.2.2.2.2.2.1)=st:=by rw [est];exact Int.toNat_natCast st
    have hR:R0=.left { V' with steps:=V'.steps+1 } st (-1):=by rw [← hrun];exact congrArg (fun z=>Ro.left _ z _) e5
    have hst':st < ns u:=by
      have:(show Int from b.2.2.2.2.2.1) < (ns u:Int):=s1
      omega
    have y5:=oXJ.load1 (off:=5) rfl
    rw [show b.2.2.2.2.2.1=(st:Int) from est] at y5
    obtain⟨f1,f2⟩:=hok.fr st hst'
    obtain⟨_,mL,cF2,⟨fo,rfl,hfr⟩,kL⟩:=left_run hN.left hN.left1 hJ hun.2 hok.s hst' (-1) rfl f1 f2
    rw [eK7] at cF2
    dsimp only at cF2
    obtain⟨m2,e2,oR2,k2⟩:=store_own (r:=_) rfl (oRJ.keep kL (by simp)) (off:=0) (vs:=[.int .i64 1,.int .i64 (st:Int),.int .i64 (-1),.slice fo (u.2.2.2.2.1[st]).1.length (u.2.2.2.2.1[st]).1.length,.int .i64 (V'.steps+1)]) (by simp) (by simp [one_int,one_slice])
    simp [over] at oR2
    have lR:=oR2.load (off:=0) 5 (by simp)
    simp [window] at lR
    have h2:=(hJ.keep0 kL).keep k2 (by rw [eK5];simp;omega) (by rw [eK6];simp;omega) (by rw [eK2];simp;omega) (by rw [eK3];simp;omega) (by simp;exact qn _ (by omega))
    have mKn:=kJI.1
    have fr2:=(hfr.keep k2 (by have:=oRJ.flt;simp;omega)).mono (R:=fun f=>m.next≤f) (fun f q=>by omega)
    simp [-Int.natCast_add,lres_agg ld28,store_of sz28,load_of ld3,fieldAddr_of fa78_4,store_of sz3,fieldAddr_of fa40_1,fieldAddr_of fa40_5,i1,w8,ft,wst,eJ,y1,e3,y5,cF2,e2,lR]
    exact⟨⟨K,eK1,eK2,eK3,eK4,by rw [hR];exact⟨⟨fo,by rw [stD_eq hst'],by rw [stD_eq hst'];exact fr2⟩,h2⟩⟩,keeps_mix (keeps_mix kJI kL (by simp)) k2 (by simp;omega)⟩
  rw [if_neg (by rw [hen];exact e3)] at hrun
  obtain⟨nl,hnl⟩:∃ nl:List Int,b.2.2.2.1=nl:=⟨_,rfl⟩
  have Bn:∀ t∈nl,(0:Int)≤t∧t < (nb u:Int)∧(blkD u t.toNat).2.2.2.2.1≠([]:List Int)∧
    ∀ v∈(show List Int from (blkD u t.toNat).1),(valD u v).1=21→idxF (blkD u t.toNat).2.2.2.2.1 (at_:Int) < (valD u v).2.2.2.2.1.length∧(valD u v).2.2.2.2.1.length≤1000000∧(0:Int)≤(show List Int from (valD u v).2.2.2.2.1).getD (idxF (blkD u t.toNat).2.2.2.2.1 (at_:Int)) 0∧(show List Int from (valD u v).2.2.2.2.1).getD (idxF (blkD u t.toNat).2.2.2.2.1 (at_:Int)) 0 < (nv u:Int):=by rw [← hnl];exact B.nx
  have Bl2:(if en=2 then 1 else 0) < nl.length:=by
    have:=B.n2 (by rw [hen];exact e3)
    rw [hen,hnl] at this;exact this
  have Bnl:nl.length≤1000000:=by rw [← hnl];exact B.nl.1
  obtain⟨cd,hcd⟩:∃ cd:Int,b.2.2.1=cd:=⟨_,rfl⟩
  have Bcd:en=2→0≤cd∧cd < (nv u:Int):=by rw [← hen,← hcd];exact B.cd
  obtain⟨wv,hwv⟩:∃ wv,whichF b V'.ws=wv:=⟨_,rfl⟩
  have hwvf:wv=if en=2∧V'.ws.getD cd.toNat 0=0 then 1 else 0:=by rw [← hwv];unfold whichF;rw [hen,show (show Int from b.2.2.1)=cd from hcd]
  have wvl:wv < nl.length:=by
    rw [hwvf]
    by_cases q:en=2
    · rw [if_pos q] at Bl2;split <;> omega
    · rw [if_neg (fun z=>q z.1)];omega
  rw [hnl,hwv] at hrun
  obtain⟨tn,htn⟩:∃ tn:Nat,nl.getD wv 0=(tn:Int):=⟨(nl.getD wv 0).toNat,by have:=Bn _ (getD_mem wvl);omega⟩
  have Bt:=Bn _ (getD_mem wvl)
  rw [htn,Int.toNat_natCast] at Bt
  obtain⟨_,t1,t2,t3⟩:=Bt
  rw [htn,Int.toNat_natCast] at hrun
  have tb:tn < nb u:=by omega
  have T:=hok.bl tn tb
  obtain⟨_,mL,cC2,hL,kL⟩:=come_run hN.come hJ hun.2 hub.2 (from_:=(at_:Int)) tb (l:=(blkD u tn).1) (pr:=(blkD u tn).2.2.2.2.1) (by rw [blkD_eq tb]) (by rw [blkD_eq tb]) T.vl T.nl.2 t2 T.vin t3 (by dsimp only;omega)
  rw [eK7] at cC2
  dsimp only at hL
  have pll:=phiL_len u (blkD u tn).1 (idxF (blkD u tn).2.2.2.2.1 (at_:Int)) V'.ws
  have Tvl:=T.vl
  rw [eK5,eK6] at kL
  have oUL:=oUJ.keep kL (by simp;omega)
  have oRL:=oRJ.keep kL (by simp;omega)
  have oXL:=oXJ.keep kL (by simp;omega)
  have kLI:Keeps m mL [hf,hwf]:=keeps_mix kJI kL (by simp;omega)
  have nq3:∀ f∈[K.f,K.wf,hwf],¬ Q f:=by
    intro f hf'
    simp at hf'
    rcases hf' with q | q | q
    · rw [q];exact hI.nq.1
    · rw [q];exact hI.nq.2.1
    · rw [q];exact hhq.2
  have hnoG:IntsAt Q mG no' nl:=by rw [← hnl];exact hno'
  have hnoJ:=((hnoG.keep kH (by simp)).keep kHI nq3).keep kJ (by simp;exact qn _ (by omega))
  have hnoL:=hnoJ.keep kL (by simp;exact⟨qn _ (by omega),qn _ (by omega)⟩)
  obtain⟨nxb,hnxb,lnx⟩:=hnoJ.get wvl
  obtain⟨nxb2,hnxb2,lnxL⟩:=hnoL.get wvl
  rw [hnxb] at hnxb2
  simp only [Option.some.injEq,Addr.mk.injEq,and_true] at hnxb2
  subst hnxb2
  rw [htn] at lnx lnxL
  have y3:=oXJ.load1 (off:=3) rfl
  have y3L:=oXL.load1 (off:=3) rfl
  rw [hnl,hnxb] at y3 y3L
  have y2:=oXJ.load1 (off:=2) rfl
  rw [hcd] at y2
  have w6:=hJ.own.load1 (off:=6) rfl
  rw [eK7] at w6
  have wvm:(wv:Int)≤9223372036854775807:=by omega
  have wvl':(wv:Int) < nl.length:=by omega
  have nlm:(nl.length:Int)≤9223372036854775807:=by omega
  apply cut_
  case main =>
    by_cases e2n:¬ en=2
    case' pos =>
      have hw0':wv=0:=by rw [hwvf,if_neg (fun q=>e2n q.1)]
      intro meth
      simp [-Int.natCast_add,-List.getD_eq_getElem?_getD,-w10_29,load_of ld3,fieldAddr_of fa78_4,store_of sz3,fieldAddr_of fa40_1,i1,w8,ft,wst,eJ,y1,e2n,e3]
    case' neg =>
      have e2:en=2:=Decidable.not_not.1 e2n
      obtain⟨c0,c1'⟩:=Bcd e2
      obtain⟨cn,hcn⟩:∃ cn:Nat,cd=(cn:Int):=⟨cd.toNat,by omega⟩
      rw [hcn] at y2 hwvf
      rw [Int.toNat_natCast] at hwvf
      have cnv:cn < nv u:=by omega
      have cnv':(cn:Int) < nv u:=by omega
      have cnm:(cn:Int)≤9223372036854775807:=by omega
      have lw:=hJ.wds.load1 (off:=cn) (words_at (by rw [hJ.len];exact cnv))
      dsimp only at lw
      by_cases z:V'.ws.getD cn 0=0
      case' pos =>
        have hw1':wv=1:=by rw [hwvf,if_pos ⟨e2,z⟩]
        intro meth
        simp [-Int.natCast_add,-List.getD_eq_getElem?_getD,-w10_29,load_of ld3,fieldAddr_of fa78_4,store_of sz3,fieldAddr_of fa40_1,fieldAddr_of fa78_2,load_of ld42,fieldAddr_of fa40_2,index_slice u42 sz45,load_of ld45,i1,w8,ft,wst,eJ,y1,e2,y2,w6,cnv,cnm,lw,z]
      case' neg =>
        have hw0':wv=0:=by rw [hwvf,if_neg (fun q=>z q.2)]
        intro meth
        simp [-Int.natCast_add,-List.getD_eq_getElem?_getD,-w10_29,load_of ld3,fieldAddr_of fa78_4,store_of sz3,fieldAddr_of fa40_1,fieldAddr_of fa78_2,load_of ld42,fieldAddr_of fa40_2,index_slice u42 sz45,load_of ld45,i1,w8,ft,wst,eJ,y1,e2,y2,w6,cnv,cnm,lw,z]
    all_goals
      exact w_sub (E:=[(4,.int .i64 fuel),(5,.pointer (some ⟨pb,0,none⟩)),(10,.pointer (some ⟨rb,0,none⟩)),(11,.pointer (some ⟨xb,0,none⟩)),(12,.int .i64 (at_:Int)),(13,.pointer (some ⟨bx,0,none⟩)),(17,.int .i64 (wv:Int))]) meth ⟨by rfl,by rfl,by rfl,by rfl,by rfl,by rfl,by simp [lget];omega,trivial⟩
  simp [-Int.natCast_add,-List.getD_eq_getElem?_getD,load_of ld36,index_slice u36 sz3,load_of ld3,fieldAddr_of fa40_3,y3,wvm,wvl,lnx,cC2,y3L,lnxL]
  exact ih _ _ _ _ ⟨k,tn,{ V' with ws:=setN (blkD u tn).1 (phiL u (blkD u tn).1 (idxF (blkD u tn).2.2.2.2.1 (at_:Int)) V'.ws) (phiL u (blkD u tn).1 (idxF (blkD u tn).2.2.2.2.1 (at_:Int)) V'.ws).length V'.ws,steps:=V'.steps+1+((phiL u (blkD u tn).1 (idxF (blkD u tn).2.2.2.2.1 (at_:Int)) V'.ws).length:Int) },rfl,by omega,by dsimp only;omega,by dsimp only;omega,by dsimp only;omega,hwb2,tb,hrun,hL,oUL,oRL,kLI,rfl⟩ (by omega) ⟨by rfl,by rfl,by rfl,by rfl,by rfl,trivial⟩
end Go.Proofs.YtlogdohlcdhepaaDoor.base
end
section
set_option maxRecDepth 100000
namespace Go.Proofs.YtlogdohlcdhepaaDoor.base
open Go.Sh gen
theorem standR_met {u:UnT.D}{b:Nat}{l:List Int}{k:Nat}{s s':StS}(h:standR u b k l s=some s'):s'.2.2.2=s.2.2.2+l.length:=by
  induction l generalizing k s with
  | nil=>rw [standR,Option.some.injEq] at h;rw [← h];rfl
  | cons v r ih =>
    rw [standR] at h
    cases hv:standV u b k s v with
    | none=>rw [hv] at h;cases h
    | some s1 =>
      rw [hv,Option.bind_some] at h
      obtain⟨n,_,_,_,e,_⟩:=standV_some hv
      rw [ih h,e,List.length_cons]
      dsimp only
      omega
theorem standB_met {u:UnT.D}{bs:List BlkT.D}{b:Nat}{s s':StS}(h:standB u b bs s=some s'):∀ x∈bs,s.2.2.2+List.length x.1≤s'.2.2.2:=by
  induction bs generalizing b s with
  | nil=>intro x hx;simp at hx
  | cons y r ih =>
    rw [standB] at h
    cases hv:standR u b 0 y.1 (s.1,s.2.1,true,s.2.2.2) with
    | none=>rw [hv] at h;cases h
    | some s1 =>
      rw [hv,Option.bind_some] at h
      have h1:=standR_met hv
      dsimp only at h1
      intro x hx
      rcases List.mem_cons.1 hx with rfl | hx
      · have h2:s1.2.2.2≤s'.2.2.2:=by
          have key:∀ (r:List BlkT.D) (b:Nat) (s1:StS),standB u b r s1=some s'→s1.2.2.2≤s'.2.2.2:=by
            intro r
            induction r with
            | nil=>intro b s1 h;rw [standB,Option.some.injEq] at h;rw [h];exact Nat.le_refl _
            | cons z r ih =>
              intro b s1 h
              rw [standB] at h
              cases hv:standR u b 0 z.1 (s1.1,s1.2.1,true,s1.2.2.2) with
              | none=>rw [hv] at h;cases h
              | some s2 =>
                rw [hv,Option.bind_some] at h
                have h3:=standR_met hv
                have:=ih _ _ h
                dsimp only at h3
                omega
          exact key r _ _ h
        have e:List.length (show List Int from x.1)=List.length x.1:=rfl
        omega
      · have:=ih h x hx
        omega
theorem standF_len {u:UnT.D}{s:StS}(h:standF u=some s){i:Nat}(hi:i < nb u):(vlD u i).length≤nv u:=by
  unfold standF at h
  cases hB:standB u 0 u.2.2.2.1 (List.replicate (nv u) (-1),List.replicate (nv u) 0,true,0) with
  | none=>rw [hB] at h;cases h
  | some s1 =>
    rw [hB] at h
    have h2:=(Option.filter_eq_some_iff.1 h).2
    have h3:=standB_met hB (blkD u i) (blkD_mem hi)
    have h4:s1.2.2.2=nv u:=by
      have:=(Option.filter_eq_some_iff.1 h).1
      simp only [Option.some.injEq] at this
      rw [this];simpa using h2
    have e:(vlD u i).length=List.length (blkD u i).1:=rfl
    dsimp only at h3
    omega
theorem uOk_of {u:UnT.D}(hz:SizeOk u)(hsb:sizeB u=true)(hst:stAll u=true){s:StS}(hs:standF u=some s)(hv:vlAll u s.1=true)(he:enAll u=true)(hl:ldAll u=true)(hn0:0 < nv u)
    (hN:∀ x∈u.2.2.1,-9223372036854775808≤(show Int from x.2.2.2.1)∧(show Int from x.2.2.2.1)≤9223372036854775807):UOk u:=by
  have hsz:=sizeB_iff hsb
  have hS:=standF_ok hs
  have hnx:=nxOk_of he
  have hT:=tkOk_of hz hsb hst hs hv he hl
  have hvv:∀ n < nv u,valF u s.1 n=true:=allF_0.1 hv
  have hprd:∀ i < nb u,prD u i=(aheadF u).getD i []:=fun i hi=>((ledF_at hl hsz.2.2.2 i hi).1).symm
  have hprl:∀ i < nb u,(prD u i).length≤1000000:=fun i hi=>by rw [hprd i hi];exact aheadF_row hnx (by omega) i
  have hmem:∀ x∈u.2.2.1,∃ n < nv u,valD u (n:Nat)=x:=by
    intro x hx
    obtain⟨n,hn,rfl⟩:=List.mem_iff_getElem.1 hx
    exact⟨n,hn,valD_eq hn⟩
  have hval:∀ n < nv u,isOp (valD u (n:Nat)).1=true∧thereF u (usesV (valD u (n:Nat)))=true∧((valD u (n:Nat)).1=20→List.length (valD u (n:Nat)).2.2.2.2.1=1)∧((valD u (n:Nat)).1=1→(0:Int)≤(valD u (n:Nat)).2.2.2.1∧(show Int from (valD u (n:Nat)).2.2.2.1) < 40):=by
    intro n hn
    have:=hvv n hn
    unfold valF at this
    rw [Bool.and_eq_true,Bool.and_eq_true,Bool.and_eq_true] at this
    obtain⟨⟨⟨h1,h2⟩,_⟩,h4⟩:=this
    refine⟨h1,h2,fun e=>?_,fun e=>?_⟩
    · rw [if_pos e] at h4;exact of_decide_eq_true h4
    · rw [if_neg (by rw [e];decide),if_neg (by rw [e];decide),if_pos e] at h4
      rw [Bool.and_eq_true,Bool.and_eq_true] at h4
      exact⟨of_decide_eq_true h4.1.1,of_decide_eq_true h4.1.2⟩
  refine⟨⟨hn0,by omega⟩,⟨hsz.2.2.2,by omega⟩,by omega,fun i hi=>?_,fun x hx h1 h21=>?_,fun x hx h1=>?_,fun x hx h22=>?_,fun x hx h=>?_,fun st hst'=>?_⟩
  · obtain⟨e1,e2⟩:=endsF_iff (allF_0.1 he i hi)
    have hnl:=(nxD_ok hnx hi).1
    have hvl:=standF_len hs hi
    refine⟨?_,(hT.bv i hi).2,hT.os i hi,hT.cd i hi,⟨?_,hprl i hi⟩,fun h3=>?_,fun t ht=>?_⟩
    · have e:(vlD u i).length=List.length (blkD u i).1:=rfl
      omega
    · have e:(nxD u i).length=List.length (blkD u i).2.2.2.1:=rfl
      omega
    · rcases e2 with⟨g1,g2⟩ | ⟨g1,g2,_⟩ | ⟨g1,_⟩
      · rw [if_neg (by rw [g1];decide),g2];decide
      · rw [if_pos g1,g2];decide
      · exact absurd g1 h3
    · have htr:=e1 t ht
      obtain⟨q,rfl⟩:∃ q:Nat,t=(q:Int):=⟨t.toNat,by omega⟩
      have hq:q < nb u:=by omega
      rw [Int.toNat_natCast]
      have hin:(i:Int)∈prD u q:=by rw [hprd q hq];exact (aheadF_iff hnx hq).2 ⟨hi,ht⟩
      have hne:prD u q≠[]:=fun e=>by rw [e] at hin;cases hin
      refine⟨htr.1,htr.2,hne,fun v hv' h21=>?_⟩
      have hvr:=(hT.bv q hq).2 v hv'
      have hlen:=hT.ph q hq v hv' h21
      obtain⟨n,rfl⟩:∃ n:Nat,v=(n:Int):=⟨v.toNat,by omega⟩
      have hn:n < nv u:=by omega
      have hidx:idxF (prD u q) (i:Int) < (prD u q).length:=by
        have:=idxF_lt (l:=prD u q) (f:=(i:Int)) hne
        exact this
      have hle:=hprl q hq
      have hall:=hT.us n hn
      have e1:(show List Int from (valD u (n:Int)).2.2.2.2.1).length=List.length (valD u (n:Int)).2.2.2.2.1:=rfl
      have hia:idxF (prD u q) (i:Int) < (show List Int from (valD u (n:Int)).2.2.2.2.1).length:=by omega
      have hz2:=hall _ (by
        unfold usesV
        rw [usesF_eq,h21]
        exact List.mem_append_right _ (by simpa using getD_mem hia))
      exact⟨by rw [hlen];exact hidx,by omega,hz2.1,hz2.2⟩
  · obtain⟨n,hn,rfl⟩:=hmem x hx
    obtain⟨g1,g2,g3,_⟩:=hval n hn
    unfold isOp at g1
    rw [Bool.and_eq_true] at g1
    have o1:=of_decide_eq_true g1.1
    have o2:=of_decide_eq_true g1.2
    have hal:=hT.al n hn
    have hul:=usesF_len (valD u (n:Nat)).1 (valD u (n:Nat)).2.1 (valD u (n:Nat)).2.2.1 (valD u (n:Nat)).2.2.2.2.1
    have hul2:(usesV (valD u (n:Nat))).length≤List.length (valD u (n:Nat)).2.2.2.2.1+2:=hul
    have key:∀ o:Int,1≤o→o≠1→2≤o:=fun o a b=>by omega
    exact⟨⟨key _ o1 h1,o2,h21⟩,hN _ hx,hal,fun e=>by rw [g3 e];omega,thereF_mem g2,by omega⟩
  · obtain⟨n,hn,rfl⟩:=hmem x hx
    have:=(hval n hn).2.2.2 h1
    exact⟨this.1,by have:=this.2;exact Int.le_trans (Int.le_of_lt this) (by decide)⟩
  · obtain⟨n,hn,rfl⟩:=hmem x hx
    exact hT.us n hn _ (by unfold usesV;rw [usesF_eq,h22];simp [partsF,isTwo,isOne])
  · obtain⟨n,hn,rfl⟩:=hmem x hx
    exact hT.lv n hn (by unfold lvs;rcases h with h | h <;> simp [h])
  · have:=hT.st st hst'
    rw [stD_eq hst'] at this
    refine⟨by have:=this.1;omega,fun f hf=>?_⟩
    obtain⟨g1,g2,g3,g4⟩:=this.2 f hf
    exact⟨by omega,by omega,g3,g4⟩
end Go.Proofs.YtlogdohlcdhepaaDoor.base
end
section
set_option maxRecDepth 100000
namespace Go.Proofs.YtlogdohlcdhepaaDoor.base
open Go.Sh gen
abbrev Tg:=Nat→Nat
variable {T T':Tg}{m m1 m2:Mem}{i:Nat}{is js:List Nat}
def Ag (T T':Tg)(m:Mem):Prop:=∀ f,f < m.next→T' f=T f
def KT (T:Tg)(is:List Nat)(m m1:Mem):Prop:=∃ fs,Keeps m m1 fs∧∀ f∈fs,f < m.next→T f∈is
def DQ (T:Tg)(m:Mem)(f:Nat):Prop:=T f=0∧f < m.next
def OwnT (T:Tg)(i:Nat)(m:Mem)(b:Nat)(cells:List Value)(e:TypeId):Prop:=∃ fam,Own m b cells e fam∧T fam=i
def SlT (T:Tg)(i:Nat)(m:Mem)(ao:Option Addr)(n:Nat)(cells:List Value)(e z:Nat):Prop:=∃ fam,Sl m ao n cells e z fam∧(ao≠none→T fam=i)
def SrT (T:Tg)(i:Nat)(m:Mem)(ao:Option Addr)(n:Nat)(cells:List Value)(e z:Nat):Prop:=∃ fam,Sr m ao n cells e z fam∧(ao≠none→T fam=i)
theorem Ag.refl:Ag T T m:=fun _ _=>rfl
theorem Ag.trans {T2:Tg}(h:Ag T T' m)(k:Ag T' T2 m1)(hn:m.next≤m1.next):Ag T T2 m:=fun f hf=>(k f (by omega)).trans (h f hf)
theorem KT.le (k:KT T is m m1):m.next≤m1.next:=by obtain⟨fs,kk,_⟩:=k;exact kk.1
theorem KT.refl:KT T is m m:=⟨[],.refl _ _,by simp⟩
theorem KT.of (k:Keeps m m1 []):KT T is m m1:=⟨[],k,by simp⟩
theorem KT.mono (k:KT T is m m1)(h:∀ t∈is,t∈js):KT T js m m1:=by
  obtain⟨fs,kk,hf⟩:=k
  exact⟨fs,kk,fun f h1 h2=>h _ (hf f h1 h2)⟩
theorem KT.trans (h:KT T is m m1)(a:Ag T T' m)(k:KT T' is m1 m2):KT T is m m2:=by
  obtain⟨fs,kk,hf⟩:=h
  obtain⟨gs,kk2,hg⟩:=k
  refine⟨fs++gs,(kk.mono (fun q hq=>List.mem_append_left _ hq)).trans (kk2.mono (fun q hq=>List.mem_append_right _ hq)),fun f hm hl=>?_⟩
  rcases List.mem_append.1 hm with hm | hm
  · exact hf f hm hl
  · rw [← a f hl];exact hg f hm (by have:=kk.1;omega)
theorem OwnT.keep {b e:Nat}{cells:List Value}(h:OwnT T i m b cells e)(k:KT T is m m1)(a:Ag T T' m)(hi:i∉is):OwnT T' i m1 b cells e:=by
  obtain⟨fam,o,rfl⟩:=h
  obtain⟨fs,kk,hf⟩:=k
  exact⟨fam,o.keep kk (fun hm=>hi (hf _ hm o.flt)),a _ o.flt⟩
theorem SlT.keep {ao:Option Addr}{n e z:Nat}{cells:List Value}(h:SlT T i m ao n cells e z)(k:KT T is m m1)(a:Ag T T' m)(hi:i∉is):SlT T' i m1 ao n cells e z:=by
  obtain⟨fam,s,ht⟩:=h
  obtain⟨fs,kk,hf⟩:=k
  exact⟨fam,s.keepz kk (fun hn hm=>hi (by rw [← ht hn];exact hf _ hm (s.sr.flt hn))),fun hn=>(a _ (s.sr.flt hn)).trans (ht hn)⟩
theorem SrT.keep {ao:Option Addr}{n e z:Nat}{cells:List Value}(h:SrT T i m ao n cells e z)(k:KT T is m m1)(a:Ag T T' m)(hi:i∉is):SrT T' i m1 ao n cells e z:=by
  obtain⟨fam,s,ht⟩:=h
  obtain⟨fs,kk,hf⟩:=k
  exact⟨fam,s.keep kk (fun hn hm=>hi (by rw [← ht hn];exact hf _ hm (s.flt hn))),fun hn=>(a _ (s.flt hn)).trans (ht hn)⟩
theorem dat_keep {t:Ty}{d:t.D}{cs:List Value}(h:AtQ (DQ T m) m t d cs)(k:KT T is m m1)(a:Ag T T' m)(hi:0∉is):AtQ (DQ T' m1) m1 t d cs:=by
  obtain⟨fs,kk,hf⟩:=k
  have hn:=kk.1
  exact (h.keep kk (fun f hm hq=>hi (by rw [← hq.1];exact hf f hm hq.2))).mono (fun f hq=>⟨(a f hq.2).trans hq.1,by have:=hq.2;omega⟩)
theorem ints_keep {ao:Option Addr}{l:List Int}(h:IntsAt (DQ T m) m ao l)(k:KT T is m m1)(a:Ag T T' m)(hi:0∉is):IntsAt (DQ T' m1) m1 ao l:=by
  obtain⟨fs,kk,hf⟩:=k
  have hn:=kk.1
  obtain⟨f,hr,hq⟩:=h
  have hq':l.length≠0→f∉fs:=fun hz hm=>hi (by rw [← (hq hz).1];exact hf f hm (hq hz).2)
  exact⟨f,hr.keep0 kk hq',fun hz=>⟨(a f (hq hz).2).trans (hq hz).1,by have:=(hq hz).2;omega⟩⟩
theorem new_T (T:Tg)(i:Nat){cs:List Value}{e:TypeId}{m1:Mem}(hr:m.new cs e=m1):∃ T',Ag T T' m∧OwnT T' i m1 m.next cs e∧Keeps m m1 []∧m.next < m1.next∧∀ f,T' f=T f∨T' f=i:=by
  obtain⟨o,k,n⟩:=new_own hr
  exact⟨fun f=>if f=m.next then i else T f,fun f hf=>if_neg (by omega),⟨_,o,if_pos rfl⟩,k,n,fun f=>by simp only;split <;> simp⟩
theorem store_T {l off:Nat}{cells vs:List Value}{e:TypeId}{r:Option Mem}(hr:storeRow m ⟨l,off,none⟩ vs=r)(h:OwnT T i m l cells e)(hk:off+vs.length≤cells.length)(h1:vs.all one=true) :
    ∃ m1,r=some m1∧OwnT T i m1 l (over cells off vs) e∧KT T [i] m m1:=by
  obtain⟨fam,o,ht⟩:=h
  obtain⟨m1,h2,o1,k⟩:=store_own hr o hk h1
  exact⟨m1,h2,⟨fam,o1,ht⟩,[fam],k,by simp;intro _;exact ht⟩
section
variable {P:Program}
theorem app_T {ty e e0:TypeId}{z bt n k:Nat}{ao:Option Addr}{cells news cs:List Value}{r:Option (Value × Mem)}(hr:sappend P ty (m.new cs e0) (.slice ao n n) news k=r)(ht:P.underlying ty=some (.slice e))(ha:apOk P e z bt=true)
    (h:SlT T i m ao n cells e z) (hk:k≠0) (hnews:news.length=k * z) (h1:news.all one=true) (hb:(n+k) * bt≤140737488355328) (h63:n+k≤9223372036854775807) :
    ∃ m1 b' T',r=some (.slice (some ⟨b',0,none⟩) (n+k) (n+k),m1)∧SlT T' i m1 (some ⟨b',0,none⟩) (n+k) (cells++news) e z∧Ag T T' m∧KT T [i] m m1∧∀ f,T' f=T f∨T' f=i:=by
  obtain⟨fam,s,htg⟩:=h
  obtain⟨m1,b',fam',h2,o,kk,hf,hlt,hne⟩:=app_slz hr ht ha s hk hnews h1 hb h63
  refine⟨m1,b',fun f=>if m.next≤f then i else T f,h2,⟨fam',Sl.of o (by rw [List.length_append,Nat.add_mul,s.1,hnews]),fun _=>?_⟩,fun f hf=>if_neg (by omega),⟨_,kk,fun f hm hl=>?_⟩,fun f=>by simp only;split <;> simp⟩
  · rcases hf with⟨hn,e⟩ | hn
    · simp only
      split
      · rfl
      · rw [e];exact htg hn
    · simp only [if_pos hn]
  · split at hm
    · simp at hm
    · rename_i hn
      simp at hm
      rw [hm]
      simpa using htg hn
theorem appr_T {ty e e0:TypeId}{z bt n k:Nat}{ao:Option Addr}{cells news cs:List Value}{r:Option (Value × Mem)}(hr:sappend P ty (m.new cs e0) (.slice ao n n) news k=r)(ht:P.underlying ty=some (.slice e))(ha:apOk P e z bt=true)
    (h:SrT T i m ao n cells e z) (hk:k≠0) (hnews:news.length=k * z) (h1:news.all one=true) (hb:(n+k) * bt≤140737488355328) (h63:n+k≤9223372036854775807) :
    ∃ m1 ao' T',r=some (.slice ao' (n+k) (n+k),m1)∧SrT T' i m1 ao' (n+k) (cells++news) e z∧ao'≠none∧Ag T T' m∧KT T [i] m m1∧∀ f,T' f=T f∨T' f=i:=by
  obtain⟨fam,s,htg⟩:=h
  obtain⟨m1,a',fam',h2,o,kk,hf,hne1,hfe⟩:=app_sr_new hr ht ha s hk hnews h1 hb h63
  refine⟨m1,a',fun f=>if m.next≤f then i else T f,h2,⟨fam',o,fun _=>?_⟩,hne1,fun f hf=>if_neg (by omega),⟨_,kk,fun f hm hl=>?_⟩,fun f=>by simp only;split <;> simp⟩
  · rcases hf with⟨hn,e⟩ | hn
    · simp only
      split
      · rfl
      · rw [e];exact htg hn
    · simp only [if_pos hn]
  · split at hm
    · simp at hm
    · rename_i hn
      simp at hm
      rw [hm]
      simpa using htg hn
end
def RowT (T:Tg)(m:Mem)(e:TypeId)(t:Ty)(l:List t.D)(ao:Option Addr)(i:Nat):Prop:=
  ∃ css:List (List Value),css.length=l.length∧(∀ (j:Nat) d c,l[j]?=some d→css[j]?=some c→AtQ (DQ T m) m t d c)∧SlT T i m ao l.length css.flatten e t.size
theorem RowT.keep {e:TypeId}{t:Ty}{l:List t.D}{ao:Option Addr}(h:RowT T m e t l ao i)(k:KT T is m m1)(a:Ag T T' m)(hi:i∉is)(h0:0∉is):RowT T' m1 e t l ao i:=by
  obtain⟨css,h1,h2,h3⟩:=h
  exact⟨css,h1,fun j d c hd hc=>dat_keep (h2 j d c hd hc) k a h0,h3.keep k a hi⟩
theorem RowT.nil (T:Tg)(m:Mem)(e:TypeId)(t:Ty)(i:Nat):RowT T m e t [] none i:=⟨[],rfl,by simp,0,Sl.nil _ _ _ _,by simp⟩
theorem AtQ.len {Q:Nat→Prop}{t:Ty}{d:t.D}{c:List Value}(h:AtQ Q m t d c):c.length=t.size:=h.at_.len
section
variable {P:Program}
theorem RowT.app {ty e e0:TypeId}{t:Ty}{bt:Nat}{ao:Option Addr}{l:List t.D}{d:t.D}{c:List Value}{cs:List Value}{r:Option (Value × Mem)}(h:RowT T m e t l ao i)(hi:i≠0)(hd:AtQ (DQ T m) m t d c)(hr:sappend P ty (m.new cs e0) (.slice ao l.length l.length) c 1=r)(ht:P.underlying ty=some (.slice e))(ha:apOk P e t.size bt=true)
    (h1:c.all one=true) (hb:(l.length+1) * bt≤140737488355328) (h63:l.length+1≤9223372036854775807) :
    ∃ m1 b' T',r=some (.slice (some ⟨b',0,none⟩) (l.length+1) (l.length+1),m1)∧RowT T' m1 e t (l++[d]) (some ⟨b',0,none⟩) i∧Ag T T' m∧KT T [i] m m1∧∀ f,T' f=T f∨T' f=i:=by
  obtain⟨css,h2,h3,h4⟩:=h
  obtain⟨m1,b',T',he,s,a,k,tb⟩:=app_T hr ht ha h4 (by omega) (by rw [AtQ.len hd];omega) h1 hb h63
  refine⟨m1,b',T',he,⟨css++[c],by simp [h2],fun j d' c' hd' hc'=>?_,?_⟩,a,k,tb⟩
  · have h0:(0:Nat)∉[i]:=by simp;omega
    by_cases hj:j < l.length
    · rw [List.getElem?_append_left hj] at hd'
      rw [List.getElem?_append_left (by omega)] at hc'
      exact dat_keep (h3 j d' c' hd' hc') k a h0
    · have hjl:j < (l++[d]).length:=(List.getElem?_eq_some_iff.1 hd').1
      have e:j=l.length:=by simp at hjl;omega
      subst e
      rw [List.getElem?_append_right (Nat.le_refl _)] at hd'
      rw [List.getElem?_append_right (by omega),h2] at hc'
      simp at hd' hc'
      subst hd' hc'
      exact dat_keep hd k a h0
  · rw [show (l++[d]).length=l.length+1 by simp,List.flatten_append,List.flatten_singleton]
    exact s
end
theorem flat_over {css:List (List Value)}{z p k:Nat}{v:Value}(h:∀ x∈css,x.length=z)(hp:p < css.length)(hk:k < z):over css.flatten (p * z+k) [v]=(css.set p (css[p].set k v)).flatten:=by
  induction css generalizing p with
  | nil=>simp at hp
  | cons a r ih =>
    have ha:=h a (by simp)
    cases p with
    | zero =>
      simp only [Nat.zero_mul,Nat.zero_add,List.flatten_cons,List.set_cons_zero,List.getElem_cons_zero,over,List.length_cons,List.length_nil]
      rw [List.take_append_of_le_length (by omega),List.drop_append_of_le_length (by omega),List.set_eq_take_append_cons_drop,if_pos (by omega)]
      simp
    | succ p =>
      have:=ih (p:=p) (fun x hx=>h x (by simp [hx])) (by simpa using hp)
      simp only [List.flatten_cons,List.set_cons_succ,List.getElem_cons_succ,over,List.length_cons,List.length_nil] at this ⊢
      rw [← this,show (p+1) * z+k=a.length+(p * z+k) by rw [ha,Nat.add_mul];omega,List.take_length_add_append,show a.length+(p * z+k)+(0+1)=a.length+(p * z+k+(0+1)) by omega,List.drop_length_add_append]
      simp
end Go.Proofs.YtlogdohlcdhepaaDoor.base
end
section
set_option maxRecDepth 100000
namespace Go.Proofs.YtlogdohlcdhepaaDoor.base
open Go.Sh gen
variable {S:Sums}{T T':Tg}{m m1 m2:Mem}{is js:List Nat}
structure Us where
  vals:List ValT.D
  blks:List BlkT.D
  sts:List StT.D
  known:List Int
  bv:List Int
  bp:List Int
  at_:Nat
def AtT (T:Tg)(m:Mem)(ab x:Nat):Prop:=ab=0∨OwnT T 9 m ab [.int .i64 x] 3
theorem AtT.keep {ab x:Nat}(h:AtT T m ab x)(k:KT T is m m1)(a:Ag T T' m)(hi:9∉is):AtT T' m1 ab x:=h.imp id (fun o=>o.keep k a hi)
structure UM (T:Tg)(m:Mem)(ub kb bb ab:Nat)(s:Us):Prop where
  u:∃ va ba sa,OwnT T 1 m ub [.int .i64 1,.int .i64 2,.slice va s.vals.length s.vals.length,.slice ba s.blks.length s.blks.length,.slice sa s.sts.length s.sts.length] 34∧RowT T m 38 ValT s.vals va 2∧RowT T m 40 BlkT s.blks ba 3∧RowT T m 67 StT s.sts sa 4
  k:∃ ka,OwnT T 5 m kb [.slice ka s.known.length s.known.length] 36∧SrT T 6 m ka s.known.length (ints s.known) 3 1
  b:∃ va pa,OwnT T 7 m bb [.slice va s.bv.length s.bv.length,.int .i64 0,.int .i64 0,.slice none 0 0,.slice pa s.bp.length s.bp.length,.int .i64 0] 40∧SlT T 8 m va s.bv.length (ints s.bv) 3 1∧IntsAt (DQ T m) m pa s.bp
  a:AtT T m ab s.at_
structure UC (T:Tg)(m:Mem)(ub kb bb ab rb nx px sx:Nat)(ops sh:List Int)(n:Int):Prop where
  r:∃ oa sa,OwnT T 10 m rb [.slice oa ops.length ops.length,.slice sa sh.length sh.length,.int .i64 n] 47∧IntsAt (DQ T m) m oa ops∧IntsAt (DQ T m) m sa sh
  cn:OwnT T 10 m nx [.func (.func 32) #[] #[.pointer (some ⟨ab,0,none⟩),.pointer (some ⟨rb,0,none⟩)]] 86
  cp:OwnT T 10 m px [.func (.func 31) #[] #[.pointer (some ⟨ub,0,none⟩),.pointer (some ⟨bb,0,none⟩)]] 85
  cs:OwnT T 10 m sx [.func (.func 33) #[] #[.pointer (some ⟨ub,0,none⟩),.pointer (some ⟨nx,0,none⟩),.pointer (some ⟨kb,0,none⟩)]] 87
  z:ab≠0
variable {ub kb bb ab rb nx px sx:Nat}{ops sh:List Int}{n:Int}{s:Us}
theorem UC.keep (h:UC T m ub kb bb ab rb nx px sx ops sh n)(k:KT T is m m1)(a:Ag T T' m)(h0:0∉is)(hi:10∉is):UC T' m1 ub kb bb ab rb nx px sx ops sh n:=by
  obtain⟨oa,sa,r1,r2,r3⟩:=h.r
  exact⟨⟨oa,sa,r1.keep k a hi,ints_keep r2 k a h0,ints_keep r3 k a h0⟩,h.cn.keep k a hi,h.cp.keep k a hi,h.cs.keep k a hi,h.z⟩
structure Nq (S:Sums):Prop where
  pick:S 16=[]
  f1:S 31=[]
  f2:S 32=[]
  f3:S 33=[]
  f4:S 34=[]
  f5:S 35=[]
  unit:S 13=[]
theorem pickb_run (hS:S 16=[])(x k:Int)(hk:0 < k)(hk2:k < 4611686018427387904):callw Tryd.prog TT S 16 [.int .i64 x,.int .i64 k] m=some (.int .i64 (x % k),m):=by
  have hx:=Int.emod_nonneg x (by omega:k≠0)
  have hx2:=Int.emod_lt_of_pos x hk
  have hk0:k≠0:=by omega
  have hw:IntKind.i64.wrap (x % k)=x % k:=wrap_i64 (by omega) (by omega)
  have e:=emod_tmod x k hk
  refine fn_eq 5 [9] k16 hS rfl ?_
  by_cases h:x.tmod k < 0
  · rw [if_pos h] at e
    rw [e] at hw ⊢
    simp [hk0,h,hw]
  · rw [if_neg h] at e
    rw [e]
    simp [hk0,h]
def nextP (ops:List Int)(k:Int)(s:Us):Us × Int:=if s.at_ < ops.length then ({ s with at_:=s.at_+1 },ops.getD s.at_ 0 % k) else (s,0)
theorem nextP_lt {k:Int}(hk:0 < k):0≤(nextP ops k s).2∧(nextP ops k s).2 < k:=by
  unfold nextP
  split
  · exact⟨Int.emod_nonneg _ (by omega),Int.emod_lt_of_pos _ hk⟩
  · exact⟨Int.le_refl _,hk⟩
theorem nextP_is (ops:List Int)(k:Int)(s:Us):∃ a,(nextP ops k s).1={ s with at_:=a }:=by
  unfold nextP
  split
  · exact⟨_,rfl⟩
  · exact⟨s.at_,rfl⟩
theorem UM.keep (h:UM T m ub kb bb ab s)(k:KT T is m m1)(a:Ag T T' m)(hi:∀ t∈is,9 < t):UM T' m1 ub kb bb ab s:=by
  have n:∀ t,t≤9→t∉is:=fun t ht hm=>by have:=hi t hm;omega
  obtain⟨va,ba,sa,u1,u2,u3,u4⟩:=h.u
  obtain⟨ka,k1,k2⟩:=h.k
  obtain⟨va',pa,b1,b2,b3⟩:=h.b
  exact⟨⟨va,ba,sa,u1.keep k a (n _ (by omega)),u2.keep k a (n _ (by omega)) (n _ (by omega)),u3.keep k a (n _ (by omega)) (n _ (by omega)),u4.keep k a (n _ (by omega)) (n _ (by omega))⟩,⟨ka,k1.keep k a (n _ (by omega)),k2.keep k a (n _ (by omega))⟩,⟨va',pa,b1.keep k a (n _ (by omega)),b2.keep k a (n _ (by omega)),ints_keep b3 k a (n _ (by omega))⟩,h.a.keep k a (n _ (by omega))⟩
theorem next_run (hN:Nq S)(h:UM T m ub kb bb ab s)(hc:UC T m ub kb bb ab rb nx px sx ops sh n)(hat:s.at_≤ops.length)(hol:ops.length≤9223372036854775807){k:Int}(hk:0 < k)(hk2:k < 4611686018427387904) :
    ∃ v m1,callw Tryd.prog TT S 32 [.int .i64 k,.pointer (some ⟨ab,0,none⟩),.pointer (some ⟨rb,0,none⟩)] m=some (v,m1)∧v=.int .i64 (nextP ops k s).2∧UM T m1 ub kb bb ab (nextP ops k s).1∧UC T m1 ub kb bb ab rb nx px sx ops sh n∧KT T [9] m m1:=by
  obtain⟨fam,oA,tA⟩:=h.a.resolve_left hc.z
  obtain⟨oa,sa,⟨fr,oR,tR⟩,hO,hSh⟩:=hc.r
  have la:=oA.load1 (off:=0) rfl
  have lr:=oR.load1 (off:=0) rfl
  refine fn_w 5 [9] k32 hN.f2 rfl ?_
  unfold nextP
  by_cases hlt:s.at_ < ops.length
  · have hge:¬ (ops.length:Int)≤(s.at_:Int):=by omega
    have hge':¬ ops.length≤s.at_:=by omega
    rw [if_pos hlt]
    obtain⟨x,hx⟩:∃ x,ops.getD s.at_ 0=x:=⟨_,rfl⟩
    rw [hx]
    obtain⟨A,hA⟩:∃ A,s.at_+1=A:=⟨_,rfl⟩
    have wa:IntKind.i64.wrap ((s.at_:Int)+1)=(A:Int):=by rw [wrap_i64 (by omega) (by omega)];omega
    have wb:IntKind.i64.wrap ((A:Int) - 1)=(s.at_:Int):=by rw [wrap_i64 (by omega) (by omega)];omega
    simp [-Int.natCast_add,load_of ld3,fieldAddr_of fa47_0,load_of ld36,len_slice u36,store_of sz3,la,lr,hge,wa]
    generalize hra:storeRow _ _ _=ra
    obtain⟨m1,rfl,oA1,kA⟩:=store_T hra ⟨fam,oA,tA⟩ (by simp) (by simp [one_int])
    simp [over] at oA1
    have hc1:=hc.keep kA Ag.refl (by simp) (by simp)
    obtain⟨oa1,sa1,⟨fr1,oR1,_⟩,hO1,_⟩:=hc1.r
    obtain⟨fam1,oA1',tA1⟩:=oA1
    have la1:=oA1'.load1 (off:=0) rfl
    have lr1:=oR1.load1 (off:=0) rfl
    obtain⟨ob,hob,lo⟩:=hO1.get hlt
    have im:(s.at_:Int)≤9223372036854775807:=by omega
    have il:(s.at_:Int) < ops.length:=by omega
    rw [hx] at lo
    have pk:=pickb_run (m:=m1) hN.pick x k hk hk2
    simp [-Int.natCast_add,load_of ld3,fieldAddr_of fa47_0,load_of ld36,index_slice u36 sz3,la1,lr1,wb,hob,lo,im,hlt,pk]
    rw [hA]
    obtain⟨va,ba,sa',u1,u2,u3,u4⟩:=h.u
    obtain⟨ka,k1,k2⟩:=h.k
    obtain⟨va',pa,b1,b2,b3⟩:=h.b
    refine⟨⟨⟨va,ba,sa',u1.keep kA Ag.refl (by simp),u2.keep kA Ag.refl (by simp) (by simp),u3.keep kA Ag.refl (by simp) (by simp),u4.keep kA Ag.refl (by simp) (by simp)⟩,⟨ka,k1.keep kA Ag.refl (by simp),k2.keep kA Ag.refl (by simp)⟩,⟨va',pa,b1.keep kA Ag.refl (by simp),b2.keep kA Ag.refl (by simp),ints_keep b3 kA Ag.refl (by simp)⟩,Or.inr ⟨fam1,oA1',tA1⟩⟩,hc1,kA⟩
  · have hge:(ops.length:Int)≤(s.at_:Int):=by omega
    have hge':ops.length≤s.at_:=by omega
    rw [if_neg hlt]
    simp [-Int.natCast_add,load_of ld3,fieldAddr_of fa47_0,load_of ld36,len_slice u36,la,lr,hge]
    exact⟨h,hc,KT.refl⟩
abbrev vargs (d:ValT.D):List Int:=d.2.2.2.2.1
theorem ints_dat {Q:Nat→Prop}{ao:Option Addr}{l:List Int}(h:IntsAt Q m ao l):AtQ Q m (.slice 3 (.int .i64)) l [.slice ao l.length l.length]:=by
  obtain⟨f,hr,hq⟩:=h
  refine⟨ao,l.map fun x=>[Value.int .i64 x],f,rfl,by simp,fun i d c hd hc=>?_,?_,hq⟩
  · rw [List.getElem?_map,hd] at hc
    simp at hc
    exact hc.symm
  · have e:(l.map fun x=>[Value.int .i64 x]).flatten=ints l:=by
      clear hr hq
      induction l with
      | nil=>rfl
      | cons a l ih=>simp only [List.map_cons,List.flatten_cons,ih,List.cons_append,List.nil_append]
    rw [e];exact hr
theorem val_dat {Q:Nat→Prop}{d:ValT.D}{ao:Option Addr}(h:IntsAt Q m ao (vargs d)):AtQ Q m ValT d (valC d ao):=
  ⟨[_],_,rfl,rfl,[_],_,rfl,rfl,[_],_,rfl,rfl,[_],_,rfl,rfl,[_],_,rfl,ints_dat h,[_],[],rfl,rfl,rfl⟩
def putP (d:ValT.D)(s:Us):Us:={ s with vals:=s.vals++[d],bv:=s.bv++[(s.vals.length:Int)] }
set_option maxHeartbeats 1000000 in
theorem uput_run (hN:Nq S)(hT:∀ f,T f≤10)(h:UM T m ub kb bb ab s)(hnv:s.vals.length≤1000)(hbv:s.bv.length≤1000){d:ValT.D}{aa:Option Addr}(hd:IntsAt (DQ T m) m aa (vargs d)) :
    ∃ v m1,callw Tryd.prog TT S 31 [.agg (valC d aa).toArray,.pointer (some ⟨ub,0,none⟩),.pointer (some ⟨bb,0,none⟩)] m=some (v,m1)∧v=.int .i64 (s.vals.length:Nat)∧∃ T',UM T' m1 ub kb bb ab (putP d s)∧Ag T T' m∧KT T [1,2,7,8] m m1∧∀ f,T' f≤10:=by
  obtain⟨T1,a1,oB,k1,n1,w1⟩:=new_T (m:=m) T 10 (cs:=valC d aa) (e:=38) rfl
  have kt1:KT T [] m (m.new (valC d aa) 38):=KT.of k1
  have h1:=h.keep kt1 a1 (by simp)
  have hd1:=ints_keep hd kt1 a1 (by simp)
  obtain⟨va,ba,sa,u1,u2,u3,u4⟩:=h1.u
  obtain⟨ka,q1,q2⟩:=h1.k
  obtain⟨va',pa,b1,b2,b3⟩:=h1.b
  have oA:=h1.a
  refine fn_w 5 [] k31 hN.f1 rfl ?_
  simp [-Int.natCast_add,-w31_1,box_of b38]
  generalize m.new _ _=m1 at *
  obtain⟨fu,ou,tu⟩:=u1
  obtain⟨fb,ob,tb⟩:=oB
  have lU:=ou.load1 (off:=2) rfl
  have lB:loadRow m1 ⟨m.next,0,none⟩ 6=_:=ob.load (off:=0) 6 (by simp)
  have ew:window (valC d aa) 0 6=valC d aa:=rfl
  rw [ew] at lB
  have hlen:d.2.2.2.2.1.length=(vargs d).length:=rfl
  simp [-Int.natCast_add,-w31_2,fieldAddr_of fa34_2,load_of ld30,load_agg ld38,buildSlice_of u30 bs38 rfl,append_s u30 sz38,lU,lB]
  generalize hra:sappend _ _ _ _ _ _=ra
  obtain⟨m2,bv2,T2,rfl,r2,a2,k2,w2⟩:=RowT.app (c:=valC d aa) u2 (by omega) (val_dat hd1) hra u30 ap38 (by simp [one_int,one_slice]) (by omega) (by omega)
  clear hra
  have u12:OwnT T2 1 m2 ub _ _:=OwnT.keep ⟨fu,ou,tu⟩ k2 a2 (by simp)
  simp [-Int.natCast_add,-w31_2,fieldAddr_of fa34_2,store_of sz30]
  generalize hrb:storeRow _ _ _=rb
  obtain⟨m3,rfl,u13,k3⟩:=store_T hrb u12 (by simp) (by simp [one_slice])
  clear hrb
  simp [over] at u13
  have ek:KT T [1,2,7,8] m m3:=(((kt1.mono (by simp)).trans a1 (k2.mono (by simp))).trans (a1.trans a2 kt1.le) (k3.mono (by simp)))
  have e2:Ag T T2 m:=a1.trans a2 kt1.le
  obtain⟨N,hN1⟩:∃ N,s.vals.length+1=N:=⟨_,rfl⟩
  have r3:=r2.keep k3 Ag.refl (by simp) (by simp)
  have b13:=(b1.keep k2 a2 (by simp)).keep k3 Ag.refl (by simp)
  have b23:=(b2.keep k2 a2 (by simp)).keep k3 Ag.refl (by simp)
  have b33:=ints_keep (ints_keep b3 k2 a2 (by simp)) k3 Ag.refl (by simp)
  have q13:=(q1.keep k2 a2 (by simp)).keep k3 Ag.refl (by simp)
  have q23:=(q2.keep k2 a2 (by simp)).keep k3 Ag.refl (by simp)
  have u33:=(u3.keep k2 a2 (by simp) (by simp)).keep k3 Ag.refl (by simp) (by simp)
  have u43:=(u4.keep k2 a2 (by simp) (by simp)).keep k3 Ag.refl (by simp) (by simp)
  have oA3:=(oA.keep k2 a2 (by simp)).keep k3 Ag.refl (by simp)
  obtain⟨fu3,ou3,tu3⟩:=u13
  obtain⟨fb3,ob3,tb3⟩:=b13
  have lU3:=ou3.load1 (off:=2) rfl
  have lB3:=ob3.load1 (off:=0) rfl
  rw [hN1] at lU3
  have wN:IntKind.i64.wrap ((N:Int) - 1)=(s.vals.length:Int):=by rw [wrap_i64 (by omega) (by omega)];omega
  simp [-Int.natCast_add,-w31_3,fieldAddr_of fa34_2,load_of ld30,fieldAddr_of fa40_0,load_of ld36,len_slice u30,buildSlice_of u36 bs3 rfl,append_s u36 sz3,lU3,lB3,wN]
  generalize hra:sappend _ _ _ _ _ _=ra
  obtain⟨m4,bv4,T4,rfl,r4,a4,k4,w4⟩:=app_T hra u36 ap3 b23 (by omega) (by simp) (by simp [one_int]) (by omega) (by omega)
  clear hra
  have b14:OwnT T4 7 m4 bb _ _:=OwnT.keep ⟨fb3,ob3,tb3⟩ k4 a4 (by simp)
  simp [-Int.natCast_add,-w31_3,fieldAddr_of fa40_0,store_of sz36]
  generalize hrb:storeRow _ _ _=rb
  obtain⟨m5,rfl,b15,k5⟩:=store_T hrb b14 (by simp) (by simp [one_slice])
  clear hrb
  simp [over] at b15
  have u15:OwnT T4 1 m5 ub _ _:=(OwnT.keep ⟨fu3,ou3,tu3⟩ k4 a4 (by simp)).keep k5 Ag.refl (by simp)
  have u15c:=u15
  obtain⟨fu5,ou5,tu5⟩:=u15
  have lU5:=ou5.load1 (off:=2) rfl
  rw [hN1] at lU5
  simp [-Int.natCast_add,fieldAddr_of fa34_2,load_of ld30,len_slice u30,lU5,wN]
  refine⟨T4,⟨⟨some ⟨bv2,0,none⟩,ba,sa,?_,(r3.keep k4 a4 (by simp) (by simp)).keep k5 Ag.refl (by simp) (by simp),(u33.keep k4 a4 (by simp) (by simp)).keep k5 Ag.refl (by simp) (by simp),(u43.keep k4 a4 (by simp) (by simp)).keep k5 Ag.refl (by simp) (by simp)⟩,⟨ka,(q13.keep k4 a4 (by simp)).keep k5 Ag.refl (by simp),(q23.keep k4 a4 (by simp)).keep k5 Ag.refl (by simp)⟩,⟨some ⟨bv4,0,none⟩,pa,?_,?_,ints_keep (ints_keep b33 k4 a4 (by simp)) k5 Ag.refl (by simp)⟩,(oA3.keep k4 a4 (by simp)).keep k5 Ag.refl (by simp)⟩,e2.trans a4 ek.le,((ek.trans e2 (k4.mono (by simp))).trans (e2.trans a4 ek.le) (k5.mono (by simp))),fun f=>by have:=hT f;have:=w1 f;have:=w2 f;have:=w4 f;omega⟩
  · simpa [putP] using u15c
  · simpa [putP] using b15
  · simpa [putP] using r4.keep k5 Ag.refl (by simp)
end Go.Proofs.YtlogdohlcdhepaaDoor.base
end
