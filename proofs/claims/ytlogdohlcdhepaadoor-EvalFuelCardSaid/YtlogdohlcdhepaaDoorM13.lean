/- This text proves what eval.Run answers, Zb5 the abstract run, where ssa.Check says yes. Condition: nothing is known of the calls ahead ('S f = []'). -/
import Derived.Test.YtlogdohlcdhepaaDoorM5
import Derived.Test.YtlogdohlcdhepaaDoorM12
set_option linter.unusedVariables false
set_option linter.unusedSimpArgs false
section
set_option maxRecDepth 100000
namespace Go.Proofs.YtlogdohlcdhepaaDoor.base
open Go.Sh gen
variable {S:Zc}{m:Mem}
inductive Ro where
 | go (V:Vv)
 | tired (V:Vv)
 | left (V:Vv) (st:Nat) (val:Int)
def Zcr (u:UnT.D)(fuel:Int):List Int→Vv→Ro
 | [],V=>.go V
 | v::r,V =>
  let x:=Zbd u v
  if x.1=21∨x.1=1 then Zcr u fuel r V else
  if fuel≤V.steps then .tired V else
  if Zhh x V.ws V.wish=true then .left { V with steps:=V.steps+1,wish:=Zeg x V.wish } (show Int from x.2.2.2.2.2.1).toNat v else
  Zcr u fuel r { V with steps:=V.steps+1,wish:=Zeg x V.wish,hw:=Zni x V.hw V.ws,ws:=Zpf x v.toNat V.hw V.ws }
def Zi6 (b:Zf9.D)(ws:List Int):Nat:=if b.2.1=2∧ws.getD (show Int from b.2.2.1).toNat 0=0 then 1 else 0
def Zhk (u:UnT.D)(fuel:Int):Nat→Nat→Vv→Ro
 | 0,_,V=>.tired V
 | k+1,at_,V =>
  let b:=Zbx u at_
  match Zcr u fuel b.1 V with
  | .go V1 =>
   if fuel≤V1.steps then .tired V1 else
   if b.2.1=3 then .left { V1 with steps:=V1.steps+1 } (show Int from b.2.2.2.2.2.1).toNat (-1) else
   let to:=((show List Int from b.2.2.2.1).getD (Zi6 b V1.ws) 0).toNat
   let t:=Zbx u to
   let p:=Zkr u t.1 (Zks t.2.2.2.2.1 (at_:Int)) V1.ws
   Zhk u fuel k to { V1 with ws:=Z38 t.1 p p.length V1.ws,steps:=V1.steps+1+p.length }
  | r=>r
structure BOk (u:UnT.D)(at_:Nat)(b:Zf9.D):Prop where
 vl:List.length b.1≤1000000
 vin:∀ v∈(show List Int from b.1),(0:Int)≤v∧v < (nv u:Int)
 ed:b.2.1=3→(0:Int)≤(show Int from b.2.2.2.2.2.1)∧(show Int from b.2.2.2.2.2.1) < (ns u:Int)
 cd:b.2.1=2→(0:Int)≤(show Int from b.2.2.1)∧(show Int from b.2.2.1) < (nv u:Int)
 nl:List.length b.2.2.2.1≤1000000∧List.length b.2.2.2.2.1≤1000000
 n2:b.2.1≠3→(if b.2.1=2 then 1 else 0) < List.length b.2.2.2.1
 nx:∀ t∈(show List Int from b.2.2.2.1),(0:Int)≤t∧t < (nb u:Int)∧(Zbx u t.toNat).2.2.2.2.1≠([]:List Int)∧
  ∀ v∈(show List Int from (Zbx u t.toNat).1),(Zbd u v).1=21→Zks (Zbx u t.toNat).2.2.2.2.1 (at_:Int) < (Zbd u v).2.2.2.2.1.length∧(Zbd u v).2.2.2.2.1.length≤1000000∧(0:Int)≤(show List Int from (Zbd u v).2.2.2.2.1).getD (Zks (Zbx u t.toNat).2.2.2.2.1 (at_:Int)) 0∧(show List Int from (Zbd u v).2.2.2.2.1).getD (Zks (Zbx u t.toNat).2.2.2.2.1 (at_:Int)) 0 < (nv u:Int)
structure UOk (u:UnT.D):Prop where
 n:0 < nv u∧nv u≤1000000
 b:0 < nb u∧nb u≤1000000
 s:ns u≤1000000
 bl:∀ i,i < nb u→BOk u i (Zbx u i)
 vl:∀ x∈u.2.2.1,x.1≠1→x.1≠21→VOk u x
 pa:∀ x∈u.2.2.1,x.1=1→(0:Int)≤x.2.2.2.1∧x.2.2.2.1≤9223372036854775807
 gd:∀ x∈u.2.2.1,x.1=22→(0:Int)≤x.2.1∧x.2.1 < (nv u:Int)
 lv:∀ x∈u.2.2.1,x.1=22∨x.1=23→(0:Int)≤x.2.2.2.2.2.1∧x.2.2.2.2.2.1 < (ns u:Int)
 fr:∀ st,(h:st < ns u)→(u.2.2.2.2.1[st]).1.length≤1000000∧∀ f∈(u.2.2.2.2.1[st]).1,f.2.2.1.length≤1000000∧f.2.2.2.1.length≤1000000∧(∀ v∈(show List Int from f.2.2.1),(0:Int)≤v∧v < (nv u:Int))∧(∀ v∈(show List Int from f.2.2.2.1),(0:Int)≤v∧v < (nv u:Int))
def Z8y (Q:Nat→Prop)(m0 m1:Mem)(u:UnT.D)(K:Kv)(v:Value):Ro→Prop
 | .go _=>False
 | .tired V=>v=.agg #[.int .i64 0,.int .i64 (-1),.int .i64 (-1),.slice none 0 0,.int .i64 V.steps]∧Ev Q m1 u K V
 | .left V st val=>(∃ fo,v=.agg #[.int .i64 1,.int .i64 (st:Int),.int .i64 val,.slice fo (stD u st).length (stD u st).length,.int .i64 V.steps]∧AtQ (fun f=>m0.next≤f) m1 (Ty.slice 44 (Ty.pair (Ty.int .i64) (Ty.pair (Ty.int .i64) (Ty.pair (Ty.slice 45 (Ty.int .u64)) (Ty.pair (Ty.slice 45 (Ty.int .u64)) Ty.unit))))) ((stD u st).map (frW V.ws)) [.slice fo (stD u st).length (stD u st).length])∧Ev Q m1 u K V
structure Nu (S:Zc):Prop where
 nv:Nv S
 run:S 10=[]
 tired:S 26=[]
 leaves:S 27=[]
 params:S 25=[]
 come:S 30=[]
 left:S 28=[]
 left1:S 57=[]
theorem Zxs (n:Nat):List.replicate n (Value.int .u64 0)=words (List.replicate n 0):=by simp [words]
theorem Zwj {x:Zbu.D}{w:Int}(h:-9223372036854775808≤w∧w≤9223372036854775807):-9223372036854775808≤Zeg x w∧Zeg x w≤9223372036854775807:=by
 unfold Zeg;split <;> omega
theorem Zof (u:UnT.D)(loc l:List Int)(p:List Int × Int):p.2≤(Zjl u loc l p).2∧(Zjl u loc l p).2≤p.2+l.length:=by
 induction l generalizing p with
 | nil=>simp [Zjl]
 | cons a r ih =>
  have e:Zjl u loc (a::r) p=Zjl u loc r (Zxq u loc p a):=rfl
  rw [e]
  have:=ih (Zxq u loc p a)
  have h2:p.2≤(Zxq u loc p a).2∧(Zxq u loc p a).2≤p.2+1:=by
   unfold Zxq
   split
   ·dsimp only;omega
   ·omega
  rw [List.length_cons]
  omega
theorem Zws {x:Zbu.D}{ws:List Int}{w:Int}(h:Zhh x ws w=true):x.1=22∨x.1=23:=by
 unfold Zhh at h
 by_cases h1:x.1=22
 ·exact Or.inl h1
 ·rw [if_neg h1] at h
  by_cases h2:x.1=23
  ·exact Or.inr h2
  ·rw [if_neg h2] at h;cases h
theorem Z0g (k:Nat)(hk:k≤1000000):Zcu Tryd.prog 45 k=some (List.replicate k (Value.int .u64 0)):=Zm (bt:=8) (by kernel_rfl) k (by omega)
set_option maxHeartbeats 32000000 in
theorem Z0e (hN:Nu S){Q:Nat→Prop}{u:UnT.D}{vo bo so:Option Addr}(hU:UAt Q m u vo bo so)(hQ:∀ f,Q f→f < m.next)(hok:UOk u)
  (hck:∀ m1,Zag m m1 []→∃ m2,Zal Tryd.prog TT S 22 [.agg (Zcj u vo bo so).toArray] m1=some (.bool true,m2)∧Zag m1 m2 [])
  {hb hf hwb hwf:Nat} {hw:List Int} {room:Int} (hH:Zd0 m hb hf hwb hwf hw room) (hhq:¬ Q hf∧¬ Q hwf) (hhw:Wd hw) (hhl:hw.length≤65536)
  {lo:Option Addr} {loc:List Int} {c lf:Nat} (hlo:Rs m lo loc.length (words loc) 45 1 lf) (hlq:loc.length≠0→lf < m.next) (hlw:Wd loc) (hlc:loc.length≤c∧c≤9223372036854775807)
  {wish fuel:Int} (hwi:-9223372036854775808≤wish∧wish≤9223372036854775807) (hfu:0≤fuel∧fuel≤1000000) :
  ∃ v m1,Zal Tryd.prog TT S 10 [.agg (Zcj u vo bo so).toArray,.pointer (some ⟨hb,0,none⟩),.slice lo loc.length c,.int .i64 wish,.int .i64 fuel] m=some (v,m1)∧
   (∃ K:Kv,K.hb=hb∧K.hf=hf∧K.hwf=hwf∧K.room=room∧Z8y Q m m1 u K v (Zhk u fuel (fuel.toNat+1) 0 ⟨hwb,hw,(Zjl u loc (Zbx u 0).1 (List.replicate (nv u) 0,0)).1,wish,(Zjl u loc (Zbx u 0).1 (List.replicate (nv u) 0,0)).2⟩))∧Zag m m1 [hf,hwf]:=by
 obtain⟨oU,kU,nU⟩:=Zay (m:=m) (cs:=Zcj u vo bo so) (e:=34) rfl
 obtain⟨pb,hpb⟩:∃ pb,m.next=pb:=⟨_,rfl⟩
 obtain⟨mA,hmA⟩:∃ mA,m.new (Zcj u vo bo so) 34=mA:=⟨_,rfl⟩
 rw [hmA,hpb] at oU nU
 rw [hmA] at kU
 obtain⟨oR,kR,nR⟩:=Zay (m:=mA) (cs:=[.int .i64 0,.int .i64 0,.int .i64 0,.slice none 0 0,.int .i64 0]) (e:=28) rfl
 obtain⟨rb,hrb⟩:∃ rb,mA.next=rb:=⟨_,rfl⟩
 obtain⟨mB,hmB⟩:∃ mB,mA.new [.int .i64 0,.int .i64 0,.int .i64 0,.slice none 0 0,.int .i64 0] 28=mB:=⟨_,rfl⟩
 rw [hmB,hrb] at oR nR
 rw [hmB] at kR
 have lU:=(oU.keep kR (by simp)).load (off:=0) 5 (by simp)
 simp [Za1] at lU
 obtain⟨mC,cC,kC⟩:=hck mB (kU.trans kR)
 have oUC:=(oU.keep kR (by simp)).keep kC (by simp)
 have lUC:=oUC.load (off:=0) 5 (by simp)
 simp [Za1] at lUC
 have u2C:=oUC.load1 (off:=2) rfl
 have hz:=Z0g (nv u) hok.n.2
 rw [Zxs] at hz
 have n1:(nv u:Int)≤9223372036854775807:=by have:=hok.n;omega
 have n2:nv u * 8≤281474976710656:=by have:=hok.n;omega
 obtain⟨oW,kW,nW⟩:=Zay (m:=mC) (cs:=words (List.replicate (nv u) 0)) (e:=45) rfl
 obtain⟨wb,hwb'⟩:∃ wb,mC.next=wb:=⟨_,rfl⟩
 obtain⟨mD,hmD⟩:∃ mD,mC.new (words (List.replicate (nv u) 0)) 45=mD:=⟨_,rfl⟩
 rw [hmD,hwb'] at oW nW
 rw [hmD] at kW
 obtain⟨oM,kM,nM⟩:=Zay (m:=mD) (cs:=[.int .i64 u.1,.int .i64 u.2.1,.slice vo (nv u) (nv u),.slice bo (nb u) (nb u),.slice so (ns u) (ns u),.pointer (some ⟨hb,0,none⟩),.slice (some ⟨wb,0,none⟩) (nv u) (nv u),.int .i64 wish,.int .i64 0]) (e:=78) rfl
 obtain⟨xb,hxb⟩:∃ xb,mD.next=xb:=⟨_,rfl⟩
 obtain⟨mE,hmE⟩:∃ mE,mD.new [.int .i64 u.1,.int .i64 u.2.1,.slice vo (nv u) (nv u),.slice bo (nb u) (nb u),.slice so (ns u) (ns u),.pointer (some ⟨hb,0,none⟩),.slice (some ⟨wb,0,none⟩) (nv u) (nv u),.int .i64 wish,.int .i64 0] 78=mE:=⟨_,rfl⟩
 rw [hmE,hxb] at oM nM
 rw [hmE] at kM
 have lUD:=(oUC.keep kW (by simp)).load (off:=0) 5 (by simp)
 simp [Za1] at lUD
 have KC:Zag m mC []:=(kU.trans kR).trans kC
 have KE:Zag m mE []:=(KC.trans kW).trans kM
 have c1:=(kU.trans kR).1
 have c2:=kC.1
 have c3:=hH.h.flt
 have c4:=hH.w.flt
 have mnx:m.next≤wb∧wb < xb∧pb=m.next∧pb < rb∧rb < wb:=by
  have:=oU.flt;have:=oR.flt;have:=oW.flt;omega
 obtain⟨K,hK⟩:∃ K:Kv,K=⟨xb,xb,hb,hf,hwf,wb,wb,room,vo,bo,so⟩:=⟨_,rfl⟩
 have ev0:Ev Q mE u K ⟨hwb,hw,List.replicate (nv u) 0,wish,0⟩:=by
  subst hK
  refine⟨oM,oW.keep kM (by simp),by simp,?_,hhw,hhl,hH.keep KE (by simp) (by simp),hU.keep KE (by simp),⟨fun q=>?_,fun q=>?_,hhq.1,hhq.2⟩,?_⟩
  ·intro w hw'
   rw [List.mem_replicate] at hw'
   rw [hw'.2];omega
  ·have:=hQ _ q;dsimp only at this;omega
  ·have:=hQ _ q;dsimp only at this;omega
  ·have:=hH.ne
   dsimp only
   omega
 have hb0:=hok.b
 have eb0:Zbx u 0=u.2.2.2.1[0]'hb0.1:=Zcz hb0.1
 have B0:=hok.bl 0 hb0.1
 rw [eb0] at B0 ⊢
 obtain⟨_,mF,cF,ev1,kF⟩:=Zw8 hN.params ev0 hok.n.2 hb0.1 B0.vl B0.vin hok.pa (by dsimp only;omega) (lo:=lo) (loc:=loc) (c:=c) (lf:=lf) (by exact hlo.keep0 KE (by simp)) (fun q=>by have:=hlq q;subst hK;dsimp only;omega) hlw hlc
 have eKx:K.x=xb:=by rw [hK]
 rw [eKx] at cF
 refine Zfz 112 [112,118,128] k10 hN.run rfl ?_
 simp [-Int.natCast_add,Zdh b34,Zas Z8g,Zy8 u22,Zao Z1m,Za Za3,Zaa Zd5,Zac u30,Za2 Ydb,Zdh b78,hpb,hmA,hrb,hmB,lU,cC,lUC,u2C,Znh u42 Z46,hz,n1,n2,hwb',hmD,hxb,hmE,lUD,cF]
 have kF':Zag m mF [hf,hwf]:=Zbf (KE.mono (by simp)) kF (by subst hK;intro g hg hm;simp at hm;omega)
 have oUF:=((oUC.keep kW (by simp)).keep kM (by simp)).keep kF (by subst hK;simp;omega)
 have oRF:=(((oR.keep kC (by simp)).keep kW (by simp)).keep kM (by simp)).keep kF (by subst hK;simp;omega)
 have hps:=Zof u loc (u.2.2.2.1[0]'hb0.1).1 (List.replicate (nv u) 0,0)
 have hpl:=B0.vl
 dsimp only at hps
 obtain⟨V1,hV1⟩:∃ V1:Vv,V1=⟨hwb,hw,(Zjl u loc (u.2.2.2.1[0]'hb0.1).1 (List.replicate (nv u) 0,0)).1,wish,(Zjl u loc (u.2.2.2.1[0]'hb0.1).1 (List.replicate (nv u) 0,0)).2⟩:=⟨_,rfl⟩
 have ev1':Ev Q mF u K V1:=by rw [hV1];exact ev1
 have hs1:0≤V1.steps∧V1.steps≤3000000:=by rw [hV1];dsimp only;omega
 have hw1:V1.wish=wish:=by rw [hV1]
 rw [← hV1]
 obtain⟨R0,hR0⟩:∃ R0,Zhk u fuel (fuel.toNat+1) 0 V1=R0:=⟨_,rfl⟩
 rw [hR0]
 have eK:K.hb=hb∧K.hf=hf∧K.hwf=hwf∧K.room=room∧K.f=xb∧K.wf=wb∧K.x=xb∧K.bo=bo∧K.vo=vo:=by rw [hK];exact⟨rfl,rfl,rfl,rfl,rfl,rfl,rfl,rfl,rfl⟩
 obtain⟨eK1,eK2,eK3,eK4,eK5,eK6,eK7,eK8,eK9⟩:=eK
 have qn:∀ f,m.next≤f→¬ Q f:=fun f hf q=>by have:=hQ f q;omega
 clear hK ev0 ev1 cF lU cC lUC u2C lUD hps hz
 refine Zaq 112 [112,118,128] (fun d E mG=>∃ (k at_:Nat) (V:Vv),k=d∧1≤k∧fuel < V.steps+k∧0≤V.steps∧V.steps≤3000000∧(-9223372036854775808≤V.wish∧V.wish≤9223372036854775807)∧at_ < nb u∧Zhk u fuel k at_ V=R0∧Ev Q mG u K V∧Own mG pb (Zcj u vo bo so) 34 pb∧Own mG rb [.int .i64 0,.int .i64 0,.int .i64 0,.slice none 0 0,.int .i64 0] 28 rb∧Zag m mG [hf,hwf]∧
  E=[(4,.int .i64 fuel),(5,.pointer (some ⟨pb,0,none⟩)),(10,.pointer (some ⟨rb,0,none⟩)),(11,.pointer (some ⟨xb,0,none⟩)),(12,.int .i64 (at_:Int))]) _ ⟨_,⟨fuel.toNat+1,0,V1,rfl,by omega,by omega,hs1.1,hs1.2,by rw [hw1];exact hwi,hb0.1,hR0,ev1',oUF,oRF,kF',rfl⟩,⟨by rfl,by rfl,by rfl,by rfl,by rfl,trivial⟩⟩ ?_
 rintro d E mG ih ⟨k,at_,V,hd,hk1,hkf,hs0,hs3,hwb1,hat,hrun,hG,oUG,oRG,kG,rfl⟩
 have B:=hok.bl at_ hat
 obtain⟨bb,vo',no',po',hbo',ldb,hvo',hno',hpo'⟩:=Zh0 hG.unit hat
 rw [eK8] at hbo'
 rw [← Zcz hat] at ldb hvo' hno' hpo'
 obtain⟨b,hb'⟩:∃ b:Zf9.D,Zbx u at_=b:=⟨_,rfl⟩
 rw [hb'] at ldb hvo' hno' hpo' B
 obtain⟨l,hl⟩:∃ l:List Int,b.1=l:=⟨_,rfl⟩
 have Bvl:l.length≤1000000:=by rw [← hl];exact B.vl
 have Bvin:∀ v∈l,(0:Int)≤v∧v < (nv u:Int):=by rw [← hl];exact B.vin
 have hvl:Za5 Q mG vo' l:=by rw [← hl];exact hvo'
 have hun:=hok.n
 have hub:=hok.b
 have a1:(at_:Int) < nb u:=by omega
 have a2:(at_:Int)≤9223372036854775807:=by omega
 have u3:=oUG.load1 (off:=3) rfl
 rw [hbo'] at u3
 obtain⟨oZ,kZ,nZ⟩:=Zay (m:=mG) (cs:=[.slice none 0 0,.int .i64 0,.int .i64 0,.slice none 0 0,.slice none 0 0,.int .i64 0]) (e:=40) rfl
 obtain⟨bx,hbx⟩:∃ bx,mG.next=bx:=⟨_,rfl⟩
 obtain⟨mH,eH,oX,kX⟩:=Zap (r:=_) rfl oZ (off:=0) (vs:=Z1n b vo' no' po') (by simp) (by simp [Zau,Zai])
 simp [Zb5] at oX
 have kH:=kZ.fresh kX (by simp)
 rw [hbx] at oX nZ eH
 have hH':=hG.keep0 kH
 have bs:m.next≤bx∧xb < bx∧rb < bx∧pb < bx∧wb < bx:=by
  have:=kG.1;have:=hG.own.flt;have:=oRG.flt;have:=oUG.flt;omega
 have x0:=oX.load1 (off:=0) rfl
 have x0':loadRow mH ⟨bx,0,none⟩ 1=some [.slice vo' l.length l.length]:=by rw [x0,hl]
 simp [-Int.natCast_add,Za Zbl,Zaa Zgb,Zab u31 Zje,Zao Z48,Zas Z4m,Zad Zje,Za Zh8,Zaa Zb3,Zac u36,u3,a2,hat,ldb,hbx,eH,x0']
 have kGH:Zag m mH [hf,hwf]:=Zbf kG kH (by simp)
 obtain⟨R1,hR1⟩:∃ R1,Zcr u fuel l V=R1:=⟨_,rfl⟩
 refine Zaq 112 [112,118,128] (fun d E mI=>∃ (i:Nat) (V':Vv),l.length - i=d∧i≤l.length∧Zcr u fuel (l.drop i) V'=R1∧V.steps≤V'.steps∧V'.steps≤3000000∧(-9223372036854775808≤V'.wish∧V'.wish≤9223372036854775807)∧Ev Q mI u K V'∧Own mI bx (Z1n b vo' no' po') 40 bx∧Own mI pb (Zcj u vo bo so) 34 pb∧Own mI rb [.int .i64 0,.int .i64 0,.int .i64 0,.slice none 0 0,.int .i64 0] 28 rb∧Zag m mI [hf,hwf]∧Zag mH mI [K.f,K.wf,hwf]∧
  E=[(4,.int .i64 fuel),(5,.pointer (some ⟨pb,0,none⟩)),(10,.pointer (some ⟨rb,0,none⟩)),(11,.pointer (some ⟨xb,0,none⟩)),(12,.int .i64 (at_:Int)),(13,.pointer (some ⟨bx,0,none⟩)),(44,.slice vo' l.length l.length),(45,.int .i64 l.length),(46,.int .i64 (i:Int))]) _ ⟨_,⟨0,V,rfl,by omega,by rw [List.drop_zero];exact hR1,by omega,hs3,hwb1,hH',by rw [hbx] at *;exact oX,oUG.keep kH (by simp),oRG.keep kH (by simp),kGH,.refl _ _,rfl⟩,⟨by rfl,by rfl,by rfl,by rfl,by rfl,by rfl,by rfl,by rfl,by rfl,trivial⟩⟩ ?_
 rintro d' E mI ih2 ⟨i,V',hd2,hi,hvals,hst,hst3,hwb2,hI,oXI,oUI,oRI,kI,kHI,rfl⟩
 have im:(i:Int)≤9223372036854775807:=by omega
 by_cases hlt:i < l.length
 ·have i1:(i:Int) < l.length:=by omega
  have wi:IntKind.i64.wrap ((i:Int)+1)=((i+1:Nat):Int):=by rw [Zaf (by omega) (by omega)];omega
  have nq3:∀ f∈[K.f,K.wf,hwf],¬ Q f:=by
   intro f hf'
   simp at hf'
   rcases hf' with q | q | q
   ·rw [q];exact hI.nq.1
   ·rw [q];exact hI.nq.2.1
   ·rw [q];exact hhq.2
  obtain⟨lb,hlb,li⟩:=((hvl.keep kH (by simp)).keep kHI nq3).get hlt
  rw [hlb] at ih2 oXI ⊢
  obtain⟨v,ev⟩:∃ v:Nat,l.getD i 0=(v:Int):=⟨(l.getD i 0).toNat,by have:=Bvin _ (Za8 hlt);omega⟩
  have hvn:v < nv u:=by have:=Bvin _ (Za8 hlt);omega
  have hdrop:l.drop i=(v:Int)::l.drop (i+1):=by
   rw [List.drop_eq_getElem_cons hlt,← ev,List.getD_eq_getElem?_getD,List.getElem?_eq_getElem hlt];rfl
  rw [ev] at li
  rw [hdrop,Zcr,Zgs hvn] at hvals
  obtain⟨xb2,ao,fa,hxv,ldx,hra,hqa⟩:=Zie hI.unit hvn
  rw [eK9] at hxv
  have u2:=oUI.load1 (off:=2) rfl
  rw [hxv] at u2
  have lop:=Zcd (k:=0) ldx rfl
  rw [Nat.add_zero] at lop
  have v1:(v:Int) < nv u:=by omega
  have v2:(v:Int)≤9223372036854775807:=by omega
  obtain⟨o,ho⟩:∃ o:Int,(u.2.2.1[v]).1=o:=⟨_,rfl⟩
  rw [ho] at lop
  have hmem:u.2.2.1[v]∈u.2.2.1:=List.getElem_mem hvn
  by_cases c21:o=21∨o=1
  ·dsimp only at hvals
   rw [if_pos (by rw [ho];exact c21)] at hvals
   have c1:¬ o=21→o=1:=fun q=>c21.resolve_left q
   by_cases c21':o=21
   ·simp [-Int.natCast_add,-List.getD_eq_getElem?_getD,Za Za3,Zaa Zd5,Zab u36 sz3,Zaa ld3,Zab u30 Ze8,Za Zbv,i1,im,hlt,li,u2,v2,hvn,lop,c21',wi]
    exact ih2 _ _ _ _ ⟨i+1,V',rfl,by omega,hvals,hst,hst3,hwb2,hI,oXI,oUI,oRI,kI,kHI,rfl⟩ (by omega) ⟨by rfl,by rfl,by rfl,by rfl,by rfl,by rfl,by rfl,by rfl,by rfl,trivial⟩
   ·have c1':=c1 c21'
    simp [-Int.natCast_add,-List.getD_eq_getElem?_getD,Za Za3,Zaa Zd5,Zab u36 sz3,Zaa ld3,Zab u30 Ze8,Za Zbv,i1,im,hlt,li,u2,v2,hvn,lop,c1',wi]
    exact ih2 _ _ _ _ ⟨i+1,V',rfl,by omega,hvals,hst,hst3,hwb2,hI,oXI,oUI,oRI,kI,kHI,rfl⟩ (by omega) ⟨by rfl,by rfl,by rfl,by rfl,by rfl,by rfl,by rfl,by rfl,by rfl,trivial⟩
  ·have n21:¬ o=21:=fun q=>c21 (Or.inl q)
   have n01:¬ o=1:=fun q=>c21 (Or.inr q)
   dsimp only at hvals
   rw [if_neg (by rw [ho];exact c21)] at hvals
   have w8:=hI.own.load1 (off:=8) rfl
   rw [eK7] at w8
   by_cases ft:fuel≤V'.steps
   ·rw [if_pos ft] at hvals
    have hR:R0=.tired V':=by
     rw [← hrun]
     obtain⟨k,rfl⟩:∃ k',k=k'+1:=⟨k - 1,by omega⟩
     rw [Zhk,hb',hl]
     dsimp only
     rw [hR1,← hvals]
    obtain⟨_,m1,ct,rfl,kt⟩:=Zsk hN.tired hI
    rw [eK7] at ct
    obtain⟨m2,e2,oR2,k2⟩:=Zap (r:=_) rfl (oRI.keep kt (by simp)) (off:=0) (vs:=[.int .i64 0,.int .i64 (-1),.int .i64 (-1),.slice none 0 0,.int .i64 V'.steps]) (by simp) (by simp [Zau,Zai])
    simp [Zb5] at oR2
    have lR:=oR2.load (off:=0) 5 (by simp)
    simp [Za1] at lR
    have h2:=(hI.keep0 kt).keep k2 (by rw [eK5];simp;omega) (by rw [eK6];simp;omega) (by rw [eK2];simp;omega) (by rw [eK3];simp;omega) (by simp;exact qn _ (by omega))
    simp [-Int.natCast_add,-List.getD_eq_getElem?_getD,Zhj Z3f,Zad Z3u,Za Za3,Zaa Zd5,Zab u36 sz3,Zaa ld3,Zab u30 Ze8,Za Zbv,Za Zh,i1,im,hlt,li,u2,v2,hvn,lop,n21,n01,w8,ft,ct,e2,lR]
    exact⟨⟨K,eK1,eK2,eK3,eK4,by rw [hR];exact⟨rfl,h2⟩⟩,Zbf (Zbf kI kt (by simp)) k2 (by simp;omega)⟩
   ·rw [if_neg ft] at hvals
    obtain⟨mJ,eJ,hJ,kJ⟩:=Zka hI (V'.steps+1)
    rw [eK7] at eJ
    rw [eK5] at kJ
    have wst:IntKind.i64.wrap (V'.steps+1)=V'.steps+1:=Zaf (by omega) (by omega)
    obtain⟨_,mK,cL,rfl,hKv,kK⟩:=Zxe hN.leaves hJ hun.2 hvn (fun q=>hok.gd _ hmem q) hwb2
    rw [eK7] at cL
    rw [eK5] at kK
    dsimp only at hKv cL
    have oUJ:=(oUI.keep kJ (by simp;omega)).keep kK (by simp;omega)
    have oRJ:=(oRI.keep kJ (by simp;omega)).keep kK (by simp;omega)
    have oXJ:=(oXI.keep kJ (by simp;omega)).keep kK (by simp;omega)
    have kJI:Zag m mK [hf,hwf]:=Zbf (Zbf kI kJ (by simp;omega)) kK (by simp;omega)
    have lwb:=Zwj (x:=u.2.2.1[v]) hwb2
    by_cases lv:Zhh (u.2.2.1[v]) V'.ws V'.wish=true
    ·rw [if_pos lv] at hvals
     rw [lv] at cL
     obtain⟨s0,s1⟩:=hok.lv _ hmem (Zws lv)
     obtain⟨xb3,ao3,fa3,hxv3,ldx3,_,_⟩:=Zie hKv.unit hvn
     rw [eK9,hxv] at hxv3
     simp only [Option.some.injEq,Addr.mk.injEq,and_true] at hxv3
     subst hxv3
     have lst:=Zcd (k:=5) ldx3 rfl
     have u2K:=oUJ.load1 (off:=2) rfl
     rw [hxv] at u2K
     obtain⟨st,est⟩:∃ st:Nat,(show Int from (u.2.2.1[v]).2.2.2.2.2.1)=(st:Int):=⟨_,(Int.toNat_of_nonneg s0).symm⟩
     have hst':st < ns u:=by
      have:(show Int from (u.2.2.1[v]).2.2.2.2.2.1) < (ns u:Int):=s1
      omega
     have lst':loadRow mK ⟨xb2,v * 6+5,none⟩ 1=some [.int .i64 (st:Int)]:=by rw [lst];rw [show (u.2.2.1[v]).2.2.2.2.2.1=(st:Int) from est]
     obtain⟨f1,f2⟩:=hok.fr st hst'
     obtain⟨_,mL,cF2,⟨fo,rfl,hfr⟩,kL⟩:=Zus hN.left hN.left1 hKv hun.2 hok.s hst' (v:Int) rfl f1 f2
     rw [eK7] at cF2
     dsimp only at cF2
     obtain⟨m2,e2,oR2,k2⟩:=Zap (r:=_) rfl (oRJ.keep kL (by simp)) (off:=0) (vs:=[.int .i64 1,.int .i64 (st:Int),.int .i64 (v:Int),.slice fo (u.2.2.2.2.1[st]).1.length (u.2.2.2.2.1[st]).1.length,.int .i64 (V'.steps+1)]) (by simp) (by simp [Zau,Zai])
     simp [Zb5] at oR2
     have lR:=oR2.load (off:=0) 5 (by simp)
     simp [Za1] at lR
     have h2:=(hKv.keep0 kL).keep k2 (by rw [eK5];simp;omega) (by rw [eK6];simp;omega) (by rw [eK2];simp;omega) (by rw [eK3];simp;omega) (by simp;exact qn _ (by omega))
     have hR:R0=.left { V' with steps:=V'.steps+1,wish:=Zeg (u.2.2.1[v]) V'.wish } st (v:Int):=by
      rw [← hrun]
      obtain⟨k,rfl⟩:∃ k',k=k'+1:=⟨k - 1,by omega⟩
      rw [Zhk,hb',hl]
      dsimp only
      rw [hR1,← hvals]
      dsimp only
      have e5:Int.toNat (show Int from (u.2.2.1[v]).2.2.2.2.2.1)=st:=by rw [est];exact Int.toNat_natCast st
      exact congrArg (fun z=>Ro.left _ z _) e5
     have mKn:=kJI.1
     have fr2:=(hfr.keep k2 (by have:=oRJ.flt;simp;omega)).mono (R:=fun f=>m.next≤f) (fun f q=>by omega)
     simp [-Int.natCast_add,-List.getD_eq_getElem?_getD,Zhj Z3f,Zad Z3u,Za Za3,Zaa Zd5,Zab u36 sz3,Zaa ld3,Zab u30 Ze8,Za Zbv,Za Zh,Zad sz3,Za Zkq,i1,im,hlt,li,u2,v2,hvn,lop,n21,n01,w8,ft,wst,eJ,cL,u2K,lst',cF2,e2,lR]
     refine⟨⟨K,eK1,eK2,eK3,eK4,by rw [hR];exact⟨⟨fo,by rw [Zid hst'],by rw [Zid hst'];exact fr2⟩,h2⟩⟩,Zbf (Zbf kJI kL (by simp)) k2 (by simp;omega)⟩
    ·rw [if_neg lv] at hvals
     have lv':Zhh (u.2.2.1[v]) V'.ws V'.wish=false:=by simpa using lv
     rw [lv'] at cL
     have hx:=hok.vl _ hmem (by rw [ho];exact n01) (by rw [ho];exact n21)
     obtain⟨_,mL,cD,hD,kD⟩:=Z2y hN.nv hKv hun.2 hvn hx
     rw [eK7] at cD
     rw [eK6,eK3] at kD
     dsimp only at hD
     have oUL:=oUJ.keep kD (by simp;omega)
     have oRL:=oRJ.keep kD (by simp;omega)
     have oXL:=oXJ.keep kD (by simp;omega)
     have kLI:Zag m mL [hf,hwf]:=Zbf kJI kD (by simp;omega)
     have kLH:Zag mH mL [K.f,K.wf,hwf]:=by
      rw [eK5,eK6] at kHI ⊢
      exact ((kHI.trans (kJ.mono (by simp))).trans (kK.mono (by simp))).trans (kD.mono (by simp))
     simp [-Int.natCast_add,-List.getD_eq_getElem?_getD,Za Za3,Zaa Zd5,Zab u36 sz3,Zaa ld3,Zab u30 Ze8,Za Zbv,Za Zh,Zad sz3,i1,im,hlt,li,u2,v2,hvn,lop,n21,n01,w8,ft,wst,eJ,cL,cD,wi]
     exact ih2 _ _ _ _ ⟨i+1,_,rfl,by omega,hvals,by dsimp only;omega,by dsimp only;omega,lwb,by simpa using hD,oXL,oUL,oRL,kLI,kLH,rfl⟩ (by omega) ⟨by rfl,by rfl,by rfl,by rfl,by rfl,by rfl,by rfl,by rfl,by rfl,trivial⟩
 clear ih2
 have i1:¬ (i:Int) < l.length:=by omega
 rw [List.drop_of_length_le (by omega),Zcr] at hvals
 obtain⟨k,rfl⟩:∃ k',k=k'+1:=⟨k - 1,by omega⟩
 rw [Zhk,hb',hl] at hrun
 dsimp only at hrun
 rw [hR1,← hvals] at hrun
 dsimp only at hrun
 have w8:=hI.own.load1 (off:=8) rfl
 rw [eK7] at w8
 by_cases ft:fuel≤V'.steps
 ·rw [if_pos ft] at hrun
  obtain⟨_,m1,ct,rfl,kt⟩:=Zsk hN.tired hI
  rw [eK7] at ct
  obtain⟨m2,e2,oR2,k2⟩:=Zap (r:=_) rfl (oRI.keep kt (by simp)) (off:=0) (vs:=[.int .i64 0,.int .i64 (-1),.int .i64 (-1),.slice none 0 0,.int .i64 V'.steps]) (by simp) (by simp [Zau,Zai])
  simp [Zb5] at oR2
  have lR:=oR2.load (off:=0) 5 (by simp)
  simp [Za1] at lR
  have h2:=(hI.keep0 kt).keep k2 (by rw [eK5];simp;omega) (by rw [eK6];simp;omega) (by rw [eK2];simp;omega) (by rw [eK3];simp;omega) (by simp;exact qn _ (by omega))
  simp [-Int.natCast_add,Zhj Z3f,Zad Z3u,Zaa ld3,Za Zh,i1,w8,ft,ct,e2,lR]
  exact⟨⟨K,eK1,eK2,eK3,eK4,by rw [← hrun];exact⟨rfl,h2⟩⟩,Zbf (Zbf kI kt (by simp)) k2 (by simp;omega)⟩
 rw [if_neg ft] at hrun
 obtain⟨mJ,eJ,hJ,kJ⟩:=Zka hI (V'.steps+1)
 rw [eK7] at eJ
 rw [eK5] at kJ
 have wst:IntKind.i64.wrap (V'.steps+1)=V'.steps+1:=Zaf (by omega) (by omega)
 have oUJ:=oUI.keep kJ (by simp;omega)
 have oRJ:=oRI.keep kJ (by simp;omega)
 have oXJ:=oXI.keep kJ (by simp;omega)
 have kJI:Zag m mJ [hf,hwf]:=Zbf kI kJ (by simp;omega)
 obtain⟨en,hen⟩:∃ en:Int,b.2.1=en:=⟨_,rfl⟩
 have y1:=oXJ.load1 (off:=1) rfl
 rw [hen] at y1
 by_cases e3:en=3
 ·rw [if_pos (by rw [hen];exact e3)] at hrun
  obtain⟨s0,s1⟩:=B.ed (by rw [hen];exact e3)
  obtain⟨st,est⟩:∃ st:Nat,(show Int from b.2.2.2.2.2.1)=(st:Int):=⟨_,(Int.toNat_of_nonneg s0).symm⟩
  have e5:Int.toNat (show Int from b.2.2.2.2.2.1)=st:=by rw [est];exact Int.toNat_natCast st
  have hR:R0=.left { V' with steps:=V'.steps+1 } st (-1):=by rw [← hrun];exact congrArg (fun z=>Ro.left _ z _) e5
  have hst':st < ns u:=by
   have:(show Int from b.2.2.2.2.2.1) < (ns u:Int):=s1
   omega
  have y5:=oXJ.load1 (off:=5) rfl
  rw [show b.2.2.2.2.2.1=(st:Int) from est] at y5
  obtain⟨f1,f2⟩:=hok.fr st hst'
  obtain⟨_,mL,cF2,⟨fo,rfl,hfr⟩,kL⟩:=Zus hN.left hN.left1 hJ hun.2 hok.s hst' (-1) rfl f1 f2
  rw [eK7] at cF2
  dsimp only at cF2
  obtain⟨m2,e2,oR2,k2⟩:=Zap (r:=_) rfl (oRJ.keep kL (by simp)) (off:=0) (vs:=[.int .i64 1,.int .i64 (st:Int),.int .i64 (-1),.slice fo (u.2.2.2.2.1[st]).1.length (u.2.2.2.2.1[st]).1.length,.int .i64 (V'.steps+1)]) (by simp) (by simp [Zau,Zai])
  simp [Zb5] at oR2
  have lR:=oR2.load (off:=0) 5 (by simp)
  simp [Za1] at lR
  have h2:=(hJ.keep0 kL).keep k2 (by rw [eK5];simp;omega) (by rw [eK6];simp;omega) (by rw [eK2];simp;omega) (by rw [eK3];simp;omega) (by simp;exact qn _ (by omega))
  have mKn:=kJI.1
  have fr2:=(hfr.keep k2 (by have:=oRJ.flt;simp;omega)).mono (R:=fun f=>m.next≤f) (fun f q=>by omega)
  simp [-Int.natCast_add,Zhj Z3f,Zad Z3u,Zaa ld3,Za Zh,Zad sz3,Za Zhx,Za Zu4,i1,w8,ft,wst,eJ,y1,e3,y5,cF2,e2,lR]
  exact⟨⟨K,eK1,eK2,eK3,eK4,by rw [hR];exact⟨⟨fo,by rw [Zid hst'],by rw [Zid hst'];exact fr2⟩,h2⟩⟩,Zbf (Zbf kJI kL (by simp)) k2 (by simp;omega)⟩
 rw [if_neg (by rw [hen];exact e3)] at hrun
 obtain⟨nl,hnl⟩:∃ nl:List Int,b.2.2.2.1=nl:=⟨_,rfl⟩
 have Bn:∀ t∈nl,(0:Int)≤t∧t < (nb u:Int)∧(Zbx u t.toNat).2.2.2.2.1≠([]:List Int)∧
  ∀ v∈(show List Int from (Zbx u t.toNat).1),(Zbd u v).1=21→Zks (Zbx u t.toNat).2.2.2.2.1 (at_:Int) < (Zbd u v).2.2.2.2.1.length∧(Zbd u v).2.2.2.2.1.length≤1000000∧(0:Int)≤(show List Int from (Zbd u v).2.2.2.2.1).getD (Zks (Zbx u t.toNat).2.2.2.2.1 (at_:Int)) 0∧(show List Int from (Zbd u v).2.2.2.2.1).getD (Zks (Zbx u t.toNat).2.2.2.2.1 (at_:Int)) 0 < (nv u:Int):=by rw [← hnl];exact B.nx
 have Bl2:(if en=2 then 1 else 0) < nl.length:=by
  have:=B.n2 (by rw [hen];exact e3)
  rw [hen,hnl] at this;exact this
 have Bnl:nl.length≤1000000:=by rw [← hnl];exact B.nl.1
 obtain⟨cd,hcd⟩:∃ cd:Int,b.2.2.1=cd:=⟨_,rfl⟩
 have Bcd:en=2→0≤cd∧cd < (nv u:Int):=by rw [← hen,← hcd];exact B.cd
 obtain⟨wv,hwv⟩:∃ wv,Zi6 b V'.ws=wv:=⟨_,rfl⟩
 have hwvf:wv=if en=2∧V'.ws.getD cd.toNat 0=0 then 1 else 0:=by rw [← hwv];unfold Zi6;rw [hen,show (show Int from b.2.2.1)=cd from hcd]
 have wvl:wv < nl.length:=by
  rw [hwvf]
  by_cases q:en=2
  ·rw [if_pos q] at Bl2;split <;> omega
  ·rw [if_neg (fun z=>q z.1)];omega
 rw [hnl,hwv] at hrun
 obtain⟨tn,htn⟩:∃ tn:Nat,nl.getD wv 0=(tn:Int):=⟨(nl.getD wv 0).toNat,by have:=Bn _ (Za8 wvl);omega⟩
 have Bt:=Bn _ (Za8 wvl)
 rw [htn,Int.toNat_natCast] at Bt
 obtain⟨_,t1,t2,t3⟩:=Bt
 rw [htn,Int.toNat_natCast] at hrun
 have tb:tn < nb u:=by omega
 have T:=hok.bl tn tb
 obtain⟨_,mL,cC2,hL,kL⟩:=Z31 hN.come hJ hun.2 hub.2 (from_:=(at_:Int)) tb (l:=(Zbx u tn).1) (pr:=(Zbx u tn).2.2.2.2.1) (by rw [Zcz tb]) (by rw [Zcz tb]) T.vl T.nl.2 t2 T.vin t3 (by dsimp only;omega)
 rw [eK7] at cC2
 dsimp only at hL
 have pll:=Zpm u (Zbx u tn).1 (Zks (Zbx u tn).2.2.2.2.1 (at_:Int)) V'.ws
 have Tvl:=T.vl
 rw [eK5,eK6] at kL
 have oUL:=oUJ.keep kL (by simp;omega)
 have oRL:=oRJ.keep kL (by simp;omega)
 have oXL:=oXJ.keep kL (by simp;omega)
 have kLI:Zag m mL [hf,hwf]:=Zbf kJI kL (by simp;omega)
 have nq3:∀ f∈[K.f,K.wf,hwf],¬ Q f:=by
  intro f hf'
  simp at hf'
  rcases hf' with q | q | q
  ·rw [q];exact hI.nq.1
  ·rw [q];exact hI.nq.2.1
  ·rw [q];exact hhq.2
 have hnoG:Za5 Q mG no' nl:=by rw [← hnl];exact hno'
 have hnoJ:=((hnoG.keep kH (by simp)).keep kHI nq3).keep kJ (by simp;exact qn _ (by omega))
 have hnoL:=hnoJ.keep kL (by simp;exact⟨qn _ (by omega),qn _ (by omega)⟩)
 obtain⟨nxb,hnxb,lnx⟩:=hnoJ.get wvl
 obtain⟨nxb2,hnxb2,lnxL⟩:=hnoL.get wvl
 rw [hnxb] at hnxb2
 simp only [Option.some.injEq,Addr.mk.injEq,and_true] at hnxb2
 subst hnxb2
 rw [htn] at lnx lnxL
 have y3:=oXJ.load1 (off:=3) rfl
 have y3L:=oXL.load1 (off:=3) rfl
 rw [hnl,hnxb] at y3 y3L
 have y2:=oXJ.load1 (off:=2) rfl
 rw [hcd] at y2
 have w6:=hJ.own.load1 (off:=6) rfl
 rw [eK7] at w6
 have wvm:(wv:Int)≤9223372036854775807:=by omega
 have wvl':(wv:Int) < nl.length:=by omega
 have nlm:(nl.length:Int)≤9223372036854775807:=by omega
 apply Yby
 case main =>
  by_cases e2n:¬ en=2
  case' pos =>
   have hw0':wv=0:=by rw [hwvf,if_neg (fun q=>e2n q.1)]
   intro meth
   simp [-Int.natCast_add,-List.getD_eq_getElem?_getD,-w10_29,Zaa ld3,Za Zh,Zad sz3,Za Zhx,i1,w8,ft,wst,eJ,y1,e2n,e3]
  case' neg =>
   have e2:en=2:=Decidable.not_not.1 e2n
   obtain⟨c0,c1'⟩:=Bcd e2
   obtain⟨cn,hcn⟩:∃ cn:Nat,cd=(cn:Int):=⟨cd.toNat,by omega⟩
   rw [hcn] at y2 hwvf
   rw [Int.toNat_natCast] at hwvf
   have cnv:cn < nv u:=by omega
   have cnv':(cn:Int) < nv u:=by omega
   have cnm:(cn:Int)≤9223372036854775807:=by omega
   have lw:=hJ.wds.load1 (off:=cn) (Zdm (by rw [hJ.len];exact cnv))
   dsimp only at lw
   by_cases z:V'.ws.getD cn 0=0
   case' pos =>
    have hw1':wv=1:=by rw [hwvf,if_pos ⟨e2,z⟩]
    intro meth
    simp [-Int.natCast_add,-List.getD_eq_getElem?_getD,-w10_29,Zaa ld3,Za Zh,Zad sz3,Za Zhx,Za Zfj,Zaa Zh1,Za Zr1,Zab u42 Zfu,Zaa Zn7,i1,w8,ft,wst,eJ,y1,e2,y2,w6,cnv,cnm,lw,z]
   case' neg =>
    have hw0':wv=0:=by rw [hwvf,if_neg (fun q=>z q.2)]
    intro meth
    simp [-Int.natCast_add,-List.getD_eq_getElem?_getD,-w10_29,Zaa ld3,Za Zh,Zad sz3,Za Zhx,Za Zfj,Zaa Zh1,Za Zr1,Zab u42 Zfu,Zaa Zn7,i1,w8,ft,wst,eJ,y1,e2,y2,w6,cnv,cnm,lw,z]
  all_goals
   exact Zfd (E:=[(4,.int .i64 fuel),(5,.pointer (some ⟨pb,0,none⟩)),(10,.pointer (some ⟨rb,0,none⟩)),(11,.pointer (some ⟨xb,0,none⟩)),(12,.int .i64 (at_:Int)),(13,.pointer (some ⟨bx,0,none⟩)),(17,.int .i64 (wv:Int))]) meth ⟨by rfl,by rfl,by rfl,by rfl,by rfl,by rfl,by simp [Zb4];omega,trivial⟩
 simp [-Int.natCast_add,-List.getD_eq_getElem?_getD,Zaa Zb3,Zab u36 sz3,Zaa ld3,Za Zhu,y3,wvm,wvl,lnx,cC2,y3L,lnxL]
 exact ih _ _ _ _ ⟨k,tn,{ V' with ws:=Z38 (Zbx u tn).1 (Zkr u (Zbx u tn).1 (Zks (Zbx u tn).2.2.2.2.1 (at_:Int)) V'.ws) (Zkr u (Zbx u tn).1 (Zks (Zbx u tn).2.2.2.2.1 (at_:Int)) V'.ws).length V'.ws,steps:=V'.steps+1+((Zkr u (Zbx u tn).1 (Zks (Zbx u tn).2.2.2.2.1 (at_:Int)) V'.ws).length:Int) },rfl,by omega,by dsimp only;omega,by dsimp only;omega,by dsimp only;omega,hwb2,tb,hrun,hL,oUL,oRL,kLI,rfl⟩ (by omega) ⟨by rfl,by rfl,by rfl,by rfl,by rfl,trivial⟩
end Go.Proofs.YtlogdohlcdhepaaDoor.base
end
section
set_option maxRecDepth 100000
namespace Go.Proofs.YtlogdohlcdhepaaDoor.base
open Go.Sh gen
theorem Zo7 {u:UnT.D}{b:Nat}{l:List Int}{k:Nat}{s s':StS}(h:Zep u b k l s=some s'):s'.2.2.2=s.2.2.2+l.length:=by
 induction l generalizing k s with
 | nil=>rw [Zep,Option.some.injEq] at h;rw [← h];rfl
 | cons v r ih =>
  rw [Zep] at h
  cases hv:Zg9 u b k s v with
  | none=>rw [hv] at h;cases h
  | some s1 =>
   rw [hv,Option.bind_some] at h
   obtain⟨n,_,_,_,e,_⟩:=Zhc hv
   rw [ih h,e,List.length_cons]
   dsimp only
   omega
theorem Zxg {u:UnT.D}{bs:List Zf9.D}{b:Nat}{s s':StS}(h:Zdv u b bs s=some s'):∀ x∈bs,s.2.2.2+List.length x.1≤s'.2.2.2:=by
 induction bs generalizing b s with
 | nil=>intro x hx;simp at hx
 | cons y r ih =>
  rw [Zdv] at h
  cases hv:Zep u b 0 y.1 (s.1,s.2.1,true,s.2.2.2) with
  | none=>rw [hv] at h;cases h
  | some s1 =>
   rw [hv,Option.bind_some] at h
   have h1:=Zo7 hv
   dsimp only at h1
   intro x hx
   rcases List.mem_cons.1 hx with rfl | hx
   ·have h2:s1.2.2.2≤s'.2.2.2:=by
     have key:∀ (r:List Zf9.D) (b:Nat) (s1:StS),Zdv u b r s1=some s'→s1.2.2.2≤s'.2.2.2:=by
      intro r
      induction r with
      | nil=>intro b s1 h;rw [Zdv,Option.some.injEq] at h;rw [h];exact Nat.le_refl _
      | cons z r ih =>
       intro b s1 h
       rw [Zdv] at h
       cases hv:Zep u b 0 z.1 (s1.1,s1.2.1,true,s1.2.2.2) with
       | none=>rw [hv] at h;cases h
       | some s2 =>
        rw [hv,Option.bind_some] at h
        have h3:=Zo7 hv
        have:=ih _ _ h
        dsimp only at h3
        omega
     exact key r _ _ h
    have e:List.length (show List Int from x.1)=List.length x.1:=rfl
    omega
   ·have:=ih h x hx
    omega
theorem Zxk {u:UnT.D}{s:StS}(h:Zdt u=some s){i:Nat}(hi:i < nb u):(vlD u i).length≤nv u:=by
 unfold Zdt at h
 cases hB:Zdv u 0 u.2.2.2.1 (List.replicate (nv u) (-1),List.replicate (nv u) 0,true,0) with
 | none=>rw [hB] at h;cases h
 | some s1 =>
  rw [hB] at h
  have h2:=(Option.filter_eq_some_iff.1 h).2
  have h3:=Zxg hB (Zbx u i) (Zkp hi)
  have h4:s1.2.2.2=nv u:=by
   have:=(Option.filter_eq_some_iff.1 h).1
   simp only [Option.some.injEq] at this
   rw [this];simpa using h2
  have e:(vlD u i).length=List.length (Zbx u i).1:=rfl
  dsimp only at h3
  omega
theorem Z8x {u:UnT.D}(hz:Zv0 u)(hsb:Zjm u=true)(hst:Zwq u=true){s:StS}(hs:Zdt u=some s)(hv:Zub u s.1=true)(he:Zrb u=true)(hl:Zq3 u=true)(hn0:0 < nv u)
  (hN:∀ x∈u.2.2.1,-9223372036854775808≤(show Int from x.2.2.2.1)∧(show Int from x.2.2.2.1)≤9223372036854775807):UOk u:=by
 have hsz:=Zq9 hsb
 have hS:=Zh9 hs
 have hnx:=Zpn he
 have hT:=Z0a hz hsb hst hs hv he hl
 have hvv:∀ n < nv u,Zx3 u s.1 n=true:=Zf5.1 hv
 have hprd:∀ i < nb u,prD u i=(Zaz u).getD i []:=fun i hi=>((Zz hl hsz.2.2.2 i hi).1).symm
 have hprl:∀ i < nb u,(prD u i).length≤1000000:=fun i hi=>by rw [hprd i hi];exact Zlc hnx (by omega) i
 have hmem:∀ x∈u.2.2.1,∃ n < nv u,Zbd u (n:Nat)=x:=by
  intro x hx
  obtain⟨n,hn,rfl⟩:=List.mem_iff_getElem.1 hx
  exact⟨n,hn,Zgs hn⟩
 have hval:∀ n < nv u,Zv5 (Zbd u (n:Nat)).1=true∧Zcm u (Ze9 (Zbd u (n:Nat)))=true∧((Zbd u (n:Nat)).1=20→List.length (Zbd u (n:Nat)).2.2.2.2.1=1)∧((Zbd u (n:Nat)).1=1→(0:Int)≤(Zbd u (n:Nat)).2.2.2.1∧(show Int from (Zbd u (n:Nat)).2.2.2.1) < 40):=by
  intro n hn
  have:=hvv n hn
  unfold Zx3 at this
  rw [Bool.and_eq_true,Bool.and_eq_true,Bool.and_eq_true] at this
  obtain⟨⟨⟨h1,h2⟩,_⟩,h4⟩:=this
  refine⟨h1,h2,fun e=>?_,fun e=>?_⟩
  ·rw [if_pos e] at h4;exact of_decide_eq_true h4
  ·rw [if_neg (by rw [e];decide),if_neg (by rw [e];decide),if_pos e] at h4
   rw [Bool.and_eq_true,Bool.and_eq_true] at h4
   exact⟨of_decide_eq_true h4.1.1,of_decide_eq_true h4.1.2⟩
 refine⟨⟨hn0,by omega⟩,⟨hsz.2.2.2,by omega⟩,by omega,fun i hi=>?_,fun x hx h1 h21=>?_,fun x hx h1=>?_,fun x hx h22=>?_,fun x hx h=>?_,fun st hst'=>?_⟩
 ·obtain⟨e1,e2⟩:=Zj4 (Zf5.1 he i hi)
  have hnl:=(Z1i hnx hi).1
  have hvl:=Zxk hs hi
  refine⟨?_,(hT.bv i hi).2,hT.os i hi,hT.cd i hi,⟨?_,hprl i hi⟩,fun h3=>?_,fun t ht=>?_⟩
  ·have e:(vlD u i).length=List.length (Zbx u i).1:=rfl
   omega
  ·have e:(nxD u i).length=List.length (Zbx u i).2.2.2.1:=rfl
   omega
  ·rcases e2 with⟨g1,g2⟩ | ⟨g1,g2,_⟩ | ⟨g1,_⟩
   ·rw [if_neg (by rw [g1];decide),g2];decide
   ·rw [if_pos g1,g2];decide
   ·exact absurd g1 h3
  ·have htr:=e1 t ht
   obtain⟨q,rfl⟩:∃ q:Nat,t=(q:Int):=⟨t.toNat,by omega⟩
   have hq:q < nb u:=by omega
   rw [Int.toNat_natCast]
   have hin:(i:Int)∈prD u q:=by rw [hprd q hq];exact (Zl hnx hq).2 ⟨hi,ht⟩
   have hne:prD u q≠[]:=fun e=>by rw [e] at hin;cases hin
   refine⟨htr.1,htr.2,hne,fun v hv' h21=>?_⟩
   have hvr:=(hT.bv q hq).2 v hv'
   have hlen:=hT.ph q hq v hv' h21
   obtain⟨n,rfl⟩:∃ n:Nat,v=(n:Int):=⟨v.toNat,by omega⟩
   have hn:n < nv u:=by omega
   have hidx:Zks (prD u q) (i:Int) < (prD u q).length:=by
    have:=Z7e (l:=prD u q) (f:=(i:Int)) hne
    exact this
   have hle:=hprl q hq
   have hall:=hT.us n hn
   have e1:(show List Int from (Zbd u (n:Int)).2.2.2.2.1).length=List.length (Zbd u (n:Int)).2.2.2.2.1:=rfl
   have hia:Zks (prD u q) (i:Int) < (show List Int from (Zbd u (n:Int)).2.2.2.2.1).length:=by omega
   have hz2:=hall _ (by
    unfold Ze9
    rw [Zke,h21]
    exact List.mem_append_right _ (by simpa using Za8 hia))
   exact⟨by rw [hlen];exact hidx,by omega,hz2.1,hz2.2⟩
 ·obtain⟨n,hn,rfl⟩:=hmem x hx
  obtain⟨g1,g2,g3,_⟩:=hval n hn
  unfold Zv5 at g1
  rw [Bool.and_eq_true] at g1
  have o1:=of_decide_eq_true g1.1
  have o2:=of_decide_eq_true g1.2
  have hal:=hT.al n hn
  have hul:=Znu (Zbd u (n:Nat)).1 (Zbd u (n:Nat)).2.1 (Zbd u (n:Nat)).2.2.1 (Zbd u (n:Nat)).2.2.2.2.1
  have hul2:(Ze9 (Zbd u (n:Nat))).length≤List.length (Zbd u (n:Nat)).2.2.2.2.1+2:=hul
  have key:∀ o:Int,1≤o→o≠1→2≤o:=fun o a b=>by omega
  exact⟨⟨key _ o1 h1,o2,h21⟩,hN _ hx,hal,fun e=>by rw [g3 e];omega,Zg2 g2,by omega⟩
 ·obtain⟨n,hn,rfl⟩:=hmem x hx
  have:=(hval n hn).2.2.2 h1
  exact⟨this.1,by have:=this.2;exact Int.le_trans (Int.le_of_lt this) (by decide)⟩
 ·obtain⟨n,hn,rfl⟩:=hmem x hx
  exact hT.us n hn _ (by unfold Ze9;rw [Zke,h22];simp [Zcc,Zd4,Zh3])
 ·obtain⟨n,hn,rfl⟩:=hmem x hx
  exact hT.lv n hn (by unfold lvs;rcases h with h | h <;> simp [h])
 ·have:=hT.st st hst'
  rw [Zid hst'] at this
  refine⟨by have:=this.1;omega,fun f hf=>?_⟩
  obtain⟨g1,g2,g3,g4⟩:=this.2 f hf
  exact⟨by omega,by omega,g3,g4⟩
end Go.Proofs.YtlogdohlcdhepaaDoor.base
end
section
set_option maxRecDepth 100000
namespace Go.Proofs.YtlogdohlcdhepaaDoor.base
open Go.Sh gen
abbrev Tg:=Nat→Nat
variable {T T':Tg}{m m1 m2:Mem}{i:Nat}{is js:List Nat}
def Ag (T T':Tg)(m:Mem):Prop:=∀ f,f < m.next→T' f=T f
def KT (T:Tg)(is:List Nat)(m m1:Mem):Prop:=∃ fs,Zag m m1 fs∧∀ f∈fs,f < m.next→T f∈is
def DQ (T:Tg)(m:Mem)(f:Nat):Prop:=T f=0∧f < m.next
def Zey (T:Tg)(i:Nat)(m:Mem)(b:Nat)(cells:List Value)(e:TypeId):Prop:=∃ fam,Own m b cells e fam∧T fam=i
def SlT (T:Tg)(i:Nat)(m:Mem)(ao:Option Addr)(n:Nat)(cells:List Value)(e z:Nat):Prop:=∃ fam,Sl m ao n cells e z fam∧(ao≠none→T fam=i)
def SrT (T:Tg)(i:Nat)(m:Mem)(ao:Option Addr)(n:Nat)(cells:List Value)(e z:Nat):Prop:=∃ fam,Sr m ao n cells e z fam∧(ao≠none→T fam=i)
theorem Ag.refl:Ag T T m:=fun _ _=>rfl
theorem Ag.trans {T2:Tg}(h:Ag T T' m)(k:Ag T' T2 m1)(hn:m.next≤m1.next):Ag T T2 m:=fun f hf=>(k f (by omega)).trans (h f hf)
theorem KT.le (k:KT T is m m1):m.next≤m1.next:=by obtain⟨fs,kk,_⟩:=k;exact kk.1
theorem KT.refl:KT T is m m:=⟨[],.refl _ _,by simp⟩
theorem KT.of (k:Zag m m1 []):KT T is m m1:=⟨[],k,by simp⟩
theorem KT.mono (k:KT T is m m1)(h:∀ t∈is,t∈js):KT T js m m1:=by
 obtain⟨fs,kk,hf⟩:=k
 exact⟨fs,kk,fun f h1 h2=>h _ (hf f h1 h2)⟩
theorem KT.trans (h:KT T is m m1)(a:Ag T T' m)(k:KT T' is m1 m2):KT T is m m2:=by
 obtain⟨fs,kk,hf⟩:=h
 obtain⟨gs,kk2,hg⟩:=k
 refine⟨fs++gs,(kk.mono (fun q hq=>List.mem_append_left _ hq)).trans (kk2.mono (fun q hq=>List.mem_append_right _ hq)),fun f hm hl=>?_⟩
 rcases List.mem_append.1 hm with hm | hm
 ·exact hf f hm hl
 ·rw [← a f hl];exact hg f hm (by have:=kk.1;omega)
theorem Zey.keep {b e:Nat}{cells:List Value}(h:Zey T i m b cells e)(k:KT T is m m1)(a:Ag T T' m)(hi:i∉is):Zey T' i m1 b cells e:=by
 obtain⟨fam,o,rfl⟩:=h
 obtain⟨fs,kk,hf⟩:=k
 exact⟨fam,o.keep kk (fun hm=>hi (hf _ hm o.flt)),a _ o.flt⟩
theorem SlT.keep {ao:Option Addr}{n e z:Nat}{cells:List Value}(h:SlT T i m ao n cells e z)(k:KT T is m m1)(a:Ag T T' m)(hi:i∉is):SlT T' i m1 ao n cells e z:=by
 obtain⟨fam,s,ht⟩:=h
 obtain⟨fs,kk,hf⟩:=k
 exact⟨fam,s.keepz kk (fun hn hm=>hi (by rw [← ht hn];exact hf _ hm (s.sr.flt hn))),fun hn=>(a _ (s.sr.flt hn)).trans (ht hn)⟩
theorem SrT.keep {ao:Option Addr}{n e z:Nat}{cells:List Value}(h:SrT T i m ao n cells e z)(k:KT T is m m1)(a:Ag T T' m)(hi:i∉is):SrT T' i m1 ao n cells e z:=by
 obtain⟨fam,s,ht⟩:=h
 obtain⟨fs,kk,hf⟩:=k
 exact⟨fam,s.keep kk (fun hn hm=>hi (by rw [← ht hn];exact hf _ hm (s.flt hn))),fun hn=>(a _ (s.flt hn)).trans (ht hn)⟩
theorem Zmg {t:Ty}{d:t.D}{cs:List Value}(h:AtQ (DQ T m) m t d cs)(k:KT T is m m1)(a:Ag T T' m)(hi:0∉is):AtQ (DQ T' m1) m1 t d cs:=by
 obtain⟨fs,kk,hf⟩:=k
 have hn:=kk.1
 exact (h.keep kk (fun f hm hq=>hi (by rw [← hq.1];exact hf f hm hq.2))).mono (fun f hq=>⟨(a f hq.2).trans hq.1,by have:=hq.2;omega⟩)
theorem Zar {ao:Option Addr}{l:List Int}(h:Za5 (DQ T m) m ao l)(k:KT T is m m1)(a:Ag T T' m)(hi:0∉is):Za5 (DQ T' m1) m1 ao l:=by
 obtain⟨fs,kk,hf⟩:=k
 have hn:=kk.1
 obtain⟨f,hr,hq⟩:=h
 have hq':l.length≠0→f∉fs:=fun hz hm=>hi (by rw [← (hq hz).1];exact hf f hm (hq hz).2)
 exact⟨f,hr.keep0 kk hq',fun hz=>⟨(a f (hq hz).2).trans (hq hz).1,by have:=(hq hz).2;omega⟩⟩
theorem Zn3 (T:Tg)(i:Nat){cs:List Value}{e:TypeId}{m1:Mem}(hr:m.new cs e=m1):∃ T',Ag T T' m∧Zey T' i m1 m.next cs e∧Zag m m1 []∧m.next < m1.next∧∀ f,T' f=T f∨T' f=i:=by
 obtain⟨o,k,n⟩:=Zay hr
 exact⟨fun f=>if f=m.next then i else T f,fun f hf=>if_neg (by omega),⟨_,o,if_pos rfl⟩,k,n,fun f=>by simp only;split <;> simp⟩
theorem Zdd {l off:Nat}{cells vs:List Value}{e:TypeId}{r:Option Mem}(hr:Zaj m ⟨l,off,none⟩ vs=r)(h:Zey T i m l cells e)(hk:off+vs.length≤cells.length)(h1:vs.all one=true) :
  ∃ m1,r=some m1∧Zey T i m1 l (Zb5 cells off vs) e∧KT T [i] m m1:=by
 obtain⟨fam,o,ht⟩:=h
 obtain⟨m1,h2,o1,k⟩:=Zap hr o hk h1
 exact⟨m1,h2,⟨fam,o1,ht⟩,[fam],k,by simp;intro _;exact ht⟩
section
variable {P:Program}
theorem Z7f {ty e e0:TypeId}{z bt n k:Nat}{ao:Option Addr}{cells news cs:List Value}{r:Option (Value × Mem)}(hr:Zax P ty (m.new cs e0) (.slice ao n n) news k=r)(ht:P.underlying ty=some (.slice e))(ha:Zkx P e z bt=true)
  (h:SlT T i m ao n cells e z) (hk:k≠0) (hnews:news.length=k * z) (h1:news.all one=true) (hb:(n+k) * bt≤140737488355328) (h63:n+k≤9223372036854775807) :
  ∃ m1 b' T',r=some (.slice (some ⟨b',0,none⟩) (n+k) (n+k),m1)∧SlT T' i m1 (some ⟨b',0,none⟩) (n+k) (cells++news) e z∧Ag T T' m∧KT T [i] m m1∧∀ f,T' f=T f∨T' f=i:=by
 obtain⟨fam,s,htg⟩:=h
 obtain⟨m1,b',fam',h2,o,kk,hf,hlt,hne⟩:=Zle hr ht ha s hk hnews h1 hb h63
 refine⟨m1,b',fun f=>if m.next≤f then i else T f,h2,⟨fam',Sl.of o (by rw [List.length_append,Nat.add_mul,s.1,hnews]),fun _=>?_⟩,fun f hf=>if_neg (by omega),⟨_,kk,fun f hm hl=>?_⟩,fun f=>by simp only;split <;> simp⟩
 ·rcases hf with⟨hn,e⟩ | hn
  ·simp only
   split
   ·rfl
   ·rw [e];exact htg hn
  ·simp only [if_pos hn]
 ·split at hm
  ·simp at hm
  ·rename_i hn
   simp at hm
   rw [hm]
   simpa using htg hn
theorem Z4y {ty e e0:TypeId}{z bt n k:Nat}{ao:Option Addr}{cells news cs:List Value}{r:Option (Value × Mem)}(hr:Zax P ty (m.new cs e0) (.slice ao n n) news k=r)(ht:P.underlying ty=some (.slice e))(ha:Zkx P e z bt=true)
  (h:SrT T i m ao n cells e z) (hk:k≠0) (hnews:news.length=k * z) (h1:news.all one=true) (hb:(n+k) * bt≤140737488355328) (h63:n+k≤9223372036854775807) :
  ∃ m1 ao' T',r=some (.slice ao' (n+k) (n+k),m1)∧SrT T' i m1 ao' (n+k) (cells++news) e z∧ao'≠none∧Ag T T' m∧KT T [i] m m1∧∀ f,T' f=T f∨T' f=i:=by
 obtain⟨fam,s,htg⟩:=h
 obtain⟨m1,a',fam',h2,o,kk,hf,hne1,hfe⟩:=Zku hr ht ha s hk hnews h1 hb h63
 refine⟨m1,a',fun f=>if m.next≤f then i else T f,h2,⟨fam',o,fun _=>?_⟩,hne1,fun f hf=>if_neg (by omega),⟨_,kk,fun f hm hl=>?_⟩,fun f=>by simp only;split <;> simp⟩
 ·rcases hf with⟨hn,e⟩ | hn
  ·simp only
   split
   ·rfl
   ·rw [e];exact htg hn
  ·simp only [if_pos hn]
 ·split at hm
  ·simp at hm
  ·rename_i hn
   simp at hm
   rw [hm]
   simpa using htg hn
end
def Zi3 (T:Tg)(m:Mem)(e:TypeId)(t:Ty)(l:List t.D)(ao:Option Addr)(i:Nat):Prop:=
 ∃ css:List (List Value),css.length=l.length∧(∀ (j:Nat) d c,l[j]?=some d→css[j]?=some c→AtQ (DQ T m) m t d c)∧SlT T i m ao l.length css.flatten e t.size
theorem Zi3.keep {e:TypeId}{t:Ty}{l:List t.D}{ao:Option Addr}(h:Zi3 T m e t l ao i)(k:KT T is m m1)(a:Ag T T' m)(hi:i∉is)(h0:0∉is):Zi3 T' m1 e t l ao i:=by
 obtain⟨css,h1,h2,h3⟩:=h
 exact⟨css,h1,fun j d c hd hc=>Zmg (h2 j d c hd hc) k a h0,h3.keep k a hi⟩
theorem Zi3.nil (T:Tg)(m:Mem)(e:TypeId)(t:Ty)(i:Nat):Zi3 T m e t [] none i:=⟨[],rfl,by simp,0,Sl.nil _ _ _ _,by simp⟩
theorem AtQ.len {Q:Nat→Prop}{t:Ty}{d:t.D}{c:List Value}(h:AtQ Q m t d c):c.length=t.size:=h.at_.len
section
variable {P:Program}
theorem Zi3.app {ty e e0:TypeId}{t:Ty}{bt:Nat}{ao:Option Addr}{l:List t.D}{d:t.D}{c:List Value}{cs:List Value}{r:Option (Value × Mem)}(h:Zi3 T m e t l ao i)(hi:i≠0)(hd:AtQ (DQ T m) m t d c)(hr:Zax P ty (m.new cs e0) (.slice ao l.length l.length) c 1=r)(ht:P.underlying ty=some (.slice e))(ha:Zkx P e t.size bt=true)
  (h1:c.all one=true) (hb:(l.length+1) * bt≤140737488355328) (h63:l.length+1≤9223372036854775807) :
  ∃ m1 b' T',r=some (.slice (some ⟨b',0,none⟩) (l.length+1) (l.length+1),m1)∧Zi3 T' m1 e t (l++[d]) (some ⟨b',0,none⟩) i∧Ag T T' m∧KT T [i] m m1∧∀ f,T' f=T f∨T' f=i:=by
 obtain⟨css,h2,h3,h4⟩:=h
 obtain⟨m1,b',T',he,s,a,k,tb⟩:=Z7f hr ht ha h4 (by omega) (by rw [AtQ.len hd];omega) h1 hb h63
 refine⟨m1,b',T',he,⟨css++[c],by simp [h2],fun j d' c' hd' hc'=>?_,?_⟩,a,k,tb⟩
 ·have h0:(0:Nat)∉[i]:=by simp;omega
  by_cases hj:j < l.length
  ·rw [List.getElem?_append_left hj] at hd'
   rw [List.getElem?_append_left (by omega)] at hc'
   exact Zmg (h3 j d' c' hd' hc') k a h0
  ·have hjl:j < (l++[d]).length:=(List.getElem?_eq_some_iff.1 hd').1
   have e:j=l.length:=by simp at hjl;omega
   subst e
   rw [List.getElem?_append_right (Nat.le_refl _)] at hd'
   rw [List.getElem?_append_right (by omega),h2] at hc'
   simp at hd' hc'
   subst hd' hc'
   exact Zmg hd k a h0
 ·rw [show (l++[d]).length=l.length+1 by simp,List.flatten_append,List.flatten_singleton]
  exact s
end
theorem Zq6 {css:List (List Value)}{z p k:Nat}{v:Value}(h:∀ x∈css,x.length=z)(hp:p < css.length)(hk:k < z):Zb5 css.flatten (p * z+k) [v]=(css.set p (css[p].set k v)).flatten:=by
 induction css generalizing p with
 | nil=>simp at hp
 | cons a r ih =>
  have ha:=h a (by simp)
  cases p with
  | zero =>
   simp only [Nat.zero_mul,Nat.zero_add,List.flatten_cons,List.set_cons_zero,List.getElem_cons_zero,Zb5,List.length_cons,List.length_nil]
   rw [List.take_append_of_le_length (by omega),List.drop_append_of_le_length (by omega),List.set_eq_take_append_cons_drop,if_pos (by omega)]
   simp
  | succ p =>
   have:=ih (p:=p) (fun x hx=>h x (by simp [hx])) (by simpa using hp)
   simp only [List.flatten_cons,List.set_cons_succ,List.getElem_cons_succ,Zb5,List.length_cons,List.length_nil] at this ⊢
   rw [← this,show (p+1) * z+k=a.length+(p * z+k) by rw [ha,Nat.add_mul];omega,List.take_length_add_append,show a.length+(p * z+k)+(0+1)=a.length+(p * z+k+(0+1)) by omega,List.drop_length_add_append]
   simp
end Go.Proofs.YtlogdohlcdhepaaDoor.base
end
