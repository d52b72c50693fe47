/- This text proves what the document's Run answers, Zbr the abstract run: just what eval.Run's plain law says. Condition: nothing is known of the calls ahead ('S f = []'). -/
import Derived.Test.YtlogdohlcdhepaaDoorM23
set_option linter.unusedVariables false
set_option linter.unusedSimpArgs false
section
set_option maxRecDepth 100000
namespace Go.Proofs.YtlogdohlcdhepaaDoor.base
open Go.Sh gen
variable {S:Zb2}{m:Mem}
structure Nr (S:Zb2):Prop where
 run:S 17=[]
 leave:S 43=[]
 tw:Tw S
 type:S 39=[]
 len:S 40=[]
 word:S 41=[]
 put:S 42=[]
def Z45 (m0 m1:Mem)(u:UnT.D)(K:Kr)(v:Value):Ro→Prop
 | .go _=>False
 | .tired V=>v=.agg #[.int .i64 0,.int .i64 (-1),.int .i64 (-1),.slice none 0 0,.int .i64 V.steps]∧Zd8 m1 K.hb K.hf V.hwb K.hwf V.hw K.room
 | .left V st val=>(∃ fo,v=.agg #[.int .i64 1,.int .i64 (st:Int),.int .i64 val,.slice fo (stD u st).length (stD u st).length,.int .i64 V.steps]∧AtQ (fun f=>m0.next≤f) m1 (Ty.slice 44 (Ty.pair (Ty.int .i64) (Ty.pair (Ty.int .i64) (Ty.pair (Ty.slice 45 (Ty.int .u64)) (Ty.pair (Ty.slice 45 (Ty.int .u64)) Ty.unit))))) ((stD u st).map (frW V.ws)) [.slice fo (stD u st).length (stD u st).length])∧Zd8 m1 K.hb K.hf V.hwb K.hwf V.hw K.room
set_option maxHeartbeats 32000000 in
theorem Yd (hN:Nr S){Q:Nat→Prop}{u:UnT.D}{vo bo so:Option Addr}(hU:UAt Q m u vo bo so)(hQ:∀ f,Q f→f < m.next)(hok:UOk u)(hd:Hd u)
  {hb hf hwb hwf:Nat} {hw:List Int} {room:Int} (hH:Zd8 m hb hf hwb hwf hw room) (hhq:¬ Q hf∧¬ Q hwf) (hhw:Wd hw) (hhl:hw.length≤65536)
  {lo:Option Addr} {loc:List Int} {lf:Nat} (hlo:Rs m lo loc.length (words loc) 45 1 lf) (hlq:loc.length≠0→lf < m.next∧lf≠hwf) (hlw:Wd loc) (hlc:loc.length≤9223372036854775807)
  {wish fuel:Int} (hwi:-9223372036854775808≤wish∧wish≤9223372036854775807) (hfu:0≤fuel∧fuel≤1000000) {A:Value→Mem→Prop}
  (hA:∀ v m1 K,K.hb=hb→K.hf=hf→K.hwf=hwf→K.room=room→Z45 m m1 u K v (Zib u fuel (fuel.toNat+1) 0 (Znc u loc (-1) 0 ⟨hwb,hw,List.replicate (nv u) 0,wish,0⟩))→Zaa m m1 [hwf]→A v m1) :
  ∃ v m1,Zag Tryd.prog TT S 17 [.agg (Zbw u vo bo so).toArray,.pointer (some ⟨hb,0,none⟩),.slice lo loc.length loc.length,.int .i64 wish,.int .i64 fuel] m=some (v,m1)∧A v m1:=by
 obtain⟨oU,kU,nU⟩:=Zat (m:=m) (cs:=Zbw u vo bo so) (e:=34) rfl
 obtain⟨ub,hub⟩:∃ ub,m.next=ub:=⟨_,rfl⟩
 obtain⟨mA,hmA⟩:∃ mA,m.new (Zbw u vo bo so) 34=mA:=⟨_,rfl⟩
 rw [hmA,hub] at oU nU
 rw [hmA] at kU
 obtain⟨oR,kR,nR⟩:=Zat (m:=mA) (cs:=[.int .i64 0,.int .i64 0,.int .i64 0,.slice none 0 0,.int .i64 0]) (e:=28) rfl
 obtain⟨rb,hrb⟩:∃ rb,mA.next=rb:=⟨_,rfl⟩
 obtain⟨mB,hmB⟩:∃ mB,mA.new [.int .i64 0,.int .i64 0,.int .i64 0,.slice none 0 0,.int .i64 0] 28=mB:=⟨_,rfl⟩
 rw [hmB,hrb] at oR nR
 rw [hmB] at kR
 have uu2:=(oU.keep kR (by simp)).load1 (off:=2) rfl
 have hz:=Zrm (nv u) hok.n.2
 rw [Znt] at hz
 have n1:(nv u:Int)≤9223372036854775807:=by have:=hok.n;omega
 have n2:nv u * 8≤281474976710656:=by have:=hok.n;omega
 obtain⟨oW,kW,nW⟩:=Zat (m:=mB) (cs:=words (List.replicate (nv u) 0)) (e:=45) rfl
 obtain⟨wb,hwb'⟩:∃ wb,mB.next=wb:=⟨_,rfl⟩
 obtain⟨mC,hmC⟩:∃ mC,mB.new (words (List.replicate (nv u) 0)) 45=mC:=⟨_,rfl⟩
 rw [hmC,hwb'] at oW nW
 rw [hmC] at kW
 have KC:Zaa m mC []:=(kU.trans kR).trans kW
 have bds:hf < ub∧hwf < ub∧ub < rb∧rb < wb:=by
  have:=hH.h.flt;have:=hH.w.flt;have:=oU.flt;have:=oR.flt;omega
 have hn0:=hok.n
 have hb0:=hok.b
 obtain⟨K,hK⟩:∃ K:Kr,K=⟨ub,ub,rb,rb,wb,wb,hb,hf,hwf,room,vo,bo,so⟩:=⟨_,rfl⟩
 have hR0:Rf Q mC u K ⟨hwb,hw,List.replicate (nv u) 0,wish,0⟩:=by
  rw [hK]
  refine⟨(oU.keep kR (by simp)).keep kW (by simp),oR.keep kW (by simp),oW,by simp,fun w hw=>by rw [List.eq_of_mem_replicate hw];exact⟨by omega,by omega⟩,hhw,hhl,hH.keep KC (by simp) (by simp),hU.keep KC (by simp),⟨fun q=>by have:=hQ _ q;dsimp only at this;omega,fun q=>by have:=hQ _ q;dsimp only at this;omega,fun q=>by have:=hQ _ q;dsimp only at this;omega,hhq.1,hhq.2⟩,?_⟩
  dsimp only
  omega
 have eKw:K.wf=wb:=by rw [hK]
 have eKf:K.hwf=hwf:=by rw [hK]
 obtain⟨eK1,eK2,eK3,eK4,eK5,eK6,eK7,eK8,eK9,eK10,eK11,eK12,eK13⟩:K.ub=ub∧K.uf=ub∧K.rb=rb∧K.rf=rb∧K.wb=wb∧K.wf=wb∧K.hb=hb∧K.hf=hf∧K.hwf=hwf∧K.room=room∧K.vo=vo∧K.bo=bo∧K.so=so:=by rw [hK];exact⟨rfl,rfl,rfl,rfl,rfl,rfl,rfl,rfl,rfl,rfl,rfl,rfl,rfl⟩
 obtain⟨R0,hRR⟩:∃ R0,Zib u fuel (fuel.toNat+1) 0 (Znc u loc (-1) 0 ⟨hwb,hw,List.replicate (nv u) 0,wish,0⟩)=R0:=⟨_,rfl⟩
 rw [hRR] at hA
 have mrb:m.next≤rb∧m.next≤wb∧wb < mC.next:=by omega
 have trf:∀ (mZ:Mem) (V':Vv),Rf Q mZ u K V'→Zaa m mZ [hwf]→R0=.tired V'→∃ m2,Zaf mZ ⟨rb,0,none⟩ [.int .i64 0,.int .i64 (-1),.int .i64 (-1),.slice none 0 0,.int .i64 V'.steps]=some m2∧loadRow m2 ⟨rb,0,none⟩ 5=some [.int .i64 0,.int .i64 (-1),.int .i64 (-1),.slice none 0 0,.int .i64 V'.steps]∧A (.agg #[.int .i64 0,.int .i64 (-1),.int .i64 (-1),.slice none 0 0,.int .i64 V'.steps]) m2:=by
  intro mZ V' hZ kZ hR
  have oR:=hZ.re
  rw [eK3,eK4] at oR
  obtain⟨m2,e2,oR2,k2⟩:=Zaj (r:=_) rfl oR (off:=0) (vs:=[.int .i64 0,.int .i64 (-1),.int .i64 (-1),.slice none 0 0,.int .i64 V'.steps]) (by simp) (by simp [Zam,Zad])
  simp [Zbr] at oR2
  have lR:=oR2.load (off:=0) 5 (by simp)
  simp [Zao] at lR
  refine⟨m2,e2,lR,hA _ m2 K eK7 eK8 eK9 eK10 ?_ (Zay kZ k2 (by simp;omega))⟩
  rw [hR]
  exact⟨rfl,hZ.heap.keep k2 (by rw [eK8];simp;omega) (by rw [eK9];simp;omega)⟩
 have lvf:∀ (mZ:Mem) (V' V2:Vv) (st:Nat) (val:Int),Rf Q mZ u K V'→Zaa m mZ [hwf]→rb < mZ.next→st < ns u→V2.ws=V'.ws→V2.hw=V'.hw→V2.hwb=V'.hwb→R0=.left V2 st val→
   ∃ fo m1 m2,Zag Tryd.prog TT S 43 [.agg (Zbw u vo bo so).toArray,.slice (some ⟨wb,0,none⟩) (nv u) (nv u),.int .i64 (st:Int),.int .i64 val,.int .i64 V2.steps] mZ=some (.agg #[.int .i64 1,.int .i64 (st:Int),.int .i64 val,.slice fo (stD u st).length (stD u st).length,.int .i64 V2.steps],m1)∧Zaf m1 ⟨rb,0,none⟩ [.int .i64 1,.int .i64 (st:Int),.int .i64 val,.slice fo (stD u st).length (stD u st).length,.int .i64 V2.steps]=some m2∧loadRow m2 ⟨rb,0,none⟩ 5=some [.int .i64 1,.int .i64 (st:Int),.int .i64 val,.slice fo (stD u st).length (stD u st).length,.int .i64 V2.steps]∧A (.agg #[.int .i64 1,.int .i64 (st:Int),.int .i64 val,.slice fo (stD u st).length (stD u st).length,.int .i64 V2.steps]) m2:=by
  intro mZ V' V2 st val hZ kZ hrz hst ew eh ehb hR
  have oW:=hZ.wds
  rw [eK5,eK6] at oW
  have hUZ:=hZ.unit
  rw [eK11,eK12,eK13] at hUZ
  obtain⟨f1,f2⟩:=hok.fr st hst
  have kz1:=kZ.1
  obtain⟨_,m1,cF,⟨fo,rfl,hfr⟩,kL⟩:=Zyx hN.leave hUZ (fun f q=>by have:=hQ f q;omega) hok.n.2 hok.s oW hZ.len hst val V2.steps rfl f1 f2
  rw [← Zhc hst] at cF hfr
  have oR:=hZ.re.keep kL (by simp)
  rw [eK3,eK4] at oR
  obtain⟨m2,e2,oR2,k2⟩:=Zaj (r:=_) rfl oR (off:=0) (vs:=[.int .i64 1,.int .i64 (st:Int),.int .i64 val,.slice fo (stD u st).length (stD u st).length,.int .i64 V2.steps]) (by simp) (by simp [Zam,Zad])
  simp [Zbr] at oR2
  have lR:=oR2.load (off:=0) 5 (by simp)
  simp [Zao] at lR
  have fr2:=(hfr.keep k2 (by simp;omega)).mono (R:=fun f=>m.next≤f) (fun f q=>by omega)
  refine⟨fo,m1,m2,cF,e2,lR,hA _ m2 K eK7 eK8 eK9 eK10 ?_ (Zay (Zay kZ kL (by simp)) k2 (by simp;omega))⟩
  rw [hR]
  exact⟨⟨fo,rfl,by rw [ew];exact fr2⟩,by rw [ehb,eh];exact (hZ.heap.keep kL (by simp) (by simp)).keep k2 (by rw [eK8];simp;omega) (by rw [eK9];simp;omega)⟩
 refine Zfi 325 [331,337,344] k17 hN.run rfl ?_
 simp [-Int.natCast_add,Zcu b34,Zkl u42 Zww,hub,hmA,hrb,hmB,uu2,hz,n1,n2,hmC,hwb']
 refine Zai 325 [331,337,344] (fun d E mF=>∃ (b k:Nat) (from_ polls:Int) (V:Vv),(fuel - V.steps).toNat=d∧Zib u fuel k b (Znc u loc from_ b V)=R0∧fuel < V.steps+k∧0≤V.steps∧V.steps≤fuel∧b < nb u∧-1≤from_∧from_≤1000000∧Ybg wish polls V.wish∧polls≤V.steps∧Rf Q mF u K V∧Zaa m mF [hwf]∧mC.next≤mF.next∧
  E=[(1,.pointer (some ⟨hb,0,none⟩)),(2,.slice lo loc.length loc.length),(3,.int .i64 wish),(4,.int .i64 fuel),(5,.pointer (some ⟨ub,0,none⟩)),(10,.pointer (some ⟨rb,0,none⟩)),(11,.slice (some ⟨wb,0,none⟩) (nv u) (nv u)),(12,.int .i64 V.steps),(13,.int .i64 polls),(14,.int .i64 (b:Nat)),(15,.int .i64 from_)]) _
  ⟨_,⟨0,fuel.toNat+1,-1,0,⟨hwb,hw,List.replicate (nv u) 0,wish,0⟩,rfl,hRR,by dsimp only;omega,by dsimp only;omega,by dsimp only;omega,hb0.1,by omega,by omega,⟨by omega,by dsimp only;omega⟩,by dsimp only;omega,hR0,KC.nil,Nat.le_refl _,rfl⟩,(by repeat' constructor)⟩ ?_
 rintro d E mF ih ⟨b,k,from_,polls,V,hdd,hrun,hk,hs0,hsf,hbn,hf1,hf2,hpol,hps,hF,kF,nF,rfl⟩
 have B:=hok.bl b hbn
 obtain⟨bb,vo',no',po',hbo',ldb,hvo',hno',hpo'⟩:=Zgf hF.unit hbn
 rw [eK12] at hbo'
 rw [← Zci hbn] at ldb hvo' hno' hpo'
 obtain⟨l,hl⟩:∃ l:List Int,vlD u b=l:=⟨_,rfl⟩
 obtain⟨pr,hpr⟩:∃ pr:List Int,prD u b=pr:=⟨_,rfl⟩
 have Bvl:l.length≤1000000:=by rw [← hl];exact B.vl
 have Bvin:∀ v∈l,(0:Int)≤v∧v < (nv u:Int):=by rw [← hl];exact B.vin
 have Bpl:pr.length≤1000000:=by rw [← hpr];exact B.nl.2
 have hvl:Za2 Q mF vo' l:=by rw [← hl];exact hvo'
 have hpl:Za2 Q mF po' pr:=by rw [← hpr];exact hpo'
 have hph:∀ v∈l,(Za1 u v).1=21→(agV u v.toNat).length=pr.length∧∀ z∈agV u v.toNat,(0:Int)≤z∧z < nv u:=by rw [← hl,← hpr];exact hd.ph b hbn
 obtain⟨x,hx⟩:∃ x:Zfk.D,Zbt u b=x:=⟨_,rfl⟩
 have exl:x.1=l:=by rw [← hx,← hl]
 have exp:x.2.2.2.2.1=pr:=by rw [← hx,← hpr]
 rw [hx] at ldb
 have a1:(b:Int) < nb u:=by omega
 have a2:(b:Int)≤9223372036854775807:=by omega
 have oUF:=hF.un
 rw [eK1,eK2,eK11,eK12,eK13] at oUF
 have uu3:=oUF.load1 (off:=3) rfl
 rw [hbo'] at uu3
 obtain⟨mG,fX,eG,oX,kG,nX⟩:=Zqy (m:=mF) (zs:=[.slice none 0 0,.int .i64 0,.int .i64 0,.slice none 0 0,.slice none 0 0,.int .i64 0]) (vs:=Zy8 x vo' no' po') (e:=40) rfl (by simp [Zam,Zad])
 obtain⟨xb,hxb⟩:∃ xb,mF.next=xb:=⟨_,rfl⟩
 rw [hxb] at eG oX nX
 simp [-Int.natCast_add,uu3,a2,hbn,ldb,hxb,eG]
 obtain⟨P,hP⟩:∃ P,Za6 u loc pr from_ V.ws l=P:=⟨_,rfl⟩
 have hPl:P.length≤l.length:=by rw [← hP];exact Zp1 _ _ _ _ _ _
 have kmG:Zaa m mG [hwf]:=(kF.trans (kG.nil (fs:=[hwf])))
 apply Z9 (fun (mX:Mem) (so:Option Addr)=>∃ sf,Sl mX so P.length (words P) 45 1 sf∧(so≠none→mG.next≤sf∧sf < mX.next)∧Zaa mG mX [])
 case main =>
  have hG:=hF.keep0 kG
  intro meth
  refine Zai 325 [331,337,344] (fun d2 E mI=>∃ (j:Nat) (so:Option Addr) (sf:Nat),l.length - j=d2∧j≤l.length∧(Za6 u loc pr from_ V.ws (l.take j)).length=j∧Sl mI so j (words (Za6 u loc pr from_ V.ws (l.take j))) 45 1 sf∧(so≠none→mG.next≤sf∧sf < mI.next)∧Zaa mG mI []∧
   E=[(1,.pointer (some ⟨hb,0,none⟩)),(2,.slice lo loc.length loc.length),(3,.int .i64 wish),(4,.int .i64 fuel),(5,.pointer (some ⟨ub,0,none⟩)),(10,.pointer (some ⟨rb,0,none⟩)),(11,.slice (some ⟨wb,0,none⟩) (nv u) (nv u)),(12,.int .i64 V.steps),(13,.int .i64 polls),(14,.int .i64 (b:Nat)),(15,.int .i64 from_),(16,.pointer (some ⟨xb,0,none⟩)),(17,.slice so j j),(18,.int .i64 (j:Nat))]) _
   ⟨_,⟨0,none,0,rfl,by omega,by simp [Za6],Sl.nil _ _ _ _,fun q=>absurd rfl q,.refl _ _,rfl⟩,(by repeat' constructor)⟩ ?_
  rintro d2 E mI ih2 ⟨j,so1,sf,hd2,hj,hhl2,sL,hsf1,kI,rfl⟩
  have jm:(j:Int)≤9223372036854775807:=by omega
  have oXI:=oX.keep kI (by simp)
  have x0:=oXI.load1 (off:=0) rfl
  have x0:loadRow mI ⟨xb,0,none⟩ 1=some [.slice vo' l.length l.length]:=by rw [x0,exl]
  have hI:=hG.keep0 kI
  have kmI:Zaa m mI [hwf]:=kmG.trans (kI.nil (fs:=[hwf]))
  by_cases hlt:j < l.length
  ·have i1:(j:Int) < l.length:=by omega
   have wj:IntKind.i64.wrap ((j:Int)+1)=((j+1:Nat):Int):=by rw [Zab (by omega) (by omega)];omega
   have etk:l.take (j+1)=l.take j++[l.getD j 0]:=by
    rw [List.take_succ_eq_append_getElem hlt,List.getD_eq_getElem?_getD,List.getElem?_eq_getElem hlt];rfl
   have etd:l=l.take j++l.getD j 0::l.drop (j+1):=by
    conv=>lhs;rw [← List.take_append_drop j l]
    rw [List.drop_eq_getElem_cons hlt,List.getD_eq_getElem?_getD,List.getElem?_eq_getElem hlt];rfl
   have elt:(l.take j).length=j:=by rw [List.length_take];omega
   obtain⟨lb,hlb,li⟩:=((hvl.keep kG (by simp)).keep kI (by simp)).get hlt
   obtain⟨v,ev⟩:∃ v:Nat,l.getD j 0=(v:Int):=⟨(l.getD j 0).toNat,by have:=Bvin _ (Zas hlt);omega⟩
   have hvm:(v:Int)∈l:=by rw [← ev];exact Zas hlt
   have hvn:v < nv u:=by have:=Bvin _ hvm;omega
   rw [ev] at li etk etd
   rw [hlb] at x0
   obtain⟨vb,ao,fa,hxv,ldx',hra,hqa⟩:=Z3r hI.unit hvn
   rw [eK11] at hxv
   rw [← Zeg hvn] at ldx' hra hqa
   have oUI:=hI.un
   rw [eK1,eK2,eK11,eK12,eK13] at oUI
   have uu2:=oUI.load1 (off:=2) rfl
   rw [hxv] at uu2
   have v1:(v:Int) < nv u:=by omega
   have v2:(v:Int)≤9223372036854775807:=by omega
   obtain⟨y,hy⟩:∃ y:Zbj.D,Za1 u (v:Int)=y:=⟨_,rfl⟩
   rw [hy] at ldx' hra hqa
   have ldx:=ldx' mI [] (.refl _ _) (by simp)
   obtain⟨mV,fV,eV,oV,kV,nV⟩:=Zqy (m:=mI) (zs:=[.int .i64 0,.int .i64 0,.int .i64 0,.int .i64 0,.slice none 0 0,.int .i64 0]) (vs:=Zkr y ao) (e:=38) rfl (by simp [Zam,Zad])
   obtain⟨yb,hyb⟩:∃ yb,mI.next=yb:=⟨_,rfl⟩
   have kN:=Zb0 mI [.int .i64 0,.int .i64 0,.int .i64 0,.int .i64 0,.slice none 0 0,.int .i64 0] 38 []
   obtain⟨mN,hmN⟩:∃ mN,mI.new [.int .i64 0,.int .i64 0,.int .i64 0,.int .i64 0,.slice none 0 0,.int .i64 0] 38=mN:=⟨_,rfl⟩
   rw [hmN] at kN
   rw [hyb,hmN] at eV
   rw [hyb] at oV nV
   have x0N:=(oXI.keep kN (by simp)).load1 (off:=0) rfl
   have x0N:loadRow mN ⟨xb,0,none⟩ 1=some [.slice (some ⟨lb,0,none⟩) l.length l.length]:=by rw [x0N,exl,hlb]
   have uu2N:=(oUI.keep kN (by simp)).load1 (off:=2) rfl
   rw [hxv] at uu2N
   obtain⟨_,q1,liN⟩:=(((hvl.keep kG (by simp)).keep kI (by simp)).keep kN (by simp)).get hlt
   rw [hlb] at q1
   cases q1
   rw [ev] at liN
   have ldxN:=ldx' mN [] kN (by simp)
   have hV:=hI.keep0 kV
   have kGV:Zaa mG mV []:=kI.trans kV
   have oXV:=oXI.keep kV (by simp)
   have y0:=oV.load1 (off:=0) rfl
   have y3:=oV.load1 (off:=3) rfl
   have y4:=oV.load1 (off:=4) rfl
   obtain⟨o,ho⟩:∃ o:Int,y.1=o:=⟨_,rfl⟩
   rw [ho] at y0
   have hkV:=kV.1
   have hsf1':so1≠none→sf < mV.next:=fun q=>by have:=hsf1 q;omega
   have sLV:Sl mV so1 j (words (Za6 u loc pr from_ V.ws (l.take j))) 45 1 sf:=sL.keepz kV (by simp)
   by_cases hh:Zaq (Za1 u (v:Int)).1=true
   ·have eP1:Za6 u loc pr from_ V.ws (l.take (j+1))=Za6 u loc pr from_ V.ws (l.take j)++[Zgm u loc pr from_ V.ws (v:Int)]:=by
     rw [etk,Zmc _ _ (by rw [hhl2,elt]),Zdg hh];rfl
    obtain⟨w,hw'⟩:∃ w,Zgm u loc pr from_ V.ws (v:Int)=w:=⟨_,rfl⟩
    have fin:∀ {ra},Zan Tryd.prog 42 (mV.new [.int .u64 w] 45) (.slice so1 j j) [.int .u64 w] 1=ra→∃ m5 b5 f5,ra=some (.slice (some ⟨b5,0,none⟩) (j+1) (j+1),m5)∧(Za6 u loc pr from_ V.ws (l.take (j+1))).length=j+1∧Sl m5 (some ⟨b5,0,none⟩) (j+1) (words (Za6 u loc pr from_ V.ws (l.take (j+1)))) 45 1 f5∧(mG.next≤f5∧f5 < m5.next)∧Zaa mG m5 []:=by
     intro ra hra
     obtain⟨m5,b5,f5,rfl,o5,k5,c5,n5,_⟩:=Zg6 hra u42 Zww sLV (by omega) (by simp) (by simp [Zam]) (by omega) (by omega)
     have hg:=kGV.1
     refine⟨m5,b5,f5,rfl,by rw [eP1,List.length_append,hhl2];rfl,by rw [eP1,hw'];exact Sl.of (by simpa [words] using o5) (by rw [Ze5];simp;rw [hhl2]),⟨?_,n5⟩,kGV.fresh k5 (by
      intro f hf
      split at hf
      ·simp at hf
      ·rename_i hn
       simp at hf
       rw [hf];exact (hsf1 hn).1)⟩
     rcases c5 with⟨q,q2⟩ | q
     ·rw [q2];exact (hsf1 q).1
     ·omega
    have wij:=ih2
    by_cases c1:o=1
    ·obtain⟨n,hn⟩:∃ n:Int,y.2.2.2.1=n:=⟨_,rfl⟩
     rw [hn] at y3
     obtain⟨n0,n9⟩:(0:Int)≤n∧n≤9223372036854775807:=by
      rw [← hn,← hy]
      have:=hok.pa (Za1 u (v:Int)) (by rw [Zeg hvn];exact List.getElem_mem hvn) (by rw [hy,ho,c1])
      exact this
     have hval1:w=if n < loc.length then loc.getD n.toNat 0 else 0:=by
      rw [← hw'];unfold Zgm;rw [hy,ho,if_pos c1];rw [show (show Int from y.2.2.2.1)=n from hn]
     by_cases cn:n < loc.length
     ·rw [if_pos cn] at hval1
      obtain⟨q,rfl⟩:∃ q:Nat,n=q:=⟨n.toNat,by omega⟩
      have hlq':=hlq (by omega)
      obtain⟨lb2,elo,olo⟩:=((hlo.keep kmI (by simp;omega)).keep kV (by simp)).rdo (by omega)
      have ll:=olo.load1 (off:=q) (Zbs (by omega))
      rw [Int.toNat_natCast] at hval1
      rw [← hval1] at ll
      have q2:q < loc.length:=by omega
      simp [-Int.natCast_add,-List.getD_eq_getElem?_getD,Za u42 Zrw rfl,Za0 u42 Zrv,x0,i1,jm,hlt,li,uu2,v2,hvn,ldx,hyb,hmN,x0N,uu2N,liN,ldxN,eV,y0,c1,y3,cn,n9,q2,elo,ll]
      generalize hra:Zan _ _ _ _ _ _=ra
      obtain⟨m5,b5,f5,rfl,n5,s5,c5,k5⟩:=fin hra
      simp [-Int.natCast_add,-List.getD_eq_getElem?_getD,wj]
      exact ih2 _ _ _ _ ⟨j+1,some ⟨b5,0,none⟩,f5,rfl,by omega,n5,s5,fun _=>c5,k5,rfl⟩ (by omega) ⟨by rfl,by rw [elo];rfl,by rfl,by rfl,by rfl,by rfl,by rfl,by rfl,by rfl,by rfl,by rfl,by rfl,by rfl,by rfl,trivial⟩
     ·rw [if_neg cn] at hval1
      subst hval1
      simp [-Int.natCast_add,-List.getD_eq_getElem?_getD,Za u42 Zrw rfl,Za0 u42 Zrv,x0,i1,jm,hlt,li,uu2,v2,hvn,ldx,hyb,hmN,x0N,uu2N,liN,ldxN,eV,y0,c1,y3,cn]
      generalize hra:Zan _ _ _ _ _ _=ra
      obtain⟨m5,b5,f5,rfl,n5,s5,c5,k5⟩:=fin hra
      simp [-Int.natCast_add,-List.getD_eq_getElem?_getD,wj]
      exact ih2 _ _ _ _ ⟨j+1,some ⟨b5,0,none⟩,f5,rfl,by omega,n5,s5,fun _=>c5,k5,rfl⟩ (by omega) (by repeat' constructor)
    ·have c21:o=21:=by
      rw [hy,ho] at hh
      simpa [Zaq,c1] using hh
     obtain⟨p1,p2⟩:=hph _ hvm (by rw [hy,ho,c21])
     obtain⟨ag,hag⟩:∃ ag:List Int,agV u v=ag:=⟨_,rfl⟩
     rw [Int.toNat_natCast,hag] at p1 p2
     have eag:y.2.2.2.2.1=ag:=by rw [← hag,← hy]
     have hval2:Zu6 V.ws ag from_ pr 0=w:=by
      rw [← hw'];unfold Zgm;rw [hy,ho,if_neg c1,eag]
     have hra:Rs mI ao ag.length (ag.map (Value.int .i64)) 3 1 fa:=by rw [← eag];exact hra
     have y4:loadRow mV ⟨yb,4,none⟩ 1=some [.slice ao ag.length ag.length]:=by rw [y4,eag]
     have x4:=oXV.load1 (off:=4) rfl
     have x4:loadRow mV ⟨xb,4,none⟩ 1=some [.slice po' pr.length pr.length]:=by rw [x4,exp]
     have x4n:=(oXV.new_other [.int .u64 w] 45).load1 (off:=4) rfl
     simp [-Int.natCast_add,-List.getD_eq_getElem?_getD,x0,i1,jm,hlt,li,uu2,v2,hvn,ldx,hyb,hmN,x0N,uu2N,liN,ldxN,eV,y0,c21]
     refine Zai 325 [331,337,344] (fun d3 E mJ=>∃ q:Nat,pr.length - q=d3∧q≤pr.length∧Zu6 V.ws ag from_ (pr.drop q) q=w∧mJ=mV∧
      E=[(1,.pointer (some ⟨hb,0,none⟩)),(2,.slice lo loc.length loc.length),(3,.int .i64 wish),(4,.int .i64 fuel),(5,.pointer (some ⟨ub,0,none⟩)),(10,.pointer (some ⟨rb,0,none⟩)),(11,.slice (some ⟨wb,0,none⟩) (nv u) (nv u)),(12,.int .i64 V.steps),(13,.int .i64 polls),(14,.int .i64 (b:Nat)),(15,.int .i64 from_),(16,.pointer (some ⟨xb,0,none⟩)),(17,.slice so1 j j),(18,.int .i64 (j:Nat)),(19,.pointer (some ⟨yb,0,none⟩)),(20,.int .u64 0),(21,.int .i64 (q:Nat))]) _ ⟨_,⟨0,rfl,by omega,by rw [List.drop_zero];exact hval2,rfl,rfl⟩,(by repeat' constructor)⟩ ?_
     rintro d3 E mJ ih3 ⟨q,hd3,hq,hsel,hmJ,rfl⟩
     rw [hmJ]
     have qm:(q:Int)≤9223372036854775807:=by omega
     by_cases hqt:q < pr.length
     ·have q1:(q:Int) < pr.length:=by omega
      have wq:IntKind.i64.wrap ((q:Int)+1)=((q+1:Nat):Int):=by rw [Zab (by omega) (by omega)];omega
      obtain⟨pb,hpb,lp⟩:=(((hpl.keep kG (by simp)).keep kI (by simp)).keep kV (by simp)).get hqt
      rw [hpb] at x4
      have edr:pr.drop q=pr.getD q 0::pr.drop (q+1):=by
       rw [List.drop_eq_getElem_cons hqt,List.getD_eq_getElem?_getD,List.getElem?_eq_getElem hqt];rfl
      rw [edr,Zu6] at hsel
      by_cases ce:pr.getD q 0=from_
      ·rw [if_pos ce] at hsel
       rw [ce] at lp
       have qa:q < ag.length:=by omega
       have qa1:(q:Int) < ag.length:=by omega
       obtain⟨ab,hab,oA⟩:=(hra.keep kV (by simp)).rdo (by omega)
       have la:=oA.load1 (off:=q) (Zce qa)
       obtain⟨z,ez⟩:∃ z:Nat,ag.getD q 0=(z:Int):=⟨(ag.getD q 0).toNat,by have:=p2 _ (Zas qa);omega⟩
       have hz1:z < nv u:=by have:=p2 _ (Zas qa);omega
       have hz2:(z:Int) < nv u:=by omega
       have hz3:(z:Int)≤9223372036854775807:=by omega
       rw [ez] at la hsel
       rw [Int.toNat_natCast] at hsel
       have oW':=hV.wds
       rw [eK5] at oW'
       have lw:=oW'.load1 (off:=z) (Zbs (by rw [hV.len];exact hz1))
       rw [hsel] at lw
       rw [hab] at y4
       simp [-Int.natCast_add,-List.getD_eq_getElem?_getD,Za u42 Zrw rfl,Za0 u42 Zrv,x4,q1,qm,hqt,lp,y4,qa,la,hz1,hz3,lw]
       generalize hra:Zan _ _ _ _ _ _=ra
       obtain⟨m5,b5,f5,rfl,n5,s5,c5,k5⟩:=fin hra
       simp [-Int.natCast_add,-List.getD_eq_getElem?_getD,wj]
       exact ih2 _ _ _ _ ⟨j+1,some ⟨b5,0,none⟩,f5,rfl,by omega,n5,s5,fun _=>c5,k5,rfl⟩ (by omega) (by repeat' constructor)
      ·rw [if_neg ce] at hsel
       simp [-Int.natCast_add,-List.getD_eq_getElem?_getD,x4,q1,qm,hqt,lp,ce,wq]
       exact ih3 _ _ _ _ ⟨q+1,rfl,by omega,hsel,rfl,rfl⟩ (by omega) (by repeat' constructor)
     ·have q1:¬ (q:Int) < pr.length:=by omega
      rw [List.drop_eq_nil_of_le (by omega),Zu6] at hsel
      subst hsel
      simp [-Int.natCast_add,-List.getD_eq_getElem?_getD,Za u42 Zrw rfl,Za0 u42 Zrv,x4,q1]
      generalize hra:Zan _ _ _ _ _ _=ra
      obtain⟨m5,b5,f5,rfl,n5,s5,c5,k5⟩:=fin hra
      simp [-Int.natCast_add,-List.getD_eq_getElem?_getD,wj]
      exact ih2 _ _ _ _ ⟨j+1,some ⟨b5,0,none⟩,f5,rfl,by omega,n5,s5,fun _=>c5,k5,rfl⟩ (by omega) (by repeat' constructor)
   ·have hh':Zaq (Za1 u (v:Int)).1=false:=by simpa using hh
    obtain⟨c1,c21⟩:o≠1∧o≠21:=by
     rw [hy,ho] at hh'
     simp [Zaq] at hh'
     exact⟨hh'.2,hh'.1⟩
    have ePj:Za6 u loc pr from_ V.ws (l.take j)=P:=by
     rw [← hP]
     conv=>rhs;rw [etd]
     rw [Zmc _ _ (by rw [hhl2,elt]),Zem hh',List.append_nil]
    have ejP:j=P.length:=by rw [← ePj,hhl2]
    rw [ePj] at sLV
    simp [-Int.natCast_add,-List.getD_eq_getElem?_getD,x0,i1,jm,hlt,li,uu2,v2,hvn,ldx,hyb,hmN,x0N,uu2N,liN,ldxN,eV,y0,c1,c21]
    exact Zll (E:=[(1,.pointer (some ⟨hb,0,none⟩)),(2,.slice lo loc.length loc.length),(3,.int .i64 wish),(4,.int .i64 fuel),(5,.pointer (some ⟨ub,0,none⟩)),(10,.pointer (some ⟨rb,0,none⟩)),(11,.slice (some ⟨wb,0,none⟩) (nv u) (nv u)),(12,.int .i64 V.steps),(13,.int .i64 polls),(14,.int .i64 (b:Nat)),(15,.int .i64 from_),(16,.pointer (some ⟨xb,0,none⟩)),(17,.slice so1 P.length P.length),(18,.int .i64 (P.length:Nat)),(22,.int .i64 0)]) (meth mV so1 ⟨sf,by rw [← ejP];exact sLV,fun q=>⟨(hsf1 q).1,hsf1' q⟩,kGV⟩) ⟨by rfl,by rfl,by rfl,by rfl,by rfl,by rfl,by rfl,by rfl,by rfl,by rfl,by rfl,by rfl,by rw [← ejP];rfl,by rw [← ejP];rfl,by rfl,trivial⟩
  ·have i1:¬ (j:Int) < l.length:=by omega
   have ej:j=l.length:=by omega
   have ePj:Za6 u loc pr from_ V.ws (l.take j)=P:=by rw [← hP,List.take_of_length_le (by omega)]
   have ejP:j=P.length:=by rw [← ePj,hhl2]
   rw [ePj] at sL
   simp [-Int.natCast_add,-List.getD_eq_getElem?_getD,x0,i1]
   exact Zll (E:=[(1,.pointer (some ⟨hb,0,none⟩)),(2,.slice lo loc.length loc.length),(3,.int .i64 wish),(4,.int .i64 fuel),(5,.pointer (some ⟨ub,0,none⟩)),(10,.pointer (some ⟨rb,0,none⟩)),(11,.slice (some ⟨wb,0,none⟩) (nv u) (nv u)),(12,.int .i64 V.steps),(13,.int .i64 polls),(14,.int .i64 (b:Nat)),(15,.int .i64 from_),(16,.pointer (some ⟨xb,0,none⟩)),(17,.slice so1 P.length P.length),(18,.int .i64 (P.length:Nat)),(22,.int .i64 0)]) (meth mI so1 ⟨sf,by rw [← ejP];exact sL,hsf1,kI⟩) ⟨by rfl,by rfl,by rfl,by rfl,by rfl,by rfl,by rfl,by rfl,by rfl,by rfl,by rfl,by rfl,by rw [← ejP];rfl,by rw [← ejP];rfl,by rfl,trivial⟩
 rintro mX so1 ⟨sf,sP,hsf2,kX⟩
 have kGX:Zaa mF mX []:=kG.trans kX
 have hX:=hF.keep0 kGX
 have oXX:=oX.keep kX (by simp)
 have kmX:Zaa m mX [hwf]:=kmG.trans (kX.nil (fs:=[hwf]))
 have hPw:Wd P:=by rw [← hP];exact Zt1 hF.wd hlw _
 have fbd:wb < xb∧hwf < wb∧xb≤fX∧fX < mG.next:=by have:=oX.flt;omega
 have nX1:=kX.1
 have nqw:∀ f∈[wb,hwf],¬ Q f:=by
  intro f hf'
  simp at hf'
  rcases hf' with q | q
  ·rw [q,← eK6];exact hF.nq.2.2.1
  ·rw [q];exact hhq.2
 refine Zai 325 [331,337,344] (fun d2 E mI=>∃ (j:Nat),P.length - j=d2∧j≤P.length∧Rf Q mI u K { V with ws:=Zna l P j V.ws,steps:=V.steps+j }∧Zaa mX mI [wb]∧
  E=[(1,.pointer (some ⟨hb,0,none⟩)),(2,.slice lo loc.length loc.length),(3,.int .i64 wish),(4,.int .i64 fuel),(5,.pointer (some ⟨ub,0,none⟩)),(10,.pointer (some ⟨rb,0,none⟩)),(11,.slice (some ⟨wb,0,none⟩) (nv u) (nv u)),(12,.int .i64 (V.steps+(j:Nat))),(13,.int .i64 polls),(14,.int .i64 (b:Nat)),(15,.int .i64 from_),(16,.pointer (some ⟨xb,0,none⟩)),(17,.slice so1 P.length P.length),(18,.int .i64 (P.length:Nat)),(22,.int .i64 (j:Nat))]) _
  ⟨_,⟨0,rfl,by omega,hX.mv rfl rfl rfl,Ziu _,rfl⟩,⟨by rfl,by rfl,by rfl,by rfl,by rfl,by rfl,by rfl,by simp,by rfl,by rfl,by rfl,by rfl,by rfl,by rfl,by rfl,trivial⟩⟩ ?_
 rintro d2 E mI ih2 ⟨j,hd2,hj,hI,kI,rfl⟩
 have jm:(j:Int)≤9223372036854775807:=by omega
 have kXI:Zaa mX mI [wb,hwf]:=kI.mono (by simp)
 by_cases hjt:j < P.length
 ·have j1:(j:Int) < P.length:=by omega
  have wj:IntKind.i64.wrap ((j:Int)+1)=((j+1:Nat):Int):=by rw [Zab (by omega) (by omega)];omega
  have ws1:IntKind.i64.wrap (V.steps+(j:Int)+1)=V.steps+((j+1:Nat):Int):=by rw [Zab (by omega) (by omega)];omega
  have hjl:j < l.length:=by omega
  have hjl1:(j:Int) < l.length:=by omega
  have x0:=(oXX.keep kI (by simp;omega)).load1 (off:=0) rfl
  obtain⟨lb,hlb,li⟩:=((hvl.keep kGX (by simp)).keep kI (by simp;exact nqw wb (by simp))).get hjl
  have x0:loadRow mI ⟨xb,0,none⟩ 1=some [.slice (some ⟨lb,0,none⟩) l.length l.length]:=by rw [x0,exl,hlb]
  obtain⟨v,ev⟩:∃ v:Nat,l.getD j 0=(v:Int):=⟨(l.getD j 0).toNat,by have:=Bvin _ (Zas hjl);omega⟩
  have hvn:v < nv u:=by have:=Bvin _ (Zas hjl);omega
  rw [ev] at li
  have v1:(v:Int) < nv u:=by omega
  have v2:(v:Int)≤9223372036854775807:=by omega
  obtain⟨pb,hpb,oPb⟩:=(sP.keepz kI (by
   intro q
   have:=hsf2 q
   simp;omega)).rs.rdo (by omega)
  have lp:=oPb.load1 (off:=j) (Zbs hjt)
  obtain⟨mJ,eJ,hJ,kJ⟩:=hI.setw hvn (hPw.at_ j)
  rw [eK5] at eJ
  rw [eK6] at kJ
  simp [-Int.natCast_add,-List.getD_eq_getElem?_getD,x0,j1,jm,hjl,li,hpb,hjt,lp,v2,hvn,eJ,wj,ws1]
  exact ih2 _ _ _ _ ⟨j+1,rfl,by omega,hJ.mv rfl rfl (by show Zna l P (j+1) V.ws=_;rw [Zna,ev,Int.toNat_natCast]),kI.trans kJ,rfl⟩ (by omega) ⟨by rfl,by rfl,by rfl,by rfl,by rfl,by rfl,by rfl,by rfl,by rfl,by rfl,by rfl,by rfl,by rw [hpb];rfl,by rfl,by rfl,trivial⟩
 have j1:¬ (j:Int) < P.length:=by omega
 have ej:j=P.length:=by omega
 subst ej
 clear ih2
 simp [-Int.natCast_add,-List.getD_eq_getElem?_getD,j1]
 have eV1:Znc u loc from_ b V={ V with ws:=Zna l P P.length V.ws,steps:=V.steps+(P.length:Nat) }:=by unfold Znc;rw [hl,hpr,hP]
 rw [eV1] at hrun
 obtain⟨V1,hV1⟩:∃ V1:Vv,({ V with ws:=Zna l P P.length V.ws,steps:=V.steps+(P.length:Nat) }:Vv)=V1:=⟨_,rfl⟩
 rw [hV1] at hrun hI
 have hs1:V1.steps=V.steps+(P.length:Nat):=by rw [← hV1]
 have hw1:V1.wish=V.wish:=by rw [← hV1]
 have hk1:fuel < V1.steps+k:=by omega
 obtain⟨R1,hR1⟩:∃ R1,Zcq u fuel l V1=R1:=⟨_,rfl⟩
 have hR1':Zcq u fuel (l.drop P.length) V1=R1:=by
  have:=Zl6 (u:=u) (loc:=loc) (pr:=pr) (from_:=from_) (ws:=V.ws) (f:=fuel) (V:=V1) l
  rw [hP] at this
  rw [← this];exact hR1
 refine Zai 325 [331,337,344] (fun d2 E mJ=>∃ (i:Nat) (V':Vv) (pl:Int),l.length - i=d2∧i≤l.length∧P.length≤i∧Zcq u fuel (l.drop i) V'=R1∧V1.steps≤V'.steps∧V'.steps≤3000000∧Ybg wish pl V'.wish∧pl≤V'.steps∧Rf Q mJ u K V'∧Zaa mX mJ [wb,hwf]∧
  E=[(1,.pointer (some ⟨hb,0,none⟩)),(2,.slice lo loc.length loc.length),(3,.int .i64 wish),(4,.int .i64 fuel),(5,.pointer (some ⟨ub,0,none⟩)),(10,.pointer (some ⟨rb,0,none⟩)),(11,.slice (some ⟨wb,0,none⟩) (nv u) (nv u)),(12,.int .i64 V'.steps),(13,.int .i64 pl),(14,.int .i64 (b:Nat)),(15,.int .i64 from_),(16,.pointer (some ⟨xb,0,none⟩)),(18,.int .i64 (i:Nat))]) _
  ⟨_,⟨P.length,V1,polls,rfl,hPl,Nat.le_refl _,hR1',Int.le_refl _,by omega,by rw [hw1];exact hpol,by omega,hI,kXI,rfl⟩,⟨by rfl,by rfl,by rfl,by rfl,by rfl,by rfl,by rfl,by rw [hs1];rfl,by rfl,by rfl,by rfl,by rfl,by rfl,trivial⟩⟩ ?_
 rintro d2 E mJ ih2 ⟨i,V',pl,hd2,hi,hPi,Za6,hst,hst3,hpol',hpl',hJ,kJ,rfl⟩
 have im:(i:Int)≤9223372036854775807:=by omega
 have kmJ:Zaa m mJ [hwf]:=Zay kmX kJ (by simp;omega)
 have kXJ1:=kJ.1
 have oXJ:=oXX.keep kJ (by simp;omega)
 by_cases hlt:i < l.length
 ·have i1:(i:Int) < l.length:=by omega
  have wi:IntKind.i64.wrap ((i:Int)+1)=((i+1:Nat):Int):=by rw [Zab (by omega) (by omega)];omega
  have x0:=oXJ.load1 (off:=0) rfl
  obtain⟨lb,hlb,li⟩:=((hvl.keep kGX (by simp)).keep kJ nqw).get hlt
  have x0:loadRow mJ ⟨xb,0,none⟩ 1=some [.slice (some ⟨lb,0,none⟩) l.length l.length]:=by rw [x0,exl,hlb]
  have hdrop:l.drop i=l.getD i 0::l.drop (i+1):=by
   rw [List.drop_eq_getElem_cons hlt,List.getD_eq_getElem?_getD,List.getElem?_eq_getElem hlt];rfl
  have hnh:Zaq (Za1 u (l.getD i 0)).1=false:=by
   have:=Zvs hd hbn (loc:=loc) (pr:=pr) (from_:=from_) (ws:=V.ws) (i:=i) (by rw [hl,hP];exact hPi) (by rw [hl];exact hlt)
   rw [hl] at this;exact this
  obtain⟨v,ev⟩:∃ v:Nat,l.getD i 0=(v:Int):=⟨(l.getD i 0).toNat,by have:=Bvin _ (Zas hlt);omega⟩
  have hvn:v < nv u:=by have:=Bvin _ (Zas hlt);omega
  rw [ev] at li hdrop hnh
  obtain⟨y,hy⟩:∃ y:Zbj.D,Za1 u (v:Int)=y:=⟨_,rfl⟩
  have hmem:y∈u.2.2.1:=by rw [← hy,Zeg hvn];exact List.getElem_mem hvn
  rw [hy] at hnh
  have n21:y.1≠21∧y.1≠1:=by simpa [Zaq] using hnh
  rw [hdrop,Zcq,hy] at Za6
  dsimp only at Za6
  rw [if_neg (fun q=>q.elim n21.1 n21.2)] at Za6
  have v1:(v:Int) < nv u:=by omega
  have v2:(v:Int)≤9223372036854775807:=by omega
  by_cases ft:fuel≤V'.steps
  ·rw [if_pos ft] at Za6
   obtain⟨m2,e2,l2,hA2⟩:=trf mJ V' hJ kmJ (by rw [← hrun];exact Zw hk1 (by rw [hl,hR1,← Za6]))
   simp [-Int.natCast_add,-List.getD_eq_getElem?_getD,Zdf Zwp,Zau Z7n,x0,i1,ft,e2,l2]
   exact hA2
  rw [if_neg ft] at Za6
  have ft':V'.steps < fuel:=by omega
  have wst:IntKind.i64.wrap (V'.steps+1)=V'.steps+1:=Zab (by omega) (by omega)
  obtain⟨vb,ao,fa,hxv,ldx,hra,hqa⟩:=Zh hJ.unit hvn
  rw [eK11] at hxv
  rw [← Zeg hvn,hy] at ldx hra hqa
  have oUJ:=hJ.un
  rw [eK1,eK2,eK11,eK12,eK13] at oUJ
  have uu2:=oUJ.load1 (off:=2) rfl
  rw [hxv] at uu2
  obtain⟨mV,fV,eV,oV,kV,nV⟩:=Zqy (m:=mJ) (zs:=[.int .i64 0,.int .i64 0,.int .i64 0,.int .i64 0,.slice none 0 0,.int .i64 0]) (vs:=Zkr y ao) (e:=38) rfl (by simp [Zam,Zad])
  obtain⟨yb,hyb⟩:∃ yb,mJ.next=yb:=⟨_,rfl⟩
  rw [hyb] at eV oV nV
  have hV:=hJ.keep0 kV
  have kmV:Zaa m mV [hwf]:=kmJ.trans (kV.nil (fs:=[hwf]))
  have kXV:Zaa mX mV [wb,hwf]:=kJ.trans (kV.nil (fs:=[wb,hwf]))
  have hx:=hok.vl y hmem n21.2 n21.1
  have hk1000:V'.hw.length≤1000000:=by have:=hJ.hl;omega
  have oUV:=hV.un
  rw [eK1,eK2,eK11,eK12,eK13] at oUV
  have lU:=oUV.load (off:=0) 5 (by simp)
  simp [Zao] at lU
  have oWV:=hV.wds
  rw [eK5,eK6] at oWV
  have y0:=oV.load1 (off:=0) rfl
  have y1:=oV.load1 (off:=1) rfl
  have y2:=oV.load1 (off:=2) rfl
  have y3:=oV.load1 (off:=3) rfl
  have y4:=oV.load1 (off:=4) rfl
  have y5:=oV.load1 (off:=5) rfl
  have hraV:=hra.keep kV (by simp)
  have kV1:=kV.1
  obtain⟨o,ho⟩:∃ o:Int,y.1=o:=⟨_,rfl⟩
  obtain⟨n,hn⟩:∃ n:Int,y.2.2.2.1=n:=⟨_,rfl⟩
  rw [ho] at y0
  rw [hn] at y3
  have hn64:-9223372036854775808≤n∧n≤9223372036854775807:=by have:=hx.n;rw [hn] at this;exact this
  have ho2:2≤o∧o≤23:=by have:=hx.op;rw [ho] at this;exact⟨this.1,this.2.1⟩
  obtain⟨av,hav⟩:∃ av,Zsz V'.ws (Zcc y)=av:=⟨_,rfl⟩
  obtain⟨bv,hbv⟩:∃ bv,Zts V'.ws (Zcc y)=bv:=⟨_,rfl⟩
  have wav:wd av:=hav ▸ Zys hV.wd
  have wbv:wd bv:=hbv ▸ Zy2 hV.wd
  have hD:Zm4 y v V'.hw V'.ws=Zlc o n av bv V'.hw V'.ws v:=by unfold Zm4;rw [hav,hbv,ho];exact congrArg (fun z=>Zlc o z av bv V'.hw V'.ws v) hn
  have hE:Zlb y V'.hw V'.ws=Zk5 o n av bv (Z0w y V'.ws) V'.hw:=by unfold Zlb;rw [hav,hbv,ho];exact congrArg (fun z=>Zk5 o z av bv (Z0w y V'.ws) V'.hw) hn
  have fA:Zc5 o=true∨Zgb o=true→∃ a:Nat,y.2.1=(a:Int)∧a < nv u∧loadRow mV ⟨wb,a,none⟩ 1=some [.int .u64 av]:=by
   intro q
   obtain⟨q1,q2⟩:Zsz V'.ws (Zcc y)=V'.ws.getD (show Int from y.2.1).toNat 0∧(y.2.1:Int)∈Zcc y:=by
    rcases q with q | q
    ·have:=Zui V'.ws (x:=y) (by rw [ho];exact q);exact⟨this.1,this.2.2.1⟩
    ·have:=Zlm V'.ws (x:=y) (by rw [ho];exact q);exact⟨this.1,this.2.2⟩
   obtain⟨q3,q4⟩:=hx.us _ q2
   obtain⟨a,ea⟩:∃ a:Nat,(show Int from y.2.1)=(a:Int):=⟨_,(Int.toNat_of_nonneg q3).symm⟩
   have ha:a < nv u:=by rw [show (y.2.1:Int)=(a:Int) from ea] at q4;omega
   refine⟨a,ea,ha,?_⟩
   rw [oWV.load1 (off:=a) (Zbs (by rw [hV.len];exact ha)),← hav,q1,ea];rfl
  have fB:Zc5 o=true→∃ c:Nat,y.2.2.1=(c:Int)∧c < nv u∧loadRow mV ⟨wb,c,none⟩ 1=some [.int .u64 bv]:=by
   intro q
   obtain⟨_,q1,_,q2⟩:=Zui V'.ws (x:=y) (by rw [ho];exact q)
   obtain⟨q3,q4⟩:=hx.us _ q2
   obtain⟨a,ea⟩:∃ a:Nat,(show Int from y.2.2.1)=(a:Int):=⟨_,(Int.toNat_of_nonneg q3).symm⟩
   have ha:a < nv u:=by rw [show (y.2.2.1:Int)=(a:Int) from ea] at q4;omega
   refine⟨a,ea,ha,?_⟩
   rw [oWV.load1 (off:=a) (Zbs (by rw [hV.len];exact ha)),← hbv,q1,ea];rfl
  have b0:Zgb o=true→bv=0:=fun q=>by rw [← hbv];exact (Zlm V'.ws (x:=y) (by rw [ho];exact q)).2.1
  by_cases lv:Zeo y V'.ws V'.wish=true
  ·rw [if_pos lv] at Za6
   obtain⟨s0,s1⟩:=hok.lv _ hmem (Zkf lv)
   obtain⟨st,est⟩:∃ st:Nat,(show Int from y.2.2.2.2.2.1)=(st:Int):=⟨_,(Int.toNat_of_nonneg s0).symm⟩
   have hst':st < ns u:=by
    have:(show Int from y.2.2.2.2.2.1) < (ns u:Int):=s1
    omega
   rw [show y.2.2.2.2.2.1=(st:Int) from est] at y5
   have hR:R0=.left { V' with steps:=V'.steps+1,wish:=Zcl y V'.wish } st (v:Int):=by
    rw [← hrun]
    refine Zyk hk1 ?_
    rw [hl,hR1,← Za6]
    have e5:Int.toNat (show Int from y.2.2.2.2.2.1)=st:=by rw [est];exact Int.toNat_natCast st
    exact congrArg (fun z=>Ro.left _ z _) e5
   obtain⟨fo,m6,m7,cF,e7,l7,hA7⟩:=lvf mV V' { V' with steps:=V'.steps+1,wish:=Zcl y V'.wish } st (v:Int) hV kmV (by omega) hst' rfl rfl rfl hR
   dsimp only at cF e7 l7 hA7
   by_cases c22:o=22
   ·obtain⟨a,ea,ha,la⟩:=fA (Or.inr (by rw [c22];rfl))
    rw [ea] at y1
    have a1:(a:Int) < nv u:=by omega
    have a2:(a:Int)≤9223372036854775807:=by omega
    have av0:av=0:=by
     unfold Zeo at lv
     rw [if_pos (by rw [ho,c22])] at lv
     rw [← hav,(Zlm V'.ws (x:=y) (by rw [ho,c22];rfl)).1]
     simpa using lv
    simp [-Int.natCast_add,-List.getD_eq_getElem?_getD,Zdf Zwp,x0,i1,im,hlt,li,ft,wst,uu2,v2,hvn,ldx,hyb,eV,y0,c22,y1,ha,a2,la,av0,lU,y5,cF,e7,l7]
    exact hA7
   ·have c23:o=23:=by
     have:=Zkf lv
     rw [ho] at this
     exact this.resolve_left c22
    have w0:V'.wish=0:=by
     unfold Zeo at lv
     rw [if_neg (by rw [ho];exact c22),if_pos (by rw [ho,c23])] at lv
     simpa using lv
    obtain⟨w1,w2⟩:0≤wish∧pl=wish:=by
     obtain⟨q1,q2⟩:=hpol'
     rw [w0] at q2
     omega
    simp [-Int.natCast_add,-List.getD_eq_getElem?_getD,Zdf Zwp,x0,i1,im,hlt,li,ft,wst,uu2,v2,hvn,ldx,hyb,eV,y0,c23,w1,w2,lU,y5,cF,e7,l7]
    exact hA7
  rw [if_neg lv,Int.toNat_natCast] at Za6
  obtain⟨V2,hV2⟩:∃ V2:Vv,({ V' with steps:=V'.steps+1,wish:=Zcl y V'.wish,hw:=Zlb y V'.hw V'.ws,ws:=Zm4 y v V'.hw V'.ws }:Vv)=V2:=⟨_,rfl⟩
  rw [hV2] at Za6
  have hV2s:V2.steps=V'.steps+1:=by rw [← hV2]
  have hV2w:V2.wish=Zcl y V'.wish:=by rw [← hV2]
  have hV2h:V2.hw=Zk5 o n av bv (Z0w y V'.ws) V'.hw:=by rw [← hV2,← hE]
  have hV2d:V2.ws=Zlc o n av bv V'.hw V'.ws v:=by rw [← hV2,← hD]
  have hV2b:V2.hwb=V'.hwb:=by rw [← hV2]
  by_cases c23:o=23
  ·have w0:V'.wish≠0:=by
    intro q
    apply lv
    unfold Zeo
    rw [if_neg (by rw [ho,c23];decide),if_pos (by rw [ho,c23])]
    simpa using q
   obtain⟨q1,q2⟩:=hpol'
   have wpl:IntKind.i64.wrap (pl+1)=pl+1:=Zab (by omega) (by omega)
   have hR5:Rf Q mV u K V2:=hV.mv hV2b (by rw [hV2h,c23];simp [Zk5]) (by rw [hV2d,c23];simp [Zlc])
   have hlw:Zcl y V'.wish=if 0 < V'.wish then V'.wish - 1 else V'.wish:=by
    unfold Zcl
    by_cases q:0 < V'.wish
    ·rw [if_pos ⟨by rw [ho,c23],q⟩,if_pos q]
    ·rw [if_neg (fun z=>q z.2),if_neg q]
   by_cases w1:0≤wish
   ·have q3:V'.wish=wish - pl∧0≤V'.wish:=by omega
    have w2:¬ pl=wish:=by omega
    rw [if_pos (by omega)] at hlw
    simp [-Int.natCast_add,-List.getD_eq_getElem?_getD,x0,i1,im,hlt,li,ft,wst,uu2,v2,hvn,ldx,hyb,eV,y0,c23,w1,w2,wpl,wi]
    exact ih2 _ _ _ _ ⟨i+1,V2,(pl+1),rfl,by omega,by omega,Za6,by omega,by omega,⟨by omega,Or.inr ⟨w1,by rw [hV2w,hlw];omega,by rw [hV2w,hlw];omega⟩⟩,by omega,hR5,kXV,rfl⟩ (by omega) ⟨by rfl,by rfl,by rfl,by rfl,by rfl,by rfl,by rfl,by rw [hV2s];rfl,by rfl,by rfl,by rfl,by rfl,by rfl,trivial⟩
   ·have q3:V'.wish=wish:=by omega
    rw [if_neg (by omega)] at hlw
    simp [-Int.natCast_add,-List.getD_eq_getElem?_getD,x0,i1,im,hlt,li,ft,wst,uu2,v2,hvn,ldx,hyb,eV,y0,c23,w1,wpl,wi]
    exact ih2 _ _ _ _ ⟨i+1,V2,(pl+1),rfl,by omega,by omega,Za6,by omega,by omega,⟨by omega,Or.inl ⟨by omega,by rw [hV2w,hlw,q3]⟩⟩,by omega,hR5,kXV,rfl⟩ (by omega) ⟨by rfl,by rfl,by rfl,by rfl,by rfl,by rfl,by rfl,by rw [hV2s];rfl,by rfl,by rfl,by rfl,by rfl,by rfl,trivial⟩
  rw [Zws (by rw [ho];exact c23)] at hV2w
  have setv:∀ {w:Int},(0≤w∧w≤18446744073709551615)→V2.hw=V'.hw→V2.ws=V'.ws.set v w→∃ m5,Zaf mV ⟨wb,v,none⟩ [.int .u64 w]=some m5∧Rf Q m5 u K V2∧Zaa mX m5 [wb,hwf]:=by
   intro w hw' h1 h2
   obtain⟨m5,e5,h5,k5⟩:=hV.setw hvn hw'
   rw [eK5] at e5
   rw [eK6] at k5
   exact⟨m5,e5,h5.mv hV2b h1 h2,kXV.trans (k5.mono (by simp))⟩
  by_cases c2:o=2
  ·obtain⟨m5,e5,h5,k5⟩:=setv (w:=IntKind.u64.wrap n) (Zds n) (by rw [hV2h,c2];simp [Zk5]) (by rw [hV2d,c2];simp [Zlc])
   simp [-Int.natCast_add,-List.getD_eq_getElem?_getD,x0,i1,im,hlt,li,ft,wst,uu2,v2,hvn,ldx,hyb,eV,y0,c2,y3,e5,wi]
   exact ih2 _ _ _ _ ⟨i+1,V2,pl,rfl,by omega,by omega,Za6,by omega,by omega,by rw [hV2w];exact hpol',by omega,h5,k5,rfl⟩ (by omega) ⟨by rfl,by rfl,by rfl,by rfl,by rfl,by rfl,by rfl,by rw [hV2s];rfl,by rfl,by rfl,by rfl,by rfl,by rfl,trivial⟩
  have wq:wd (V'.hw.getD av.toNat 0):=hV.hwd.at_ _
  by_cases c15:o=15
  ·obtain⟨a,ea,ha,la⟩:=fA (Or.inr (by rw [c15];rfl))
   rw [ea] at y1
   have a1:(a:Int) < nv u:=by omega
   have a2:(a:Int)≤9223372036854775807:=by omega
   have c:=Zzn hN.type hN.word hV.heap wav.1 hk1000 hV.hwd
   rw [eK7] at c
   have qw:IntKind.u64.wrap (V'.hw.getD av.toNat 0 / 4294967296)=V'.hw.getD av.toNat 0 / 4294967296:=by unfold wd at wq;exact Zbh (by omega) (by omega)
   obtain⟨m5,e5,h5,k5⟩:=setv (w:=V'.hw.getD av.toNat 0 / 4294967296) (by unfold wd at wq;omega) (by rw [hV2h,c15];simp [Zk5]) (by rw [hV2d,c15];simp [Zlc])
   simp [-Int.natCast_add,-List.getD_eq_getElem?_getD,x0,i1,im,hlt,li,ft,wst,uu2,v2,hvn,ldx,hyb,eV,y0,c15,y1,ha,a2,la,c,qw,e5,wi]
   exact ih2 _ _ _ _ ⟨i+1,V2,pl,rfl,by omega,by omega,Za6,by omega,by omega,by rw [hV2w];exact hpol',by omega,h5,k5,rfl⟩ (by omega) ⟨by rfl,by rfl,by rfl,by rfl,by rfl,by rfl,by rfl,by rw [hV2s];rfl,by rfl,by rfl,by rfl,by rfl,by rfl,trivial⟩
  by_cases c16:o=16
  ·obtain⟨a,ea,ha,la⟩:=fA (Or.inr (by rw [c16];rfl))
   rw [ea] at y1
   have a1:(a:Int) < nv u:=by omega
   have a2:(a:Int)≤9223372036854775807:=by omega
   have c:=Zuu hN.len hN.word hV.heap wav.1 hk1000 hV.hwd
   rw [eK7] at c
   have qw:IntKind.u64.wrap (V'.hw.getD av.toNat 0 % 4294967296)=V'.hw.getD av.toNat 0 % 4294967296:=by unfold wd at wq;exact Zbh (by omega) (by omega)
   obtain⟨m5,e5,h5,k5⟩:=setv (w:=V'.hw.getD av.toNat 0 % 4294967296) (by unfold wd at wq;omega) (by rw [hV2h,c16];simp [Zk5]) (by rw [hV2d,c16];simp [Zlc])
   simp [-Int.natCast_add,-List.getD_eq_getElem?_getD,x0,i1,im,hlt,li,ft,wst,uu2,v2,hvn,ldx,hyb,eV,y0,c16,y1,ha,a2,la,c,qw,e5,wi]
   exact ih2 _ _ _ _ ⟨i+1,V2,pl,rfl,by omega,by omega,Za6,by omega,by omega,by rw [hV2w];exact hpol',by omega,h5,k5,rfl⟩ (by omega) ⟨by rfl,by rfl,by rfl,by rfl,by rfl,by rfl,by rfl,by rw [hV2s];rfl,by rfl,by rfl,by rfl,by rfl,by rfl,trivial⟩
  by_cases c17:o=17
  ·obtain⟨a,ea,ha,la⟩:=fA (Or.inr (by rw [c17];rfl))
   rw [ea] at y1
   have a1:(a:Int) < nv u:=by omega
   have a2:(a:Int)≤9223372036854775807:=by omega
   have c:=Zi7 hN.word hV.heap (Zds (av+IntKind.u64.wrap n)).1 hk1000
   rw [eK7] at c
   obtain⟨m5,e5,h5,k5⟩:=setv (w:=V'.hw.getD (IntKind.u64.wrap (av+IntKind.u64.wrap n)).toNat 0) (hV.hwd.at_ _) (by rw [hV2h,c17];simp [Zk5]) (by rw [hV2d,c17];simp [Zlc])
   simp [-Int.natCast_add,-List.getD_eq_getElem?_getD,x0,i1,im,hlt,li,ft,wst,uu2,v2,hvn,ldx,hyb,eV,y0,c17,y1,ha,a2,la,y3,c,e5,wi]
   exact ih2 _ _ _ _ ⟨i+1,V2,pl,rfl,by omega,by omega,Za6,by omega,by omega,by rw [hV2w];exact hpol',by omega,h5,k5,rfl⟩ (by omega) ⟨by rfl,by rfl,by rfl,by rfl,by rfl,by rfl,by rfl,by rw [hV2s];rfl,by rfl,by rfl,by rfl,by rfl,by rfl,trivial⟩
  by_cases c18:o=18
  ·obtain⟨a,ea,ha,la⟩:=fA (Or.inl (by rw [c18];rfl))
   rw [ea] at y1
   have a1:(a:Int) < nv u:=by omega
   have a2:(a:Int)≤9223372036854775807:=by omega
   obtain⟨d,ed,hd1,ld⟩:=fB (by rw [c18];rfl)
   rw [ed] at y2
   have d1:(d:Int) < nv u:=by omega
   have d2':(d:Int)≤9223372036854775807:=by omega
   have c:=Zi7 hN.word hV.heap (Zds (IntKind.u64.wrap (av+1)+bv)).1 hk1000
   rw [eK7] at c
   obtain⟨m5,e5,h5,k5⟩:=setv (w:=V'.hw.getD (IntKind.u64.wrap (IntKind.u64.wrap (av+1)+bv)).toNat 0) (hV.hwd.at_ _) (by rw [hV2h,c18];simp [Zk5]) (by rw [hV2d,c18];simp [Zlc])
   simp [-Int.natCast_add,-List.getD_eq_getElem?_getD,x0,i1,im,hlt,li,ft,wst,uu2,v2,hvn,ldx,hyb,eV,y0,c18,y1,ha,a2,la,y2,hd1,d2',ld,c,e5,wi]
   exact ih2 _ _ _ _ ⟨i+1,V2,pl,rfl,by omega,by omega,Za6,by omega,by omega,by rw [hV2w];exact hpol',by omega,h5,k5,rfl⟩ (by omega) ⟨by rfl,by rfl,by rfl,by rfl,by rfl,by rfl,by rfl,by rw [hV2s];rfl,by rfl,by rfl,by rfl,by rfl,by rfl,trivial⟩
  by_cases c19:o=19
  ·obtain⟨a,ea,ha,la⟩:=fA (Or.inl (by rw [c19];rfl))
   rw [ea] at y1
   have a1:(a:Int) < nv u:=by omega
   have a2:(a:Int)≤9223372036854775807:=by omega
   obtain⟨d,ed,hd1,ld⟩:=fB (by rw [c19];rfl)
   rw [ed] at y2
   have d1:(d:Int) < nv u:=by omega
   have d2':(d:Int)≤9223372036854775807:=by omega
   obtain⟨m5,e5,h5,k5⟩:=hV.puth hN.put (Zds (av+IntKind.u64.wrap n)).1 wbv
   rw [eK7] at e5
   rw [eK9] at k5
   simp [-Int.natCast_add,-List.getD_eq_getElem?_getD,x0,i1,im,hlt,li,ft,wst,uu2,v2,hvn,ldx,hyb,eV,y0,c19,y1,ha,a2,la,y2,hd1,d2',ld,y3,e5,wi]
   exact ih2 _ _ _ _ ⟨i+1,V2,pl,rfl,by omega,by omega,Za6,by omega,by omega,by rw [hV2w];exact hpol',by omega,h5.mv hV2b (by rw [hV2h,c19];simp [Zk5]) (by rw [hV2d,c19];simp [Zlc]),kXV.trans (k5.mono (by simp)),rfl⟩ (by omega) ⟨by rfl,by rfl,by rfl,by rfl,by rfl,by rfl,by rfl,by rw [hV2s];rfl,by rfl,by rfl,by rfl,by rfl,by rfl,trivial⟩
  by_cases c20:o=20
  ·obtain⟨a,ea,ha,la⟩:=fA (Or.inl (by rw [c20];rfl))
   rw [ea] at y1
   have a1:(a:Int) < nv u:=by omega
   have a2:(a:Int)≤9223372036854775807:=by omega
   obtain⟨d,ed,hd1,ld⟩:=fB (by rw [c20];rfl)
   rw [ed] at y2
   have d1:(d:Int) < nv u:=by omega
   have d2':(d:Int)≤9223372036854775807:=by omega
   have lpos:=hx.a20 (by rw [ho,c20])
   obtain⟨sb,rfl,hsb⟩:=hraV.rdo (by omega)
   have s1:=hsb.load1 (off:=0) (Zce lpos)
   obtain⟨w,ew,hw'⟩:∃ w:Nat,(show List Int from y.2.2.2.2.1).getD 0 0=(w:Int)∧w < nv u:=by
    have h1:(show List Int from y.2.2.2.2.1).getD 0 0∈Zcc y:=by
     have:y.1=20:=by rw [ho,c20]
     unfold Zcc Ze7
     rw [this]
     refine List.mem_append_right _ ?_
     rw [if_pos rfl]
     revert lpos
     generalize y.2.2.2.2.1=l
     intro lpos
     cases l with
     | nil=>simp at lpos
     | cons a r=>simp
    have h2:=hx.us _ h1
    exact⟨((show List Int from y.2.2.2.2.1).getD 0 0).toNat,by omega,by omega⟩
   rw [ew] at s1
   have s2:=oWV.load1 (off:=w) (Zbs (by rw [hV.len];exact hw'))
   have s3:Z0w y V'.ws=V'.ws.getD w 0:=by unfold Z0w;rw [ew];rfl
   have s4:(w:Int) < nv u:=by omega
   have s5:(w:Int)≤9223372036854775807:=by omega
   have s6:=hx.al
   have s7:(y.2.2.2.2.1.length:Int)≤9223372036854775807:=by omega
   have s8:(0:Int) < y.2.2.2.2.1.length:=by omega
   obtain⟨m5,e5,h5,k5⟩:=hV.puth hN.put (Zds (IntKind.u64.wrap (av+1)+bv)).1 (hV.wd.at_ w)
   rw [eK7] at e5
   rw [eK9] at k5
   simp [-Int.natCast_add,-List.getD_eq_getElem?_getD,x0,i1,im,hlt,li,ft,wst,uu2,v2,hvn,ldx,hyb,eV,y0,c20,y1,ha,a2,la,y2,hd1,d2',ld,y4,lpos,s1,hw',s5,s2,e5,wi]
   exact ih2 _ _ _ _ ⟨i+1,V2,pl,rfl,by omega,by omega,Za6,by omega,by omega,by rw [hV2w];exact hpol',by omega,h5.mv hV2b (by rw [hV2h,c20,s3];simp [Zk5]) (by rw [hV2d,c20];simp [Zlc]),kXV.trans (k5.mono (by simp)),rfl⟩ (by omega) ⟨by rfl,by rfl,by rfl,by rfl,by rfl,by rfl,by rfl,by rw [hV2s];rfl,by rfl,by rfl,by rfl,by rfl,by rfl,trivial⟩
  by_cases c22:o=22
  ·obtain⟨a,ea,ha,la⟩:=fA (Or.inr (by rw [c22];rfl))
   rw [ea] at y1
   have a1:(a:Int) < nv u:=by omega
   have a2:(a:Int)≤9223372036854775807:=by omega
   have av0:¬ av=0:=by
    intro q
    apply lv
    unfold Zeo
    rw [if_pos (by rw [ho,c22])]
    have q2:=(Zlm V'.ws (x:=y) (by rw [ho,c22];rfl)).1
    rw [hav,q] at q2
    simpa using q2.symm
   simp [-Int.natCast_add,-List.getD_eq_getElem?_getD,x0,i1,im,hlt,li,ft,wst,uu2,v2,hvn,ldx,hyb,eV,y0,c22,y1,ha,a2,la,av0,wi]
   exact ih2 _ _ _ _ ⟨i+1,V2,pl,rfl,by omega,by omega,Za6,by omega,by omega,by rw [hV2w];exact hpol',by omega,hV.mv hV2b (by rw [hV2h,c22];simp [Zk5]) (by rw [hV2d,c22];simp [Zlc]),kXV,rfl⟩ (by omega) ⟨by rfl,by rfl,by rfl,by rfl,by rfl,by rfl,by rfl,by rw [hV2s];rfl,by rfl,by rfl,by rfl,by rfl,by rfl,trivial⟩
  have n21o:o≠21:=by rw [← ho];exact n21.1
  obtain⟨wt,_,c⟩:=Z3b hN.tw (k:=o) (by omega) wav wbv
  have c:=c mV
  obtain⟨m5,e5,h5,k5⟩:=setv (w:=Z0t o av bv) wt (by rw [hV2h];simp [Zk5,c19,c20]) (by rw [hV2d];simp [Zlc,c2,c15,c16,c17,c18,c19,c20,c22,c23])
  by_cases c8:o=8
  ·obtain⟨a,ea,ha,la⟩:=fA (Or.inr (by rw [c8];rfl))
   rw [ea] at y1
   have a1:(a:Int) < nv u:=by omega
   have a2:(a:Int)≤9223372036854775807:=by omega
   have bz:=b0 (by rw [c8];rfl)
   subst c8
   rw [bz] at c e5
   simp [-Int.natCast_add,-List.getD_eq_getElem?_getD,x0,i1,im,hlt,li,ft,wst,uu2,v2,hvn,ldx,hyb,eV,y0,y1,ha,a2,la,c,e5,wi]
   exact ih2 _ _ _ _ ⟨i+1,V2,pl,rfl,by omega,by omega,Za6,by omega,by omega,by rw [hV2w];exact hpol',by omega,h5,k5,rfl⟩ (by omega) ⟨by rfl,by rfl,by rfl,by rfl,by rfl,by rfl,by rfl,by rw [hV2s];rfl,by rfl,by rfl,by rfl,by rfl,by rfl,trivial⟩
  by_cases c9:o=9
  ·obtain⟨a,ea,ha,la⟩:=fA (Or.inr (by rw [c9];rfl))
   rw [ea] at y1
   have a1:(a:Int) < nv u:=by omega
   have a2:(a:Int)≤9223372036854775807:=by omega
   have bz:=b0 (by rw [c9];rfl)
   subst c9
   rw [bz] at c e5
   simp [-Int.natCast_add,-List.getD_eq_getElem?_getD,x0,i1,im,hlt,li,ft,wst,uu2,v2,hvn,ldx,hyb,eV,y0,y1,ha,a2,la,c,e5,wi]
   exact ih2 _ _ _ _ ⟨i+1,V2,pl,rfl,by omega,by omega,Za6,by omega,by omega,by rw [hV2w];exact hpol',by omega,h5,k5,rfl⟩ (by omega) ⟨by rfl,by rfl,by rfl,by rfl,by rfl,by rfl,by rfl,by rw [hV2s];rfl,by rfl,by rfl,by rfl,by rfl,by rfl,trivial⟩
  have i2:Zc5 o=true:=by
   rcases (by omega:o=3∨o=4∨o=5∨o=10∨o=11∨o=12∨o=13∨o=14∨o=6∨o=7) with rfl | rfl | rfl | rfl | rfl | rfl | rfl | rfl | rfl | rfl <;> rfl
  obtain⟨a,ea,ha,la⟩:=fA (Or.inl i2)
  rw [ea] at y1
  have a1:(a:Int) < nv u:=by omega
  have a2:(a:Int)≤9223372036854775807:=by omega
  obtain⟨d,ed,hd1,ld⟩:=fB i2
  rw [ed] at y2
  have d1:(d:Int) < nv u:=by omega
  have d2':(d:Int)≤9223372036854775807:=by omega
  simp [-Int.natCast_add,-List.getD_eq_getElem?_getD,x0,i1,im,hlt,li,ft,wst,uu2,v2,hvn,ldx,hyb,eV,y0,c2,c15,c16,c17,c18,c19,c20,c22,c23,c8,c9,y1,ha,a2,la,y2,hd1,d2',ld,c,e5,wi]
  exact ih2 _ _ _ _ ⟨i+1,V2,pl,rfl,by omega,by omega,Za6,by omega,by omega,by rw [hV2w];exact hpol',by omega,h5,k5,rfl⟩ (by omega) ⟨by rfl,by rfl,by rfl,by rfl,by rfl,by rfl,by rfl,by rw [hV2s];rfl,by rfl,by rfl,by rfl,by rfl,by rfl,trivial⟩
 ·have i1:¬ (i:Int) < l.length:=by omega
  have ei:i=l.length:=by omega
  clear ih2
  rw [ei,List.drop_length,Zcq] at Za6
  have x0:=oXJ.load1 (off:=0) rfl
  have x0:loadRow mJ ⟨xb,0,none⟩ 1=some [.slice vo' l.length l.length]:=by rw [x0,exl]
  have hgo:Zcq u fuel (vlD u b) V1=.go V':=by rw [hl,hR1,← Za6]
  by_cases ft:fuel≤V'.steps
  ·obtain⟨m2,e2,l2,hA2⟩:=trf mJ V' hJ kmJ (by rw [← hrun];exact Z18 hk1 hgo ft)
   simp [-Int.natCast_add,-List.getD_eq_getElem?_getD,Zdf Zwp,Zau Z7n,x0,i1,ft,e2,l2]
   exact hA2
  have ft':V'.steps < fuel:=by omega
  have wst:IntKind.i64.wrap (V'.steps+1)=V'.steps+1:=Zab (by omega) (by omega)
  have ex1:=oXJ.load1 (off:=1) rfl
  have ex2:=oXJ.load1 (off:=2) rfl
  have ex3:=oXJ.load1 (off:=3) rfl
  have ex5:=oXJ.load1 (off:=5) rfl
  have oUJ:=hJ.un
  rw [eK1,eK2,eK11,eK12,eK13] at oUJ
  have lU:=oUJ.load (off:=0) 5 (by simp)
  simp [Zao] at lU
  obtain⟨en,hen⟩:∃ en:Int,x.2.1=en:=⟨_,rfl⟩
  rw [hen] at ex1
  have hen':(Zbt u b).2.1=en:=by rw [hx,hen]
  obtain⟨nl,hnl⟩:∃ nl:List Int,nxD u b=nl:=⟨_,rfl⟩
  have exn:x.2.2.2.1=nl:=by rw [← hx,← hnl]
  have hnoJ:Za2 Q mJ no' nl:=by
   have h1:Za2 Q mF no' nl:=by rw [← hnl];exact hno'
   exact (h1.keep kGX (by simp)).keep kJ nqw
  have ex3:loadRow mJ ⟨xb,3,none⟩ 1=some [.slice no' nl.length nl.length]:=by rw [ex3,exn]
  have Bnl:nl.length≤1000000:=by rw [← hnl];exact B.nl.1
  have nxt:en≠3→∀ wv,Zhs (Zbt u b) V'.ws=wv→wv < nl.length→∃ (nxb to:Nat),no'=some ⟨nxb,0,none⟩∧loadRow mJ ⟨nxb,wv,none⟩ 1=some [.int .i64 (to:Int)]∧∃ k',Zib u fuel k' to (Znc u loc b to { V' with steps:=V'.steps+1 })=R0∧fuel < V'.steps+1+k'∧to < nb u:=by
   intro e3 wv hwv hwl
   obtain⟨nxb,hnb,ln⟩:=hnoJ.get hwl
   have hm:nl.getD wv 0∈nxD u b:=by rw [hnl];exact Zas hwl
   obtain⟨to,eto⟩:∃ to:Nat,nl.getD wv 0=(to:Int):=⟨(nl.getD wv 0).toNat,by have:=(B.nx _ hm).1;omega⟩
   rw [eto] at ln hm
   obtain⟨k',h1,h2,h3⟩:=Zz7 hd hok loc hbn hk1 hgo ft (by rw [hen'];exact e3) (to:=to) (by rw [hnl,hwv];exact eto) hm
   exact⟨nxb,to,hnb,ln,k',by rw [← h1];exact hrun,h2,h3⟩
  rcases (by have:=hd.en b hbn;rw [hen'] at this;exact this:en=1∨en=2∨en=3) with e1 | e2 | e3
  ·have n0:0 < nl.length:=by
    have:=B.n2 (by rw [hen',e1];decide)
    rw [hen',if_neg (show ¬ en=2 by rw [e1];decide)] at this
    rw [← hnl];exact this
   have n0':(0:Int) < nl.length:=by omega
   have nlm:(nl.length:Int)≤9223372036854775807:=by omega
   obtain⟨nxb,to,hnb,ln,k',hr',hk',htn⟩:=nxt (by omega) 0 (by unfold Zhs;rw [hen',if_neg (fun q=>absurd (e1.symm.trans q.1) (by decide))]) n0
   rw [hnb] at ex3
   simp [-Int.natCast_add,-List.getD_eq_getElem?_getD,x0,i1,ft,wst,ex1,e1,ex3,n0,ln]
   exact ih _ _ _ _ ⟨to,k',(b:Int),pl,{ V' with steps:=V'.steps+1 },rfl,hr',hk',by dsimp only;omega,by dsimp only;omega,htn,by omega,by omega,hpol',by dsimp only;omega,hJ.mv rfl rfl rfl,kmJ,by omega,rfl⟩ (by dsimp only;omega) (by repeat' constructor)
  ·have n1':1 < nl.length:=by
    have:=B.n2 (by rw [hen',e2];decide)
    rw [hen',if_pos e2] at this
    rw [← hnl];exact this
   have n0:0 < nl.length:=by omega
   have n0':(0:Int) < nl.length:=by omega
   have n1'':(1:Int) < nl.length:=by omega
   have nlm:(nl.length:Int)≤9223372036854775807:=by omega
   obtain⟨c0,c1⟩:=B.cd (by rw [hen',e2])
   rw [hx] at c0 c1
   obtain⟨cd,ecd⟩:∃ cd:Nat,(show Int from x.2.2.1)=(cd:Int):=⟨_,(Int.toNat_of_nonneg c0).symm⟩
   rw [show x.2.2.1=(cd:Int) from ecd] at ex2 c1
   have cd1:(cd:Int) < nv u:=c1
   have cd2:cd < nv u:=by omega
   have cd3:(cd:Int)≤9223372036854775807:=by omega
   have oWJ:=hJ.wds
   rw [eK5,eK6] at oWJ
   have lc:=oWJ.load1 (off:=cd) (Zbs (by rw [hJ.len];exact cd2))
   have wf:∀ q:V'.ws.getD cd 0=0,Zhs (Zbt u b) V'.ws=1:=fun q=>by
    unfold Zhs
    rw [hen',if_pos ⟨e2,by rw [hx,show (show Int from x.2.2.1)=(cd:Int) from ecd,Int.toNat_natCast];exact q⟩]
   have wf':∀ q:V'.ws.getD cd 0≠0,Zhs (Zbt u b) V'.ws=0:=fun q=>by
    unfold Zhs
    rw [if_neg (fun z=>q (by have:=z.2;rw [hx,show (show Int from x.2.2.1)=(cd:Int) from ecd,Int.toNat_natCast] at this;exact this))]
   by_cases cz:V'.ws.getD cd 0=0
   ·rw [cz] at lc
    obtain⟨nxb,to,hnb,ln,k',hr',hk',htn⟩:=nxt (by omega) 1 (wf cz) n1'
    rw [hnb] at ex3
    simp [-Int.natCast_add,-List.getD_eq_getElem?_getD,x0,i1,ft,wst,ex1,e2,ex2,cd2,cd3,lc,ex3,n1',ln]
    exact ih _ _ _ _ ⟨to,k',(b:Int),pl,{ V' with steps:=V'.steps+1 },rfl,hr',hk',by dsimp only;omega,by dsimp only;omega,htn,by omega,by omega,hpol',by dsimp only;omega,hJ.mv rfl rfl rfl,kmJ,by omega,rfl⟩ (by dsimp only;omega) (by repeat' constructor)
   ·obtain⟨cw,hcw⟩:∃ cw,V'.ws.getD cd 0=cw:=⟨_,rfl⟩
    have cz':=cz
    rw [hcw] at lc cz'
    obtain⟨nxb,to,hnb,ln,k',hr',hk',htn⟩:=nxt (by omega) 0 (wf' cz) n0
    rw [hnb] at ex3
    simp [-Int.natCast_add,-List.getD_eq_getElem?_getD,x0,i1,ft,wst,ex1,e2,ex2,cd2,cd3,lc,cz',ex3,n0,ln]
    exact ih _ _ _ _ ⟨to,k',(b:Int),pl,{ V' with steps:=V'.steps+1 },rfl,hr',hk',by dsimp only;omega,by dsimp only;omega,htn,by omega,by omega,hpol',by dsimp only;omega,hJ.mv rfl rfl rfl,kmJ,by omega,rfl⟩ (by dsimp only;omega) (by repeat' constructor)
  ·obtain⟨s0,s1⟩:=B.ed (by rw [hen',e3])
   rw [hx] at s0 s1
   obtain⟨st,est⟩:∃ st:Nat,(show Int from x.2.2.2.2.2.1)=(st:Int):=⟨_,(Int.toNat_of_nonneg s0).symm⟩
   have hst':st < ns u:=by
    have:(show Int from x.2.2.2.2.2.1) < (ns u:Int):=s1
    omega
   rw [show x.2.2.2.2.2.1=(st:Int) from est] at ex5
   have hR:R0=.left { V' with steps:=V'.steps+1 } st (-1):=by
    rw [← hrun,Z2y hk1 hgo ft (by rw [hen',e3]),hx]
    have e5:Int.toNat (show Int from x.2.2.2.2.2.1)=st:=by rw [est];exact Int.toNat_natCast st
    exact congrArg (fun z=>Ro.left _ z _) e5
   obtain⟨fo,m6,m7,cF,e7,l7,hA7⟩:=lvf mJ V' { V' with steps:=V'.steps+1 } st (-1) hJ kmJ (by omega) hst' rfl rfl rfl hR
   dsimp only at cF e7 l7 hA7
   simp [-Int.natCast_add,-List.getD_eq_getElem?_getD,Zdf Zwp,x0,i1,ft,wst,ex1,e3,lU,ex5,cF,e7,l7]
   exact hA7
end Go.Proofs.YtlogdohlcdhepaaDoor.base
end
section
set_option maxRecDepth 100000
namespace Go.Proofs.YtlogdohlcdhepaaDoor.base
open Go.Sh gen
section
variable {P:Program}{ρ:Operand→Value}{m:Mem}
def ldS (m:Mem)(v:Value)(z:Nat):Option (List Value × Nat):=match v with
 | .slice (some a) k _=>if k=0 then some ([],0) else (loadRow m a (k * z)).map fun l=>(l,k)
 | .slice none 0 0=>some ([],0)
 | _=>none
theorem Ztj {ty tx e2:TypeId}{z:Nat}(htx:P.underlying tx=some (.slice e2))(hz:Zal P e2=some z)(s x:Operand):Zdx P ρ #[s,x] #[ty,tx] m=match ldS m (ρ x) z with
  | some (news,k)=>Zan P ty m (ρ s) news k
  | none=>apF P ρ #[s,x] #[ty,tx] m:=by
 cases h:ldS m (ρ x) z with
 | none=>rfl
 | some r =>
  obtain⟨news,k⟩:=r
  rw [Za0 htx hz]
  cases hx:ρ x with
  | slice a q c =>
   rw [hx] at h
   cases a with
   | some a =>
    by_cases hk:q=0
    ·subst hk;simp [ldS] at h;simp [← h.1,← h.2]
    ·simp only [ldS,if_neg hk] at h
     cases hl:loadRow m a (q * z) with
     | none=>rw [hl] at h;simp at h
     | some w=>rw [hl] at h;simp at h;obtain⟨rfl,rfl⟩:=h;simp [hk,hl]
   | none =>
    cases q with
    | zero =>
     cases c with
     | zero=>simp [ldS] at h;simp [← h.1,← h.2]
     | succ c=>simp [ldS] at h
    | succ q=>simp [ldS] at h
  | _=>rw [hx] at h;simp [ldS] at h
theorem Z7b {ao:Option Addr}{n:Nat}{cells:List Value}{e z fam:Nat}(h:Rs m ao n cells e z fam):ldS m (.slice ao n n) z=some (cells,n):=by
 by_cases hn:n=0
 ·subst hn
  have hc:cells=[]:=List.length_eq_zero_iff.1 (by rw [← h.1];simp)
  subst hc
  cases ao <;> simp [ldS]
 ·obtain⟨b,rfl,r⟩:=h.rdo hn
  simp only [ldS,if_neg hn]
  rw [r.load (n * z) (by rw [h.1];omega)]
  have e:Zao cells 0 (n * z)=cells:=by rw [h.1];simp [Zao]
  rw [e];rfl
end
variable {u:UnT.D}{B:List Nat}{D:List (List Nat)}
theorem UR.mem (h:UR u B D){b:Nat}(hb:b < nb u){z:Int}(hz:z∈vlD u b):∃ n:Nat,z=n∧n < nv u∧B.getD n 0=b:=by
 rw [h.vl b hb] at hz
 obtain⟨n,h1,h2,h3⟩:=Zee.1 hz
 rw [h.lb] at h2
 exact⟨n,h1,h2,h3⟩
theorem UR.hds (h:UR u B D):Hd u where
 fst:=by
  intro b hb j k hjk hk hh
  have pw:(vlD u b).Pairwise (· < ·):=by rw [h.vl b hb];exact Zi6 B b
  have hlt:=Z3m pw hk hjk
  obtain⟨v,ev,hv,bv⟩:=h.mem hb (Zas (show j < (vlD u b).length by omega))
  obtain⟨w,ew,hw,bw⟩:=h.mem hb (Zas hk)
  rw [ev,ew] at hlt
  rw [ew] at hh
  rw [ev]
  exact h.hd v w (by omega) hw (by rw [bv,bw]) hh
 z:=by
  intro v hv e
  have hb:0 < nb u:=by
   rcases Nat.eq_zero_or_pos (nb u) with q | q
   ·exfalso
    have:vlD u 0=[]:=by
     unfold vlD Zbt
     rw [List.getD_eq_getElem?_getD,List.getElem?_eq_none (by have:(show List Zfk.D from u.2.2.2.1).length=0:=q;omega)]
     rfl
    rw [this] at hv;cases hv
   ·exact q
  obtain⟨n,rfl,h1,h2⟩:=h.mem hb hv
  exact h.h2 n h1 e h2
 nz:=by
  intro b hb h0 v hv e
  obtain⟨n,rfl,h1,h2⟩:=h.mem hb hv
  exact h0 (by rw [← h2];exact h.h1 n h1 e)
 pr:=by
  intro b hb t ht
  obtain⟨t0,t1⟩:=h.nx b hb t ht
  obtain⟨q,rfl⟩:∃ q:Nat,t=q:=⟨t.toNat,by omega⟩
  have hq:q < nb u:=by omega
  rw [Int.toNat_natCast,← h.pr q hq]
  exact (Zic (Zl1 h.ends) hq).2 ⟨hb,ht⟩
 nd:=by
  intro b hb
  have pw:(vlD u b).Pairwise (· < ·):=by rw [h.vl b hb];exact Zi6 B b
  exact pw.imp (fun h=>by omega)
 e0:=h.p0
 en:=by
  intro b hb
  rcases h.en b hb with q | q | q
  ·exact Or.inl q.1
  ·exact Or.inr (Or.inl q.1)
  ·exact Or.inr (Or.inr q.1)
 ph:=by
  intro b hb v hv e
  obtain⟨n,rfl,h1,h2⟩:=h.mem hb hv
  have c:=(h.va n h1).ph e
  rw [h2] at c
  rw [Int.toNat_natCast]
  refine⟨c.1,fun z hz=>?_⟩
  obtain⟨j,hj,rfl⟩:=List.getElem_of_mem hz
  obtain⟨q,_,_,n',e',hn',_⟩:=c.2 j hj
  rw [List.getD_eq_getElem?_getD,List.getElem?_eq_getElem hj] at e'
  have e':(agV u n)[j]=(n':Int):=e'
  rw [e']
  omega
theorem Zqv (v w:Int)(l p:List Int):∀ (j:Nat) (ws:List Int),Zna (v::l) (w::p) (j+1) ws=Zna l p j (ws.set v.toNat w)
 | 0,ws=>rfl
 | j+1,ws=>by
  rw [Zna,Zqv v w l p j ws]
  rfl
theorem Z52 {ws:List Int}{i:Nat}(h:ws.getD i 0=0):ws.set i 0=ws:=by
 apply List.ext_getElem?
 intro j
 rw [List.getElem?_set]
 by_cases e:i=j
 ·subst e
  rw [if_pos rfl]
  by_cases hi:i < ws.length
  ·rw [if_pos hi,List.getElem?_eq_getElem hi]
   rw [List.getD_eq_getElem?_getD,List.getElem?_eq_getElem hi] at h
   exact congrArg some h.symm
  ·rw [if_neg hi,List.getElem?_eq_none (by omega)]
 ·rw [if_neg e]
theorem Zp7 {loc:List Int}:∀ (l:List Int) (p:List Int × Int),(∀ v∈l,(Za1 u v).1≠1)→Zhk u loc l p=p
 | [],p,_=>rfl
 | v::r,p,h=>by
  have e:Zhk u loc (v::r) p=Zhk u loc r (Zsa u loc p v):=rfl
  have e2:Zsa u loc p v=p:=by unfold Zsa;rw [if_neg (h v (by simp))]
  rw [e,e2,Zp7 r p (fun w hw=>h w (by simp [hw]))]
theorem Zxd {loc ws0:List Int}:∀ (l ws:List Int) (k:Int),l.Nodup→(∀ v∈l,(Za1 u v).1≠21)→l.Pairwise (fun v w=>Zaq (Za1 u w).1=true→Zaq (Za1 u v).1=true)→(∀ v∈l,(0:Int)≤v)→(∀ v∈l,ws.getD v.toNat 0=0)→
  Zhk u loc l (ws,k)=(Zna l (Za6 u loc [] (-1) ws0 l) (Za6 u loc [] (-1) ws0 l).length ws,k+((Za6 u loc [] (-1) ws0 l).length:Nat))
 | [],ws,k,_,_,_,_,_=>by simp [Za6,Zna,Zhk]
 | v::r,ws,k,hnd,hz,hpw,hn,h0=>by
  rw [List.nodup_cons] at hnd
  rw [List.pairwise_cons] at hpw
  have e:Zhk u loc (v::r) (ws,k)=Zhk u loc r (Zsa u loc (ws,k) v):=rfl
  by_cases hh:Zaq (Za1 u v).1=true
  ·have h1:(Za1 u v).1=1:=by
    have:=hz v (by simp)
    simpa [Zaq,this] using hh
   rw [Zdg hh,List.length_cons,Zqv,e]
   have ep:Zsa u loc (ws,k) v=(ws.set v.toNat (Zgm u loc [] (-1) ws0 v),k+1):=by
    unfold Zsa Zgm
    rw [if_pos h1,if_pos h1]
    by_cases c:(show Int from (Za1 u v).2.2.2.1) < loc.length
    ·rw [if_pos c,if_pos c]
    ·rw [if_neg c,if_neg c]
     rw [Z52 (h0 v (by simp))]
   rw [ep,Zxd r _ _ hnd.2 (fun w hw=>hz w (by simp [hw])) hpw.2 (fun w hw=>hn w (by simp [hw])) (fun w hw=>by
    have hne:v.toNat≠w.toNat:=fun q=>hnd.1 (by
     have h1:=hn v (by simp)
     have h2:=hn w (by simp [hw])
     have:v=w:=by omega
     rw [this];exact hw)
    rw [List.getD_eq_getElem?_getD,List.getElem?_set_ne hne,← List.getD_eq_getElem?_getD]
    exact h0 w (by simp [hw]))]
   refine Prod.ext rfl ?_
   dsimp only
   omega
  ·have hf:Zaq (Za1 u v).1=false:=by simpa using hh
   rw [Zem hf,Zp7]
   ·simp [Zna]
   ·intro w hw q
    rcases List.mem_cons.1 hw with q2 | q2
    ·rw [q2] at q;exact hh (by rw [q];rfl)
    ·exact hh (hpw.1 w q2 (by rw [q];rfl))
theorem Z0o (hd:Hd u)(hn:∀ v∈vlD u 0,(0:Int)≤v)(hb:0 < nb u)(loc:List Int)(hwb:Nat)(hw:List Int)(wish:Int) :
  Znc u loc (-1) 0 ⟨hwb,hw,List.replicate (nv u) 0,wish,0⟩=⟨hwb,hw,(Zhk u loc (Zbt u 0).1 (List.replicate (nv u) 0,0)).1,wish,(Zhk u loc (Zbt u 0).1 (List.replicate (nv u) 0,0)).2⟩:=by
 have h:=Zxd (u:=u) (loc:=loc) (ws0:=List.replicate (nv u) 0) (vlD u 0) (List.replicate (nv u) 0) 0 (hd.nd 0 hb) hd.z (hd.pw hb) hn (fun v _=>by
  rw [List.getD_eq_getElem?_getD,List.getElem?_replicate]
  split <;> rfl)
 unfold Znc
 rw [hd.e0]
 rw [show (Zbt u 0).1=vlD u 0 from rfl,h]
end Go.Proofs.YtlogdohlcdhepaaDoor.base
end
