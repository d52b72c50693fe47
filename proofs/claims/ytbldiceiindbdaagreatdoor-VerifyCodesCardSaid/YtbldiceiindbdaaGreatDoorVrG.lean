/- This text proves chapter 9's known and verified: of a program whose head is right both Verifies say the same. Condition: nothing is known of the calls ahead ('S f = []') but code.Name's names. -/
import Derived.Test.YtbldiceiindbdaaGreatDoorVrF
set_option linter.unusedVariables false
set_option linter.unusedSimpArgs false
set_option maxRecDepth 100000
namespace Go.Proofs.YtbldiceiindbdaaGreatDoor.base
open Go.Sh gen
variable {S:Zed}{m:Mem}{p:Pr}{q:Pp}
theorem Z3f:Zdp Zcs:=by
 refine⟨by simp [Zcs],by simp [Zcs],fun i h x hx=>?_,fun i h h5=>?_,fun i j h hj=>?_⟩
 ·rw [List.getElem?_eq_getElem h] at hx;exact Option.some.inj hx
 ·simp [Zcs] at h;omega
 ·have h5:i < 5:=by simpa [Zcs] using h
  match i,j,h5,hj with
  | 1,0,_,_=>simp [Zdv,Zcs]
  | 2,0,_,_=>simp [Zdv,Zcs]
  | 2,1,_,_=>simp [Zdv,Zcs]
  | 3,0,_,_=>simp [Zdv,Zcs]
  | 3,1,_,_=>simp [Zdv,Zcs]
  | 3,2,_,_=>simp [Zdv,Zcs]
  | 4,0,_,_=>simp [Zdv,Zcs]
  | 4,1,_,_=>simp [Zdv,Zcs]
  | 4,2,_,_=>simp [Zdv,Zcs]
  | 4,3,_,_=>simp [Zdv,Zcs]
def p1 (c:List Ix):Pr:=⟨Zcs,[⟨[109,97,105,110],[],0,[],c⟩],0,[],0⟩
theorem Zy3 (c:List Ix):Zjv (p1 c):=by
 refine⟨⟨Z3f,fun g hg=>?_,fun g hg=>?_,fun g hg=>?_,by simp [p1]⟩,by simp [p1],by simp [p1],by simp [p1,Zp],by simp [p1,Zp],by simp [p1],by simp [p1],fun g hg=>?_,fun t ht h5=>?_⟩
 ·simp [p1] at hg;subst hg;intro t ht;simp at ht
 ·simp [p1] at hg;subst hg;intro t ht;simp at ht
 ·simp [p1] at hg;subst hg;exact Or.inl rfl
 ·simp [p1] at hg;subst hg;simp
 ·have ht5:t < 5:=by simpa [p1,Zcs] using ht
  have h9:=Z3f.k5 (show t < Zcs.length by simpa [Zcs] using ht5) ht5
  have h10:(t:Int)=5:=h9.symm.trans h5
  omega
theorem Z2f {b:Nat}(o:Own m b Zgi.flatten 33 b):Tb m (some ⟨b,0,none⟩) Zcs:=
 ⟨⟨Zgi,b,rfl,fun i d c hd hc=>(Zlo (fun _=>True) m i d c hd hc).at_,⟨by simp [Zcs,Zgi,tyC],Or.inr ⟨b,rfl,o.rdo⟩⟩⟩,by simp [Zcs],Zlp⟩
theorem Zq (hN:Nd S)(hV:Nv S)(hNf:Nf S)(hS:S 10=[])(hP:Zjv p)(h:Zmg m p q):∃ m1,Zbi Tryz.prog TT S 10 [.agg (p.row q).toArray] m=some (.bool true,m1)∧Zao m m1 []:=by
 suffices hg:∃ v m1,Zbi Tryz.prog TT S 10 [.agg (p.row q).toArray] m=some (v,m1)∧v=.bool true∧Zao m m1 [] by
  obtain⟨_,m1,h1,rfl,h2⟩:=hg
  exact⟨m1,h1,h2⟩
 obtain⟨pb,m1,hpb,hm1,o1,k1,n1⟩:=Zke m p q
 have pl:=fun m' (k:Zao m1 m' [])=>(o1.keep k (by simp)).load (off:=0) 5 (by simp [Pr.row])
 simp only [Pr.row] at hm1 pl
 simp [Zb] at pl
 obtain⟨_,m2,h2,rfl,k2⟩:=Zhj (m:=m1) hN hV hP (h.keep k1)
 simp only [Pr.row] at h2
 obtain⟨R,hR⟩:∃ z,Zm9 p p.F 0=z:=⟨_,rfl⟩
 have p0:=pl _ (Zaj _)
 obtain⟨o3,k3,n3⟩:=Za7 (m:=m2) (cs:=[.int .i64 0,.int .i64 0]) (e:=52) rfl
 obtain⟨ab,hab⟩:∃ z,m2.next=z:=⟨_,rfl⟩
 rw [hab] at o3 n3
 obtain⟨m3,hm3⟩:∃ z,m2.new [.int .i64 0,.int .i64 0] 52=z:=⟨_,rfl⟩
 rw [hm3] at o3 k3 n3
 rw [hR] at h2
 refine Zey 7 [] k10 hS rfl ?_
 simp [-Int.natCast_add,-BitVec.toNat_or,-BitVec.toNat_ofInt,-BitVec.toNat_and,Zah b45,Zae Zbx,Zag Zgl,Zaf Zgo,Zae Zhb,Zdc Z6q .eql (Or.inl rfl),Zcy u3,Pr.row,hpb,hm1,p0,h2,hab,hm3]
 generalize hra:Za8 _ _ _=ra
 obtain⟨m4,rfl,o4,k4⟩:=Za4 hra o3 (by simp) (by simp [Zbk])
 simp [Zdh] at o4
 have k24:Zao m2 m4 []:=k3.fresh k4 (by simp;omega)
 have p4:=pl _ (k2.trans k24)
 obtain⟨_,m5,h5,rfl,k5⟩:=Zzg (m:=m4) hNf hN.ns hP (h.keep (k1.trans (k2.trans k24)))
 simp only [Pr.row] at h5
 rw [hR] at h5
 obtain⟨o6,k6,n6⟩:=Za7 (m:=m5) (cs:=[.int .i64 0,.int .i64 0]) (e:=52) rfl
 obtain⟨bb,hbb⟩:∃ z,m5.next=z:=⟨_,rfl⟩
 rw [hbb] at o6 n6
 obtain⟨m6,hm6⟩:∃ z,m5.new [.int .i64 0,.int .i64 0] 52=z:=⟨_,rfl⟩
 rw [hm6] at o6 k6 n6
 simp [-Int.natCast_add,-BitVec.toNat_or,-BitVec.toNat_ofInt,-BitVec.toNat_and,Zah b45,Zae Zbx,Zag Zgl,Zaf Zgo,Zae Zhb,Zdc Z6q .eql (Or.inl rfl),Zcy u3,p4,h5,hbb,hm6]
 generalize hrb:Za8 _ _ _=rb
 obtain⟨m7,rfl,o7,k7⟩:=Za4 hrb o6 (by simp) (by simp [Zbk])
 simp [Zdh] at o7
 have k57:Zao m5 m7 []:=k6.fresh k7 (by simp;omega)
 have la:=(o4.keep (k5.trans k57) (by simp)).load (off:=0) 2 (by simp)
 have lb:=o7.load (off:=0) 2 (by simp)
 simp [Zb] at la lb
 simp [-Int.natCast_add,-BitVec.toNat_or,-BitVec.toNat_ofInt,-BitVec.toNat_and,Zah b45,Zae Zbx,Zag Zgl,Zaf Zgo,Zae Zhb,Zdc Z6q .eql (Or.inl rfl),Zcy u3,la,lb]
 exact (k1.trans (k2.trans k24)).trans (k5.trans k57)
theorem Zou (hB:S 7=[])(hS:S 18=[]){c:List Ix}{ca:Option Addr}{cf:Nat}(hc:Rs m ca c.length (ixv c) 40 3 cf):∃ q m1,Zbi Tryz.prog TT S 18 [.slice ca c.length c.length] m=some (.agg ((p1 c).row q).toArray,m1)∧Zmg m1 (p1 c) q∧Zao m m1 []:=by
 suffices hg:∃ v m1,Zbi Tryz.prog TT S 18 [.slice ca c.length c.length] m=some (v,m1)∧∃ q,v=.agg ((p1 c).row q).toArray∧Zmg m1 (p1 c) q∧Zao m m1 [] by
  obtain⟨_,m1,h1,q,rfl,h2⟩:=hg
  exact⟨q,m1,h1,h2⟩
 obtain⟨o1,k1,n1⟩:=Za7 (m:=m) (cs:=[.slice none 0 0,.slice none 0 0,.int .i64 0,.slice none 0 0,.slice none 0 0]) (e:=45) rfl
 obtain⟨pb,hpb⟩:∃ z,m.next=z:=⟨_,rfl⟩
 rw [hpb] at o1 n1
 obtain⟨m1,hm1⟩:∃ z,m.new [.slice none 0 0,.slice none 0 0,.int .i64 0,.slice none 0 0,.slice none 0 0] 45=z:=⟨_,rfl⟩
 rw [hm1] at o1 k1 n1
 obtain⟨_,m2,h2,bb,rfl,ob,hbb,k2⟩:=Zn7 (m:=m1) hB
 obtain⟨o3,k3,n3⟩:=Za7 (m:=m2) (cs:=[.string ⟨#[109,97,105,110]⟩,.slice none 0 0,.int .i64 0,.slice none 0 0,.slice ca c.length c.length]) (e:=37) rfl
 obtain⟨fb,hfb⟩:∃ z,m2.next=z:=⟨_,rfl⟩
 rw [hfb] at o3 n3
 obtain⟨m3,hm3⟩:∃ z,m2.new [.string ⟨#[109,97,105,110]⟩,.slice none 0 0,.int .i64 0,.slice none 0 0,.slice ca c.length c.length] 37=z:=⟨_,rfl⟩
 rw [hm3] at o3 k3 n3
 refine Zey 3 [] k18 hS rfl ?_
 simp [-Int.natCast_add,-BitVec.toNat_or,-BitVec.toNat_ofInt,-BitVec.toNat_and,Zbj Zbx,Zag Zir,Zai Zis,Zad u41 Ziv rfl,Zai Zix,Zaf Ziy,hpb,hm1,h2,hfb,hm3]
 have o13:=(o1.keep k2 (by simp)).keep k3 (by simp)
 generalize hra:Za8 _ _ _=ra
 obtain⟨m4,rfl,o4,k4⟩:=Za4 hra o13 (by simp) (by simp [Zbk,Zbp])
 simp [Zdh] at o4
 have k13:=k2.trans k3
 have hmn:m.next≤pb:=by omega
 have K4:Zao m m4 []:=(k1.trans k13).fresh k4 (by simp;omega)
 have l:=o4.load (off:=0) 5 (by simp)
 simp [Zb] at l
 simp [-Int.natCast_add,-BitVec.toNat_or,-BitVec.toNat_ofInt,-BitVec.toNat_and,Zbj Zbx,Zag Zir,Zai Zis,Zad u41 Ziv rfl,Zai Zix,Zaf Ziy,l]
 have hpm:pb < m1.next:=n1
 refine⟨⟨some ⟨bb,0,none⟩,some ⟨fb,0,none⟩,[⟨none,0,none,0,ca,cf⟩],fb,none,0,none⟩,by simp [Pr.row,p1,Zcs],⟨?_,⟨rfl,fun i h1 h2=>?_,?_,by simp [p1]⟩,⟨by simp [p1],Or.inl ⟨rfl,.nil⟩⟩⟩,K4⟩
 ·exact Z2f ((ob.keep k3 (by simp)).keep k4 (by simp;omega))
 ·have h0:i=0:=by simpa [p1] using h1
  subst h0
  exact⟨⟨by simp [p1,ic],Or.inl ⟨rfl,.nil⟩⟩,⟨by simp [p1,ic],Or.inl ⟨rfl,.nil⟩⟩,hc.keep K4 (by simp)⟩
 ·have hfm:m1.next≤fb:=by have:=k2.1;omega
  exact⟨by simp [p1,Fn.row],Or.inr ⟨fb,rfl,by simpa [p1,Fn.row] using (o3.keep k4 (by simp;omega)).rdo⟩⟩
theorem Z7b:Zm9 (p1 [(2,1,0),(27,3,0),(2,0,0),(41,0,0)]) (p1 [(2,1,0),(27,3,0),(2,0,0),(41,0,0)]).F 0=(0,2,32):=by kernel_rfl
theorem Z8r:Zm9 (p1 [(26,5,0)]) (p1 [(26,5,0)]).F 0=(0,0,31):=by kernel_rfl
theorem Z7r:Zm9 (p1 [(2,1,0)]) (p1 [(2,1,0)]).F 0=(0,0,34):=by kernel_rfl
theorem Z83:Zm9 (p1 [(41,0,0)]) (p1 [(41,0,0)]).F 0=(0,0,0):=by kernel_rfl
set_option maxHeartbeats 4000000 in
theorem Zxa (hN:Nd S)(hV:Nv S)(hB:S 7=[])(hO:S 18=[])(hS:S 9=[]):∃ m1,Zbi Tryz.prog TT S 9 [] m=some (.bool true,m1)∧Zao m m1 []:=by
 suffices hg:∃ v m1,Zbi Tryz.prog TT S 9 [] m=some (v,m1)∧v=.bool true∧Zao m m1 [] by
  obtain⟨_,m1,h1,rfl,h2⟩:=hg
  exact⟨m1,h1,h2⟩
 have K0:Zao m m []:=Zaj _
 refine Zey 9 [] k9 hS rfl ?_
 obtain⟨oc0,kc0,nc0⟩:=Za7 (m:=m) (cs:=[.int .i64 2,.int .i64 1,.int .i64 0,.int .i64 27,.int .i64 3,.int .i64 0,.int .i64 2,.int .i64 0,.int .i64 0,.int .i64 41,.int .i64 0,.int .i64 0]) (e:=40) rfl
 obtain⟨cb0,hcb0⟩:∃ z,Mem.next m=z:=⟨_,rfl⟩
 rw [hcb0] at oc0 nc0
 obtain⟨mc0,hmc0⟩:∃ z,Mem.new m [.int .i64 2,.int .i64 1,.int .i64 0,.int .i64 27,.int .i64 3,.int .i64 0,.int .i64 2,.int .i64 0,.int .i64 0,.int .i64 41,.int .i64 0,.int .i64 0] 40=z:=⟨_,rfl⟩
 rw [hmc0] at oc0 kc0 nc0
 have rc0:Rs mc0 (some ⟨cb0,0,none⟩) ([(2,1,0),(27,3,0),(2,0,0),(41,0,0)]:List Ix).length (ixv [(2,1,0),(27,3,0),(2,0,0),(41,0,0)]) 40 3 cb0:=⟨by simp,Or.inr ⟨cb0,rfl,by simpa using oc0.rdo⟩⟩
 obtain⟨q0,mo0,ho0,hp0,ko0⟩:=Zou (m:=mc0) hB hO rc0
 obtain⟨_,mv0,hv0,hvv0,kv0⟩:=Zhj (m:=mo0) hN hV (Zy3 _) hp0
 rw [Z7b] at hvv0
 subst hvv0
 simp only [List.length_cons,List.length_nil] at ho0
 generalize ((p1 [(2,1,0),(27,3,0),(2,0,0),(41,0,0)]).row q0).toArray=R0 at ho0 hv0
 obtain⟨ow0,kw0,nw0⟩:=Za7 (m:=mv0) (cs:=[.int .i64 0,.int .i64 0]) (e:=52) rfl
 obtain⟨wb0,hwb0⟩:∃ z,Mem.next mv0=z:=⟨_,rfl⟩
 rw [hwb0] at ow0 nw0
 obtain⟨mw0,hmw0⟩:∃ z,Mem.new mv0 [.int .i64 0,.int .i64 0] 52=z:=⟨_,rfl⟩
 rw [hmw0] at ow0 kw0 nw0
 simp [-Int.natCast_add,-BitVec.toNat_or,-BitVec.toNat_ofInt,-BitVec.toNat_and,Zai Zh3,Zad u22 Zh4 rfl,Zag Zgl,Zaf Zgo,Za Zpe,Zab ld3,hcb0,hmc0,ho0,hv0,hwb0,hmw0]
 generalize hr0:Za8 _ _ _=r0
 obtain⟨m1,rfl,os0,ks0⟩:=Za4 hr0 ow0 (by simp) (by simp [Zbk])
 simp [Zdh] at os0
 have kA0:Zao m m1 []:=((kc0.trans ko0).trans kv0).trans (kw0.fresh ks0 (by simp;omega))
 have K1:=K0.trans kA0
 obtain⟨oc1,kc1,nc1⟩:=Za7 (m:=m1) (cs:=[.int .i64 26,.int .i64 5,.int .i64 0]) (e:=40) rfl
 obtain⟨cb1,hcb1⟩:∃ z,Mem.next m1=z:=⟨_,rfl⟩
 rw [hcb1] at oc1 nc1
 obtain⟨mc1,hmc1⟩:∃ z,Mem.new m1 [.int .i64 26,.int .i64 5,.int .i64 0] 40=z:=⟨_,rfl⟩
 rw [hmc1] at oc1 kc1 nc1
 have rc1:Rs mc1 (some ⟨cb1,0,none⟩) ([(26,5,0)]:List Ix).length (ixv [(26,5,0)]) 40 3 cb1:=⟨by simp,Or.inr ⟨cb1,rfl,by simpa using oc1.rdo⟩⟩
 obtain⟨q1,mo1,ho1,hp1,ko1⟩:=Zou (m:=mc1) hB hO rc1
 obtain⟨_,mv1,hv1,hvv1,kv1⟩:=Zhj (m:=mo1) hN hV (Zy3 _) hp1
 rw [Z8r] at hvv1
 subst hvv1
 simp only [List.length_cons,List.length_nil] at ho1
 generalize ((p1 [(26,5,0)]).row q1).toArray=R1 at ho1 hv1
 obtain⟨ow1,kw1,nw1⟩:=Za7 (m:=mv1) (cs:=[.int .i64 0,.int .i64 0]) (e:=52) rfl
 obtain⟨wb1,hwb1⟩:∃ z,Mem.next mv1=z:=⟨_,rfl⟩
 rw [hwb1] at ow1 nw1
 obtain⟨mw1,hmw1⟩:∃ z,Mem.new mv1 [.int .i64 0,.int .i64 0] 52=z:=⟨_,rfl⟩
 rw [hmw1] at ow1 kw1 nw1
 simp [-Int.natCast_add,-BitVec.toNat_or,-BitVec.toNat_ofInt,-BitVec.toNat_and,Zai Zh3,Zad u22 Zh4 rfl,Zag Zgl,Zaf Zgo,Za Zpe,Zab ld3,hcb1,hmc1,ho1,hv1,hwb1,hmw1]
 generalize hr1:Za8 _ _ _=r1
 obtain⟨m2,rfl,os1,ks1⟩:=Za4 hr1 ow1 (by simp) (by simp [Zbk])
 simp [Zdh] at os1
 have kA1:Zao m1 m2 []:=((kc1.trans ko1).trans kv1).trans (kw1.fresh ks1 (by simp;omega))
 have K2:=K1.trans kA1
 obtain⟨oc2,kc2,nc2⟩:=Za7 (m:=m2) (cs:=[.int .i64 2,.int .i64 1,.int .i64 0]) (e:=40) rfl
 obtain⟨cb2,hcb2⟩:∃ z,Mem.next m2=z:=⟨_,rfl⟩
 rw [hcb2] at oc2 nc2
 obtain⟨mc2,hmc2⟩:∃ z,Mem.new m2 [.int .i64 2,.int .i64 1,.int .i64 0] 40=z:=⟨_,rfl⟩
 rw [hmc2] at oc2 kc2 nc2
 have rc2:Rs mc2 (some ⟨cb2,0,none⟩) ([(2,1,0)]:List Ix).length (ixv [(2,1,0)]) 40 3 cb2:=⟨by simp,Or.inr ⟨cb2,rfl,by simpa using oc2.rdo⟩⟩
 obtain⟨q2,mo2,ho2,hp2,ko2⟩:=Zou (m:=mc2) hB hO rc2
 obtain⟨_,mv2,hv2,hvv2,kv2⟩:=Zhj (m:=mo2) hN hV (Zy3 _) hp2
 rw [Z7r] at hvv2
 subst hvv2
 simp only [List.length_cons,List.length_nil] at ho2
 generalize ((p1 [(2,1,0)]).row q2).toArray=R2 at ho2 hv2
 obtain⟨ow2,kw2,nw2⟩:=Za7 (m:=mv2) (cs:=[.int .i64 0,.int .i64 0]) (e:=52) rfl
 obtain⟨wb2,hwb2⟩:∃ z,Mem.next mv2=z:=⟨_,rfl⟩
 rw [hwb2] at ow2 nw2
 obtain⟨mw2,hmw2⟩:∃ z,Mem.new mv2 [.int .i64 0,.int .i64 0] 52=z:=⟨_,rfl⟩
 rw [hmw2] at ow2 kw2 nw2
 simp [-Int.natCast_add,-BitVec.toNat_or,-BitVec.toNat_ofInt,-BitVec.toNat_and,Zai Zh3,Zad u22 Zh4 rfl,Zag Zgl,Zaf Zgo,Za Zpe,Zab ld3,hcb2,hmc2,ho2,hv2,hwb2,hmw2]
 generalize hr2:Za8 _ _ _=r2
 obtain⟨m3,rfl,os2,ks2⟩:=Za4 hr2 ow2 (by simp) (by simp [Zbk])
 simp [Zdh] at os2
 have kA2:Zao m2 m3 []:=((kc2.trans ko2).trans kv2).trans (kw2.fresh ks2 (by simp;omega))
 have K3:=K2.trans kA2
 obtain⟨oc3,kc3,nc3⟩:=Za7 (m:=m3) (cs:=[.int .i64 41,.int .i64 0,.int .i64 0]) (e:=40) rfl
 obtain⟨cb3,hcb3⟩:∃ z,Mem.next m3=z:=⟨_,rfl⟩
 rw [hcb3] at oc3 nc3
 obtain⟨mc3,hmc3⟩:∃ z,Mem.new m3 [.int .i64 41,.int .i64 0,.int .i64 0] 40=z:=⟨_,rfl⟩
 rw [hmc3] at oc3 kc3 nc3
 have rc3:Rs mc3 (some ⟨cb3,0,none⟩) ([(41,0,0)]:List Ix).length (ixv [(41,0,0)]) 40 3 cb3:=⟨by simp,Or.inr ⟨cb3,rfl,by simpa using oc3.rdo⟩⟩
 obtain⟨q3,mo3,ho3,hp3,ko3⟩:=Zou (m:=mc3) hB hO rc3
 obtain⟨_,mv3,hv3,hvv3,kv3⟩:=Zhj (m:=mo3) hN hV (Zy3 _) hp3
 rw [Z83] at hvv3
 subst hvv3
 simp only [List.length_cons,List.length_nil] at ho3
 generalize ((p1 [(41,0,0)]).row q3).toArray=R3 at ho3 hv3
 obtain⟨ow3,kw3,nw3⟩:=Za7 (m:=mv3) (cs:=[.int .i64 0,.int .i64 0]) (e:=52) rfl
 obtain⟨wb3,hwb3⟩:∃ z,Mem.next mv3=z:=⟨_,rfl⟩
 rw [hwb3] at ow3 nw3
 obtain⟨mw3,hmw3⟩:∃ z,Mem.new mv3 [.int .i64 0,.int .i64 0] 52=z:=⟨_,rfl⟩
 rw [hmw3] at ow3 kw3 nw3
 simp [-Int.natCast_add,-BitVec.toNat_or,-BitVec.toNat_ofInt,-BitVec.toNat_and,Zai Zh3,Zad u22 Zh4 rfl,Zag Zgl,Zaf Zgo,Za Zpe,Zab ld3,hcb3,hmc3,ho3,hv3,hwb3,hmw3]
 generalize hr3:Za8 _ _ _=r3
 obtain⟨m4,rfl,os3,ks3⟩:=Za4 hr3 ow3 (by simp) (by simp [Zbk])
 simp [Zdh] at os3
 have kA3:Zao m3 m4 []:=((kc3.trans ko3).trans kv3).trans (kw3.fresh ks3 (by simp;omega))
 have K4:=K3.trans kA3
 have w0:=(os0.keep ((kA1.trans kA2).trans kA3) (by simp)).load1 (off:=1) rfl
 have w1:=(os1.keep (kA2.trans kA3) (by simp)).load1 (off:=1) rfl
 have w2:=(os2.keep kA3 (by simp)).load1 (off:=1) rfl
 simp [-Int.natCast_add,-BitVec.toNat_or,-BitVec.toNat_ofInt,-BitVec.toNat_and,Zai Zh3,Zad u22 Zh4 rfl,Zag Zgl,Zaf Zgo,Za Zpe,Zab ld3,w0,w1,w2]
 exact K4
end Go.Proofs.YtbldiceiindbdaaGreatDoor.base
