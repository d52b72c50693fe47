/- This text proves what eval's machine does at a value, Zb5 the abstract run. Condition: nothing is known of the calls ahead ('S f = []'). -/
import Derived.Test.YtlogdohlcdhepaaDoorM2
set_option linter.unusedVariables false
set_option linter.unusedSimpArgs false
section
set_option maxRecDepth 100000
namespace Go.Proofs.YtlogdohlcdhepaaDoor.base
open Go.Sh gen
variable {S:Zc}{m:Mem}
def Z4e (ws L:List Int):Int:=if L.length=0 then 0 else ws.getD (L.getD 0 0).toNat 0
def Z3l (ws L:List Int):Int:=if L.length≤1 then 0 else ws.getD (L.getD 1 0).toNat 0
abbrev Ze9 (x:Zbu.D):List Int:=Zg x.1 x.2.1 x.2.2.1 x.2.2.2.2.1
def Zx1 (op n a b:Int)(hw ws:List Int)(v:Nat):List Int:=
 if op=2 then ws.set v (IntKind.u64.wrap n) else
 if op=15 then ws.set v (hw.getD a.toNat 0 / 4294967296) else
 if op=16 then ws.set v (hw.getD a.toNat 0 % 4294967296) else
 if op=17 then ws.set v (hw.getD (IntKind.u64.wrap (a+IntKind.u64.wrap n)).toNat 0) else
 if op=18 then ws.set v (hw.getD (IntKind.u64.wrap (IntKind.u64.wrap (a+1)+b)).toNat 0) else
 if op=19∨op=20∨op=22∨op=23 then ws else ws.set v (Z4x op a b)
def Zxi (op n a b c:Int)(hw:List Int):List Int:=
 if op=19 then Zpz hw (IntKind.u64.wrap (a+IntKind.u64.wrap n)) b else
 if op=20 then Zpz hw (IntKind.u64.wrap (IntKind.u64.wrap (a+1)+b)) c else hw
def Yax (x:Zbu.D)(ws:List Int):Int:=ws.getD ((show List Int from x.2.2.2.2.1).getD 0 0).toNat 0
def Zpf (x:Zbu.D)(v:Nat)(hw ws:List Int):List Int:=Zx1 x.1 x.2.2.2.1 (Z4e ws (Ze9 x)) (Z3l ws (Ze9 x)) hw ws v
def Zni (x:Zbu.D)(hw ws:List Int):List Int:=Zxi x.1 x.2.2.2.1 (Z4e ws (Ze9 x)) (Z3l ws (Ze9 x)) (Yax x ws) hw
structure Nv (S:Zc):Prop where
 tw:Tw S
 uses:S 58=[]
 parts:S 76=[]
 type:S 59=[]
 len:S 60=[]
 head:S 77=[]
 word:S 55=[]
 put:S 38=[]
 does:S 29=[]
structure VOk (u:UnT.D)(x:Zbu.D):Prop where
 op:2≤x.1∧x.1≤23∧x.1≠21
 n:-9223372036854775808≤x.2.2.2.1∧x.2.2.2.1≤9223372036854775807
 al:x.2.2.2.2.1.length * 8≤140737488351232
 a20:x.1=20→0 < x.2.2.2.2.1.length
 us:∀ z∈Ze9 x,0≤z∧z < nv u
 ul:(Ze9 x).length≤20000000000000
theorem Za8 {l:List Int}{i:Nat}(h:i < l.length):l.getD i 0∈l:=by
 rw [List.getD_eq_getElem?_getD,List.getElem?_eq_getElem h];exact List.getElem_mem h
theorem Zc1 {l:List Int}{i:Nat}(h:i < l.length):(l.map (Value.int .i64))[i]?=some (.int .i64 (l.getD i 0)):=by
 rw [List.getElem?_map,List.getElem?_eq_getElem h,List.getD_eq_getElem?_getD,List.getElem?_eq_getElem h];rfl
theorem Z6l {ws L:List Int}(h:Wd ws):wd (Z4e ws L):=by
 unfold Z4e;split
 ·unfold wd;omega
 ·exact h.at_ _
theorem Z69 {ws L:List Int}(h:Wd ws):wd (Z3l ws L):=by
 unfold Z3l;split
 ·unfold wd;omega
 ·exact h.at_ _
theorem Z7b {ws:List Int}{a v:Int}(h:Wd ws)(hv:wd v):Wd (Zpz ws a v):=by
 unfold Zpz;split
 ·exact h
 ·intro w hw
  rcases List.mem_or_eq_of_mem_set hw with h1 | h1
  ·exact h w h1
  ·rw [h1];exact hv
theorem Z4d (ws:List Int)(a v:Int):(Zpz ws a v).length=ws.length:=by unfold Zpz;split <;> simp
theorem Zyc (hS:S 38=[]){Q:Nat→Prop}{u:UnT.D}{K:Kv}{V:Vv}(h:Ev Q m u K V){a v:Int}(ha:0≤a)(hv:wd v) :
  ∃ r m1,Zal Tryd.prog TT S 38 [.pointer (some ⟨K.hb,0,none⟩),.int .u64 a,.int .u64 v] m=some (r,m1)∧r=.bool (Z26 V.hw a)∧Ev Q m1 u K { V with hw:=Zpz V.hw a v }∧Zag m m1 [K.hwf]:=by
 obtain⟨r,m1,e,hr,hh,k⟩:=Z7t (v:=v) hS h.heap ha (by have:=h.hl;omega)
 have nd:=h.nd
 exact⟨r,m1,e,hr,⟨h.own.keep k (by simpa using nd.2.2.1),h.wds.keep k (by simpa using nd.2.2.2.2.1),h.len,h.wd,Z7b h.hwd hv,by rw [Z4d];exact h.hl,hh,h.unit.keep k (by simpa using h.nq.2.2.2),h.nq,nd⟩,k⟩
set_option maxHeartbeats 8000000 in
theorem Z2y (hN:Nv S){Q:Nat→Prop}{u:UnT.D}{K:Kv}{V:Vv}(h:Ev Q m u K V)(hnu:nv u≤1000000){i:Nat}(hi:i < nv u)(hx:VOk u (u.2.2.1[i])) :
  ∃ v m1,Zal Tryd.prog TT S 29 [.pointer (some ⟨K.x,0,none⟩),.int .i64 (i:Int)] m=some (v,m1)∧Ev Q m1 u K { V with hw:=Zni (u.2.2.1[i]) V.hw V.ws,ws:=Zpf (u.2.2.1[i]) i V.hw V.ws }∧Zag m m1 [K.wf,K.hwf]:=by
 obtain⟨vb,ao,fa,hvo,ld,hra,hqa⟩:=Zie h.unit hi
 generalize u.2.2.1[i]=x at *
 have i4:(i:Int)≤9223372036854775807:=by omega
 have i1:(i:Int) < (nv u:Int):=by omega
 have o2:=h.own.load1 (off:=2) rfl
 rw [hvo] at o2
 obtain⟨oZ,kZ,nZ⟩:=Zay (m:=m) (cs:=[.int .i64 0,.int .i64 0,.int .i64 0,.int .i64 0,.slice none 0 0,.int .i64 0]) (e:=38) rfl
 obtain⟨bx,hbx⟩:∃ bx,m.next=bx:=⟨_,rfl⟩
 obtain⟨m3,e3,oX,kX⟩:=Zap (r:=_) rfl oZ (off:=0) (vs:=Zmk x ao) (by simp) (by simp [Zau,Zai])
 simp [Zb5] at oX
 have k3:=kZ.fresh kX (by simp)
 rw [hbx] at oX nZ e3
 have h3:=h.keep0 k3
 have lx3:=oX.load (off:=0) 6 (by simp)
 simp [Za1] at lx3
 obtain⟨v4,m4,c4,⟨uo,uf,rfl,hru⟩,k4⟩:=Zpo (m:=m3) hN.uses hN.parts (op:=x.1) (a:=x.2.1) (b:=x.2.2.1) (n:=x.2.2.2.1) (st:=x.2.2.2.2.2.1) (l:=x.2.2.2.2.1) (by have:=hx.al;omega) (hra.keep k3 (by simp))
 have h4:=h3.keep0 k4
 have o4:=oX.keep k4 (by simp)
 have w6:=h4.own.load1 (off:=6) rfl
 obtain⟨L,hL⟩:∃ L,Zg x.1 x.2.1 x.2.2.1 x.2.2.2.2.1=L:=⟨_,rfl⟩
 have hLo:∀ z∈Zg x.1 x.2.1 x.2.2.1 x.2.2.2.2.1,0≤z∧z < nv u:=hx.us
 have hLl:L.length≤20000000000000:=hL ▸ hx.ul
 rw [hL] at c4 hru hLo
 have hgw:∀ y:Int,(0≤y∧y < nv u)→∃ n:Nat,y=(n:Int)∧n < nv u:=fun y hy=>⟨y.toNat,by omega,by omega⟩
 have ww:(words V.ws).length=nv u:=by rw [Zfw,h.len]
 have nL:(nv u:Int)≤1000000:=by omega
 obtain⟨rb,hrb⟩:∃ rb:Nat,L.length≠0→uo=some ⟨rb,0,none⟩∧Rdo m4 rb (L.map (Value.int .i64)) 3 uf:=by
  by_cases hp:L.length=0
  ·exact⟨0,fun e=>absurd hp e⟩
  ·obtain⟨rb,e,o⟩:=hru.rdo hp
   exact⟨rb,fun _=>⟨e,o⟩⟩
 obtain⟨a0,ha0⟩:∃ a0:Nat,L.length≠0→L.getD 0 0=(a0:Int)∧a0 < nv u:=by
  by_cases hp:L.length=0
  ·exact⟨0,fun e=>absurd hp e⟩
  ·obtain⟨a,ea,ha⟩:=hgw _ (hLo _ (Za8 (i:=0) (by omega)))
   exact⟨a,fun _=>⟨ea,ha⟩⟩
 obtain⟨a1,ha1⟩:∃ a1:Nat,¬ L.length≤1→L.getD 1 0=(a1:Int)∧a1 < nv u:=by
  by_cases hp:L.length≤1
  ·exact⟨0,fun e=>absurd hp e⟩
  ·obtain⟨a,ea,ha⟩:=hgw _ (hLo _ (Za8 (i:=1) (by omega)))
   exact⟨a,fun _=>⟨ea,ha⟩⟩
 have f0:L.length≠0→loadRow m4 ⟨rb,0,none⟩ 1=some [.int .i64 (a0:Int)]∧loadRow m4 ⟨K.wb,a0,none⟩ 1=some [.int .u64 (Z4e V.ws L)]∧(a0:Int) < nv u:=by
  intro hp
  obtain⟨e,o⟩:=hrb hp
  obtain⟨ea,ha⟩:=ha0 hp
  have l1:=o.load1 (off:=0) (Zc1 (by omega))
  rw [ea] at l1
  refine⟨l1,?_,by omega⟩
  have l2:=h4.wds.load1 (off:=a0) (Zdm (by rw [h.len];exact ha))
  rw [l2]
  unfold Z4e
  rw [if_neg hp,ea];rfl
 have f1:¬ L.length≤1→loadRow m4 ⟨rb,1,none⟩ 1=some [.int .i64 (a1:Int)]∧loadRow m4 ⟨K.wb,a1,none⟩ 1=some [.int .u64 (Z3l V.ws L)]∧(a1:Int) < nv u:=by
  intro hp
  obtain⟨e,o⟩:=hrb (by omega)
  obtain⟨ea,ha⟩:=ha1 hp
  have l1:=o.load1 (off:=1) (Zc1 (by omega))
  rw [ea] at l1
  refine⟨l1,?_,by omega⟩
  have l2:=h4.wds.load1 (off:=a1) (Zdm (by rw [h.len];exact ha))
  rw [l2]
  unfold Z3l
  rw [if_neg hp,ea];rfl
 have A0:L.length=0→Z4e V.ws L=0:=fun e=>by unfold Z4e;rw [if_pos e]
 have B0:L.length≤1→Z3l V.ws L=0:=fun e=>by unfold Z3l;rw [if_pos e]
 obtain⟨av,hav⟩:∃ av,Z4e V.ws L=av:=⟨_,rfl⟩
 obtain⟨bv,hbv⟩:∃ bv,Z3l V.ws L=bv:=⟨_,rfl⟩
 have wav:wd av:=hav ▸ Z6l h.wd
 have wbv:wd bv:=hbv ▸ Z69 h.wd
 rw [hav] at f0 A0
 rw [hbv] at f1 B0
 have ix:(i:Int)≤9223372036854775807:=by omega
 have hD:Zpf x i V.hw V.ws=Zx1 x.1 x.2.2.2.1 av bv V.hw V.ws i:=by unfold Zpf;rw [show Ze9 x=L from hL,hav,hbv]
 have hE:Zni x V.hw V.ws=Zxi x.1 x.2.2.2.1 av bv (Yax x V.ws) V.hw:=by unfold Zni;rw [show Ze9 x=L from hL,hav,hbv]
 rw [hD,hE]
 refine Zfz 57 [68,77,92,107,123,140,151,172,172] k29 hN.does rfl ?_
 simp [-Int.natCast_add,Za Zgf,Za Za3,Zaa Zd5,Zab u30 Ze8,Zao Zme,Zas Zqu,Zad Ze8,Zac u36,o2,i4,hi,ld,hbx,e3,lx3,c4]
 have nL1:(nv u:Int)≤9223372036854775807:=by omega
 have own4:=h4.own
 apply Yby
 case main =>
  by_cases q0:L=[]
  case' pos =>
   have A0':=A0 (by rw [q0];rfl)
   have B0':=B0 (by rw [q0];simp)
   intro meth
   simp [-Int.natCast_add,-w29_8,q0]
  case' neg =>
   have q0':L.length≠0:=fun e=>q0 (List.length_eq_zero_iff.1 e)
   obtain⟨hro,hrl⟩:=hrb q0'
   obtain⟨p1,p2,p3⟩:=f0 q0'
   obtain⟨p4,p5⟩:=ha0 q0'
   have p11:(a0:Int)≤9223372036854775807:=by omega
   by_cases q1:L.length=1
   case' pos =>
    have B1':=B0 (by omega)
    intro meth
    simp [-Int.natCast_add,-w29_8,Za Zfj,Zaa Zh1,Zab u36 sz3,Zaa ld3,Zab u42 Zfu,Zaa Zn7,q0,q1,hro,w6,p1,p2,p5,p11]
   case' neg =>
    have q2:¬ L.length≤1:=by omega
    have q3:1 < L.length:=by omega
    obtain⟨p6,p7,p8⟩:=f1 q2
    obtain⟨p9,p10⟩:=ha1 q2
    have p12:(a1:Int)≤9223372036854775807:=by omega
    have q4:¬ (L.length:Int)=1:=by omega
    have q5:0 < L.length:=by omega
    intro meth
    simp [-Int.natCast_add,-w29_8,Za Zfj,Zaa Zh1,Zab u36 sz3,Zaa ld3,Zab u42 Zfu,Zaa Zn7,q0,q3,hro,w6,p1,p2,p5,p6,p7,p10,p11,p12,q4,q5]
  all_goals
   exact Zfd (E:=[(0,.pointer (some ⟨K.x,0,none⟩)),(1,.int .i64 (i:Int)),(4,.pointer (some ⟨bx,0,none⟩)),(5,.int .u64 av),(6,.int .u64 bv)]) meth ⟨by rfl,by rfl,by rfl,by first | rfl | (simp [Zb4];omega),by first | rfl | (simp [Zb4];omega),trivial⟩
 have b3:=o4.load1 (off:=3) rfl
 have b0:=o4.load1 (off:=0) rfl
 have b4:=o4.load1 (off:=4) rfl
 have hn:=h4.own.load1 (off:=5) rfl
 simp [-Int.natCast_add,-w29_10,Zaa ld3,Za Zl3,Zaa ld2,Zb u2 u45,Za Zbv,b3,b0]
 have k04:Zag m m4 [K.wf,K.hwf]:=(k3.trans k4).mono (by simp)
 have hwl:V.hw.length≤1000000:=by have:=h.hl;omega
 obtain⟨o,ho⟩:∃ o:Int,x.1=o:=⟨_,rfl⟩
 obtain⟨n,hn'⟩:∃ n:Int,x.2.2.2.1=n:=⟨_,rfl⟩
 have op:(2:Int)≤o∧o≤23∧o≠21:=by rw [← ho];exact hx.op
 rw [ho,hn']
 rw [ho] at b0
 have wn:=Zf1 n
 by_cases c2:o=2
 ·obtain⟨m5,e5,v5,k5⟩:=h4.setw hi wn
  simp [-Int.natCast_add,Za Zfj,Zaa Zh1,Zab u42 Zfu,Zad Zfu,c2,w6,ix,hi,e5]
  exact⟨by simpa [Zx1,Zxi] using v5,k04.trans (k5.mono (by simp))⟩
 by_cases c15:o=15
 ·have c:=Z15 hN.type hN.head hN.word h4.heap wav.1 hwl h.hwd
  have q:=h.hwd.at_ av.toNat
  have qw:IntKind.u64.wrap (V.hw.getD av.toNat 0 / 4294967296)=V.hw.getD av.toNat 0 / 4294967296:=Zbz (by omega) (by omega)
  obtain⟨m5,e5,v5,k5⟩:=h4.setw (v:=V.hw.getD av.toNat 0 / 4294967296) hi (by omega)
  simp [-Int.natCast_add,-List.getD_eq_getElem?_getD,Za Zfj,Zaa Zh1,Zab u42 Zfu,Zad Zfu,Za Zo2,Zaa Z76,Zb u3 u45,c15,w6,hn,ix,hi,c,qw,e5]
  exact⟨by simpa [-List.getD_eq_getElem?_getD,Zx1,Zxi] using v5,k04.trans (k5.mono (by simp))⟩
 by_cases c16:o=16
 ·have c:=Z5w hN.len hN.head hN.word h4.heap wav.1 hwl h.hwd
  have q:=h.hwd.at_ av.toNat
  have qw:IntKind.u64.wrap (V.hw.getD av.toNat 0 % 4294967296)=V.hw.getD av.toNat 0 % 4294967296:=Zbz (by omega) (by omega)
  obtain⟨m5,e5,v5,k5⟩:=h4.setw (v:=V.hw.getD av.toNat 0 % 4294967296) hi (by omega)
  simp [-Int.natCast_add,-List.getD_eq_getElem?_getD,Za Zfj,Zaa Zh1,Zab u42 Zfu,Zad Zfu,Za Zo2,Zaa Z76,Zb u3 u45,c16,w6,hn,ix,hi,c,qw,e5]
  exact⟨by simpa [-List.getD_eq_getElem?_getD,Zx1,Zxi] using v5,k04.trans (k5.mono (by simp))⟩
 by_cases c17:o=17
 ·have c:=Zo8 hN.word h4.heap (Zf1 (av+IntKind.u64.wrap n)).1 hwl
  obtain⟨m5,e5,v5,k5⟩:=h4.setw hi (h.hwd.at_ (IntKind.u64.wrap (av+IntKind.u64.wrap n)).toNat)
  simp [-Int.natCast_add,-List.getD_eq_getElem?_getD,Za Zfj,Zaa Zh1,Zab u42 Zfu,Zad Zfu,Za Zo2,Zaa Z76,c17,w6,hn,ix,hi,c,e5]
  exact⟨by simpa [-List.getD_eq_getElem?_getD,Zx1,Zxi] using v5,k04.trans (k5.mono (by simp))⟩
 by_cases c18:o=18
 ·have c:=Zo8 hN.word h4.heap (Zf1 (IntKind.u64.wrap (av+1)+bv)).1 hwl
  obtain⟨m5,e5,v5,k5⟩:=h4.setw hi (h.hwd.at_ (IntKind.u64.wrap (IntKind.u64.wrap (av+1)+bv)).toNat)
  simp [-Int.natCast_add,-List.getD_eq_getElem?_getD,Za Zfj,Zaa Zh1,Zab u42 Zfu,Zad Zfu,Za Zo2,Zaa Z76,c18,w6,hn,ix,hi,c,e5]
  exact⟨by simpa [-List.getD_eq_getElem?_getD,Zx1,Zxi] using v5,k04.trans (k5.mono (by simp))⟩
 by_cases c19:o=19
 ·obtain⟨r,m5,e5,rfl,v5,k5⟩:=Zyc hN.put h4 (Zf1 (av+IntKind.u64.wrap n)).1 wbv
  simp [-Int.natCast_add,Za Zo2,Zaa Z76,c19,hn,e5]
  exact⟨by simpa [Zx1,Zxi] using v5,k04.trans (k5.mono (by simp))⟩
 by_cases c20:o=20
 ·have lpos:=hx.a20 (by rw [ho,c20])
  have hr4:=(hra.keep k3 (by simp)).keep k4 (by simp)
  obtain⟨sb,rfl,hsb⟩:=hr4.rdo (by omega)
  have s1:=hsb.load1 (off:=0) (Zc1 lpos)
  obtain⟨w,ew,hw⟩:=hgw ((show List Int from x.2.2.2.2.1).getD 0 0) (hx.us _ (by
   have:x.1=20:=by rw [ho,c20]
   unfold Ze9 Zg
   rw [this]
   refine List.mem_append_right _ ?_
   rw [if_pos rfl]
   revert lpos
   generalize x.2.2.2.2.1=l
   intro lpos
   cases l with
   | nil=>simp at lpos
   | cons a r=>simp))
  rw [ew] at s1
  have s2:=h4.wds.load1 (off:=w) (Zdm (by rw [h.len];exact hw))
  have s3:Yax x V.ws=V.ws.getD w 0:=by unfold Yax;rw [ew];rfl
  have s4:(w:Int) < nv u:=by omega
  have s5:(w:Int)≤9223372036854775807:=by omega
  have s6:=hx.al
  have s7:(x.2.2.2.2.1.length:Int)≤9223372036854775807:=by omega
  have s8:(0:Int) < x.2.2.2.2.1.length:=by omega
  rw [s3]
  obtain⟨r,m5,e5,rfl,v5,k5⟩:=Zyc hN.put h4 (Zf1 (IntKind.u64.wrap (av+1)+bv)).1 (h.wd.at_ w)
  simp [-Int.natCast_add,-List.getD_eq_getElem?_getD,Za Zfj,Zaa Zh1,Zab u36 sz3,Zaa ld3,Zab u42 Zfu,Zaa Zn7,Za Zo2,Zaa Z76,Za Zhv,Zaa Zb3,c20,hn,b4,lpos,s1,w6,hw,s5,s2,e5]
  exact⟨by simpa [-List.getD_eq_getElem?_getD,Zx1,Zxi] using v5,k04.trans (k5.mono (by simp))⟩
 by_cases c22:o=22
 ·simp [-Int.natCast_add,c22]
  exact⟨by simpa [Zx1,Zxi] using h4,k04⟩
 by_cases c23:o=23
 ·simp [-Int.natCast_add,c23]
  exact⟨by simpa [Zx1,Zxi] using h4,k04⟩
 obtain⟨wt,c,_⟩:=Z83 hN.tw (k:=o) (by omega) wav wbv
 obtain⟨m5,e5,v5,k5⟩:=h4.setw hi wt
 simp [-Int.natCast_add,Za Zfj,Zaa Zh1,Zaa ld3,Zab u42 Zfu,Za Zbv,Zad Zfu,c2,c15,c16,c17,c18,c19,c20,c22,c23,b0,w6,ix,hi,c,e5]
 exact⟨by simpa [Zx1,Zxi,c2,c15,c16,c17,c18,c19,c20,c22,c23] using v5,k04.trans (k5.mono (by simp))⟩
end Go.Proofs.YtlogdohlcdhepaaDoor.base
end
section
set_option maxRecDepth 100000
namespace Go.Proofs.YtlogdohlcdhepaaDoor.base
open Go.Sh gen
variable {S:Zc}{m:Mem}
theorem Z7z {Q:Nat→Prop}{u:UnT.D}{K:Kv}{V:Vv}(h:Ev Q m u K V)(v:Int) :
  ∃ m1,Zaj m ⟨K.x,7,none⟩ [.int .i64 v]=some m1∧Ev Q m1 u K { V with wish:=v }∧Zag m m1 [K.f]:=by
 obtain⟨m1,e1,o1,k1⟩:=Zap (r:=_) rfl h.own (off:=7) (vs:=[.int .i64 v]) (by simp) (by simp [Zau])
 have nd:=h.nd
 refine⟨m1,e1,⟨by simpa [Zb5] using o1,h.wds.keep k1 (by simpa using fun e=>nd.1 e.symm),h.len,h.wd,h.hwd,h.hl,h.heap.keep k1 (by simpa using fun e=>nd.2.1 e.symm) (by simpa using fun e=>nd.2.2.1 e.symm),h.unit.keep k1 (by simpa using h.nq.1),h.nq,nd⟩,k1⟩
theorem Zka {Q:Nat→Prop}{u:UnT.D}{K:Kv}{V:Vv}(h:Ev Q m u K V)(v:Int) :
  ∃ m1,Zaj m ⟨K.x,8,none⟩ [.int .i64 v]=some m1∧Ev Q m1 u K { V with steps:=v }∧Zag m m1 [K.f]:=by
 obtain⟨m1,e1,o1,k1⟩:=Zap (r:=_) rfl h.own (off:=8) (vs:=[.int .i64 v]) (by simp) (by simp [Zau])
 have nd:=h.nd
 refine⟨m1,e1,⟨by simpa [Zb5] using o1,h.wds.keep k1 (by simpa using fun e=>nd.1 e.symm),h.len,h.wd,h.hwd,h.hl,h.heap.keep k1 (by simpa using fun e=>nd.2.1 e.symm) (by simpa using fun e=>nd.2.2.1 e.symm),h.unit.keep k1 (by simpa using h.nq.1),h.nq,nd⟩,k1⟩
theorem Zsk (hS:S 26=[]){Q:Nat→Prop}{u:UnT.D}{K:Kv}{V:Vv}(h:Ev Q m u K V) :
  ∃ v m1,Zal Tryd.prog TT S 26 [.pointer (some ⟨K.x,0,none⟩)] m=some (v,m1)∧v=.agg #[.int .i64 0,.int .i64 (-1),.int .i64 (-1),.slice none 0 0,.int .i64 V.steps]∧Zag m m1 []:=by
 obtain⟨oZ,kZ,nZ⟩:=Zay (m:=m) (cs:=[.int .i64 0,.int .i64 0,.int .i64 0,.slice none 0 0,.int .i64 0]) (e:=28) rfl
 obtain⟨bx,hbx⟩:∃ bx,m.next=bx:=⟨_,rfl⟩
 have l8:=(h.keep0 kZ).own.load1 (off:=8) rfl
 obtain⟨m3,e3,oX,kX⟩:=Zap (r:=_) rfl oZ (off:=0) (vs:=[.int .i64 0,.int .i64 (-1),.int .i64 (-1),.slice none 0 0,.int .i64 V.steps]) (by simp) (by simp [Zau,Zai])
 simp [Zb5] at oX
 have k3:=kZ.fresh kX (by simp)
 rw [hbx] at oX nZ e3
 have lX:=oX.load (off:=0) 5 (by simp)
 simp [Za1] at lX
 refine Zfz 3 [] k26 hS rfl ?_
 simp [Zhj Z3f,Zas Z8g,Za Zh,Zaa ld3,Za2 Ycf,Zad Z3u,l8,hbx,e3,lX]
 exact k3
def Zhh (x:Zbu.D)(ws:List Int)(wish:Int):Bool:=if x.1=22 then decide (ws.getD (show Int from x.2.1).toNat 0=0) else if x.1=23 then decide (wish=0) else false
def Zeg (x:Zbu.D)(wish:Int):Int:=if x.1=23∧0 < wish then wish - 1 else wish
set_option maxHeartbeats 4000000 in
theorem Zxe (hS:S 27=[]){Q:Nat→Prop}{u:UnT.D}{K:Kv}{V:Vv}(h:Ev Q m u K V)(hnu:nv u≤1000000){i:Nat}(hi:i < nv u)
  (ha:(u.2.2.1[i]).1=22→(0:Int)≤(u.2.2.1[i]).2.1∧(u.2.2.1[i]).2.1 < (nv u:Int)) (hw:-9223372036854775808≤V.wish∧V.wish≤9223372036854775807) :
  ∃ v m1,Zal Tryd.prog TT S 27 [.pointer (some ⟨K.x,0,none⟩),.int .i64 (i:Int)] m=some (v,m1)∧v=.bool (Zhh (u.2.2.1[i]) V.ws V.wish)∧Ev Q m1 u K { V with wish:=Zeg (u.2.2.1[i]) V.wish }∧Zag m m1 [K.f]:=by
 obtain⟨vb,ao,fa,hvo,ld,hra,hqa⟩:=Zie h.unit hi
 generalize u.2.2.1[i]=x at *
 have i4:(i:Int)≤9223372036854775807:=by omega
 have i1:(i:Int) < (nv u:Int):=by omega
 have o2:=h.own.load1 (off:=2) rfl
 rw [hvo] at o2
 obtain⟨oZ,kZ,nZ⟩:=Zay (m:=m) (cs:=[.int .i64 0,.int .i64 0,.int .i64 0,.int .i64 0,.slice none 0 0,.int .i64 0]) (e:=38) rfl
 obtain⟨bx,hbx⟩:∃ bx,m.next=bx:=⟨_,rfl⟩
 obtain⟨m3,e3,oX,kX⟩:=Zap (r:=_) rfl oZ (off:=0) (vs:=Zmk x ao) (by simp) (by simp [Zau,Zai])
 simp [Zb5] at oX
 have k3:=kZ.fresh kX (by simp)
 rw [hbx] at oX nZ e3
 have h3:=h.keep0 k3
 have k3f:Zag m m3 [K.f]:=k3.mono (by simp)
 have b0:=oX.load1 (off:=0) rfl
 have b1:=oX.load1 (off:=1) rfl
 have w6:=h3.own.load1 (off:=6) rfl
 have w7:=h3.own.load1 (off:=7) rfl
 obtain⟨o,ho⟩:∃ o:Int,x.1=o:=⟨_,rfl⟩
 obtain⟨a,ha'⟩:∃ a:Int,x.2.1=a:=⟨_,rfl⟩
 rw [ho] at b0
 rw [ha'] at b1
 have ha2:o=22→(0:Int)≤a∧a < (nv u:Int):=by rw [← ho,← ha'];exact ha
 have eB:Zhh x V.ws V.wish=(if o=22 then decide (V.ws.getD a.toNat 0=0) else if o=23 then decide (V.wish=0) else false):=by unfold Zhh;rw [ho];rw [show (show Int from x.2.1)=a from ha']
 have eW:Zeg x V.wish=(if o=23∧0 < V.wish then V.wish - 1 else V.wish):=by unfold Zeg;rw [ho]
 rw [eB,eW]
 have nL1:(nv u:Int)≤9223372036854775807:=by omega
 refine Zfz 16 [16,27,33,38] k27 hS rfl ?_
 by_cases c22:o=22
 ·obtain⟨q1,q2⟩:=ha2 c22
  obtain⟨n,rfl⟩:∃ n:Nat,a=(n:Int):=⟨a.toNat,by omega⟩
  have q3:n < nv u:=by omega
  have q4:(n:Int)≤9223372036854775807:=by omega
  have lw:=h3.wds.load1 (off:=n) (Zdm (by rw [h.len];exact q3))
  simp [-Int.natCast_add,-List.getD_eq_getElem?_getD,Za Zgf,Za Za3,Zaa Zd5,Zab u30 Ze8,Zao Zme,Zas Zqu,Zad Ze8,Za Zbv,Zaa ld3,Za Zfj,Zaa Zh1,Za Z0x,Zab u42 Zfu,Zaa Zn7,o2,i4,hi,ld,hbx,e3,b0,b1,c22,w6,q3,q4,lw]
  exact⟨h3,k3f⟩
 by_cases c23:o=23
 ·by_cases z:V.wish=0
  ·simp [-Int.natCast_add,Za Zgf,Za Za3,Zaa Zd5,Zab u30 Ze8,Zao Zme,Zas Zqu,Zad Ze8,Za Zbv,Zaa ld3,Za Zzl,o2,i4,hi,ld,hbx,e3,b0,c23,w7,z]
   rw [z] at w7
   exact⟨by simpa [← z] using h3,k3f⟩
  ·by_cases p:0 < V.wish
   ·obtain⟨m4,e4,v4,k4⟩:=Z7z h3 (V.wish - 1)
    have wr:IntKind.i64.wrap (V.wish - 1)=V.wish - 1:=Zaf (by omega) (by omega)
    simp [-Int.natCast_add,Za Zgf,Za Za3,Zaa Zd5,Zab u30 Ze8,Zao Zme,Zas Zqu,Zad Ze8,Za Zbv,Zaa ld3,Za Zzl,Zad sz3,o2,i4,hi,ld,hbx,e3,b0,c23,w7,z,p,wr,e4]
    exact⟨v4,k3f.trans k4⟩
   ·simp [-Int.natCast_add,Za Zgf,Za Za3,Zaa Zd5,Zab u30 Ze8,Zao Zme,Zas Zqu,Zad Ze8,Za Zbv,Zaa ld3,Za Zzl,o2,i4,hi,ld,hbx,e3,b0,c23,w7,z,p]
    exact⟨h3,k3f⟩
 simp [-Int.natCast_add,Za Zgf,Za Za3,Zaa Zd5,Zab u30 Ze8,Zao Zme,Zas Zqu,Zad Ze8,Za Zbv,Zaa ld3,o2,i4,hi,ld,hbx,e3,b0,c22,c23]
 exact⟨h3,k3f⟩
end Go.Proofs.YtlogdohlcdhepaaDoor.base
end
section
set_option maxRecDepth 100000
namespace Go.Proofs.YtlogdohlcdhepaaDoor.base
open Go.Sh gen
variable {S:Zc}{m:Mem}
abbrev nb (u:UnT.D):Nat:=u.2.2.2.1.length
abbrev Z1n (x:Zf9.D)(vo no po:Option Addr):List Value:=[.slice vo x.1.length x.1.length,.int .i64 x.2.1,.int .i64 x.2.2.1,.slice no x.2.2.2.1.length x.2.2.2.1.length,.slice po x.2.2.2.2.1.length x.2.2.2.2.1.length,.int .i64 x.2.2.2.2.2.1]
abbrev Za5 (Q:Nat→Prop)(m:Mem)(ao:Option Addr)(l:List Int):Prop:=∃ f,Rs m ao l.length (l.map (Value.int .i64)) 3 1 f∧(l.length≠0→Q f)
theorem Za5.keep {Q:Nat→Prop}{m1:Mem}{ao:Option Addr}{l:List Int}{fs:List Nat}(h:Za5 Q m ao l)(k:Zag m m1 fs)(hf:∀ f∈fs,¬ Q f):Za5 Q m1 ao l:=by
 obtain⟨f,h1,h2⟩:=h
 by_cases hl:l.length=0
 ·exact⟨f,⟨h1.1,Or.inl ⟨hl,h1.spot⟩⟩,h2⟩
 ·exact⟨f,h1.keep k (fun hm=>hf f hm (h2 hl)),h2⟩
theorem Za5.get {Q:Nat→Prop}{ao:Option Addr}{l:List Int}(h:Za5 Q m ao l){i:Nat}(hi:i < l.length):∃ b,ao=some ⟨b,0,none⟩∧loadRow m ⟨b,i,none⟩ 1=some [.int .i64 (l.getD i 0)]:=by
 obtain⟨f,h1,h2⟩:=h
 obtain⟨b,rfl,o⟩:=h1.rdo (by omega)
 exact⟨b,rfl,o.load1 (off:=i) (Zc1 hi)⟩
theorem Zh0 {Q:Nat→Prop}{u:UnT.D}{vo bo so:Option Addr}(h:UAt Q m u vo bo so){i:Nat}(hi:i < nb u) :
  ∃ (b:Nat) (vo no po:Option Addr),bo=some ⟨b,0,none⟩∧loadRow m ⟨b,i * 6,none⟩ 6=some (Z1n (u.2.2.2.1[i]) vo no po)∧Za5 Q m vo (u.2.2.2.1[i]).1∧Za5 Q m no (u.2.2.2.1[i]).2.2.2.1∧Za5 Q m po (u.2.2.2.1[i]).2.2.2.2.1:=by
 obtain⟨vb,c,fam,e,hc,hl,hq,_⟩:=Zit h.b hi
 obtain⟨_,_,e1,h1,_,_,e2,rfl,_,_,e3,rfl,_,_,e4,h4,_,_,e5,h5,_,_,e6,rfl,h7⟩:=hc
 simp only [AtQ] at h7
 subst h7
 obtain⟨ao1,f1,rfl,hr1,hqf1⟩:=Zgp h1
 obtain⟨ao4,f4,rfl,hr4,hqf4⟩:=Zgp h4
 obtain⟨ao5,f5,rfl,hr5,hqf5⟩:=Zgp h5
 refine⟨vb,ao1,ao4,ao5,e,?_,⟨f1,hr1,hqf1⟩,⟨f4,hr4,hqf4⟩,⟨f5,hr5,hqf5⟩⟩
 rw [e1,e2,e3,e4,e5,e6] at hl
 exact hl
def Zbd (u:UnT.D)(v:Int):Zbu.D:=(show List Zbu.D from u.2.2.1).getD v.toNat ((0:Int),(0:Int),(0:Int),(0:Int),([]:List Int),(0:Int),())
theorem Zgs {u:UnT.D}{v:Nat}(h:v < nv u):Zbd u (v:Int)=u.2.2.1[v]:=by
 unfold Zbd
 rw [Int.toNat_natCast,List.getD_eq_getElem?_getD,List.getElem?_eq_getElem h];rfl
def Zxq (u:UnT.D)(loc:List Int)(p:List Int × Int)(v:Int):List Int × Int:=
 if (Zbd u v).1=1 then (if (show Int from (Zbd u v).2.2.2.1) < loc.length then p.1.set v.toNat (loc.getD (show Int from (Zbd u v).2.2.2.1).toNat 0) else p.1,p.2+1) else p
def Zjl (u:UnT.D)(loc:List Int)(l:List Int)(p:List Int × Int):List Int × Int:=l.foldl (Zxq u loc) p
theorem Zzh {u:UnT.D}{loc l:List Int}{p:List Int × Int}{j:Nat}(h:j < l.length):Zjl u loc (l.take (j+1)) p=Zxq u loc (Zjl u loc (l.take j) p) (l.getD j 0):=by
 unfold Zjl
 rw [List.take_succ_eq_append_getElem h,List.foldl_append,List.getD_eq_getElem?_getD,List.getElem?_eq_getElem h]
 rfl
set_option maxHeartbeats 4000000 in
theorem Zw8 (hS:S 25=[]){Q:Nat→Prop}{u:UnT.D}{K:Kv}{V:Vv}(h:Ev Q m u K V)(hnu:nv u≤1000000)(hb:0 < nb u)
  (hl:(u.2.2.2.1[0]).1.length≤1000000) (hv:∀ v∈(show List Int from (u.2.2.2.1[0]).1),(0:Int)≤v∧v < (nv u:Int)) (hn:∀ x∈u.2.2.1,x.1=1→(0:Int)≤x.2.2.2.1∧x.2.2.2.1≤9223372036854775807)
  (hs:0≤V.steps∧V.steps≤1000000) {lo:Option Addr} {loc:List Int} {c lf:Nat} (hlo:Rs m lo loc.length (words loc) 45 1 lf) (hlq:loc.length≠0→lf≠K.f∧lf≠K.wf) (hlw:Wd loc) (hlc:loc.length≤c∧c≤9223372036854775807) :
  ∃ v m1,Zal Tryd.prog TT S 25 [.pointer (some ⟨K.x,0,none⟩),.slice lo loc.length c] m=some (v,m1)∧
   Ev Q m1 u K { V with ws:=(Zjl u loc (u.2.2.2.1[0]).1 (V.ws,V.steps)).1,steps:=(Zjl u loc (u.2.2.2.1[0]).1 (V.ws,V.steps)).2 }∧Zag m m1 [K.f,K.wf]:=by
 obtain⟨bb,vo,no,po,hbo,ldb,hvo,_,_⟩:=Zh0 h.unit hb
 generalize hlx:(show List Int from (u.2.2.2.1[0]).1)=l at *
 have hlx':(u.2.2.2.1[0]).1=l:=hlx
 rw [hlx'] at hl ⊢
 rw [hlx'] at hvo
 have l00:=Zcd (k:=0) ldb rfl
 rw [hlx'] at l00
 have o3:=h.own.load1 (off:=3) rfl
 rw [hbo] at o3
 have hb1:(0:Int) < nb u:=by omega
 simp only [Nat.zero_mul,Nat.add_zero] at l00
 refine Zfz 17 [17,30,35] k25 hS rfl ?_
 simp [-Int.natCast_add,Za Zgf,Za Zbl,Zaa Zgb,Zab u31 Zje,Za Zh8,Zaa Zb3,Zac u36,o3,hb,l00]
 have hnq:∀ f∈[K.f,K.wf],¬ Q f:=by
  intro f hf
  simp at hf
  rcases hf with rfl | rfl
  ·exact h.nq.1
  ·exact h.nq.2.1
 obtain⟨p0,hp0⟩:∃ p0,(V.ws,V.steps)=p0:=⟨_,rfl⟩
 have p01:p0.1=V.ws:=by rw [← hp0]
 have p02:p0.2=V.steps:=by rw [← hp0]
 rw [hp0]
 refine Zaq 17 [17,30,35] (fun d E mE=>∃ (j:Nat),l.length - j=d∧j≤l.length∧Ev Q mE u K { V with ws:=(Zjl u loc (l.take j) p0).1,steps:=(Zjl u loc (l.take j) p0).2 }∧0≤(Zjl u loc (l.take j) p0).2∧(Zjl u loc (l.take j) p0).2≤V.steps+j∧Zag m mE [K.f,K.wf]∧
  E=[(0,.pointer (some ⟨K.x,0,none⟩)),(1,.slice lo loc.length c),(14,.slice vo l.length l.length),(15,.int .i64 l.length),(16,.int .i64 (j:Int))]) _ ⟨_,⟨0,rfl,by omega,by rw [List.take_zero];unfold Zjl;rw [List.foldl_nil,p01,p02];exact h,by rw [List.take_zero];unfold Zjl;rw [List.foldl_nil,p02];exact hs.1,by rw [List.take_zero];unfold Zjl;rw [List.foldl_nil,p02];omega,.refl _ _,rfl⟩,⟨by rfl,by rfl,by rfl,by rfl,by rfl,trivial⟩⟩ ?_
 rintro d E mE ih ⟨j,hd,hj,hE,s0,s1,kE,rfl⟩
 have jm:(j:Int)≤9223372036854775807:=by omega
 by_cases hlt:j < l.length
 ·have j1:(j:Int) < l.length:=by omega
  have wj:IntKind.i64.wrap ((j:Int)+1)=((j+1:Nat):Int):=by rw [Zaf (by omega) (by omega)];omega
  have ep:=Zzh (u:=u) (loc:=loc) (p:=p0) hlt
  obtain⟨p,hp⟩:∃ p,Zjl u loc (l.take j) p0=p:=⟨_,rfl⟩
  rw [hp] at ep hE s0 s1
  obtain⟨vb,rfl,lj⟩:=(hvo.keep kE hnq).get hlt
  obtain⟨v,ev⟩:∃ v:Nat,l.getD j 0=(v:Int):=⟨(l.getD j 0).toNat,by have:=hv _ (Za8 hlt);omega⟩
  have hvn:v < nv u:=by have:=hv _ (Za8 hlt);omega
  rw [ev] at lj ep
  obtain⟨xb,ao,fa,hvo',ldx,hra,hqa⟩:=Zie hE.unit hvn
  have o2:=hE.own.load1 (off:=2) rfl
  rw [hvo'] at o2
  have v1:(v:Int) < nv u:=by omega
  have v2:(v:Int)≤9223372036854775807:=by omega
  have nL1:(nv u:Int)≤9223372036854775807:=by omega
  have hxn:=hn (u.2.2.1[v]) (List.getElem_mem hvn)
  have eps:Zxq u loc p (v:Int)=(if (u.2.2.1[v]).1=1 then (if (show Int from (u.2.2.1[v]).2.2.2.1) < loc.length then p.1.set v (loc.getD (show Int from (u.2.2.1[v]).2.2.2.1).toNat 0) else p.1,p.2+1) else p):=by
   unfold Zxq
   rw [Zgs hvn,Int.toNat_natCast]
  rw [eps] at ep
  generalize u.2.2.1[v]=x at *
  obtain⟨oZ,kZ,nZ⟩:=Zay (m:=mE) (cs:=[.int .i64 0,.int .i64 0,.int .i64 0,.int .i64 0,.slice none 0 0,.int .i64 0]) (e:=38) rfl
  obtain⟨bx,hbx⟩:∃ bx,mE.next=bx:=⟨_,rfl⟩
  obtain⟨m3,e3,oX,kX⟩:=Zap (r:=_) rfl oZ (off:=0) (vs:=Zmk x ao) (by simp) (by simp [Zau,Zai])
  simp [Zb5] at oX
  have k3:=kZ.fresh kX (by simp)
  rw [hbx] at oX nZ e3
  have h3:=hE.keep0 k3
  have k3f:Zag m m3 [K.f,K.wf]:=kE.trans (k3.mono (by simp))
  have b0:=oX.load1 (off:=0) rfl
  have b3:=oX.load1 (off:=3) rfl
  have w6:=h3.own.load1 (off:=6) rfl
  have w8:=h3.own.load1 (off:=8) rfl
  dsimp only at w8
  obtain⟨o,ho⟩:∃ o:Int,x.1=o:=⟨_,rfl⟩
  obtain⟨n,hn'⟩:∃ n:Int,x.2.2.2.1=n:=⟨_,rfl⟩
  rw [ho] at b0 ep
  rw [hn'] at b3
  rw [show (show Int from x.2.2.2.1)=n from hn'] at ep
  have hxn':o=1→(0:Int)≤n∧n≤9223372036854775807:=by rw [← ho,← hn'];exact hxn
  have wp:IntKind.i64.wrap (p.2+1)=p.2+1:=Zaf (by omega) (by omega)
  by_cases c1:o=1
  ·rw [if_pos c1] at ep
   obtain⟨q1,q2⟩:=hxn' c1
   obtain⟨n',rfl⟩:∃ n':Nat,n=(n':Int):=⟨n.toNat,by omega⟩
   by_cases c2:(n':Int) < loc.length
   ·rw [if_pos c2,Int.toNat_natCast] at ep
    have c2':n' < loc.length:=by omega
    have q5:(n':Int)≤9223372036854775807:=by omega
    obtain⟨lb,rfl,ol⟩:=((hlo.keep kE (by have:=hlq (by omega);simp;omega)).keep k3 (by simp)).rdo (by omega)
    have ll:=ol.load1 (off:=n') (Zdm c2')
    obtain⟨m4,e4,v4,k4⟩:=h3.setw (i:=v) hvn (hlw.at_ n')
    dsimp only at v4
    have w8':=v4.own.load1 (off:=8) rfl
    obtain⟨m5,e5,v5,k5⟩:=Zka v4 (p.2+1)
    simp [-Int.natCast_add,-List.getD_eq_getElem?_getD,Za Zgf,Zab u36 sz3,Zaa ld3,Za Za3,Zaa Zd5,Zab u30 Ze8,Zao Zme,Zas Zqu,Zad Ze8,Za Zbv,Za Zl3,Zaa ld2,Zac u42,Za Zfj,Zaa Zh1,Zab u42 Zfu,Zaa Zn7,Zad Zfu,Za Zh,Zad sz3,j1,jm,hlt,lj,o2,v2,hvn,ldx,hbx,e3,b0,b3,c1,c2,c2',q5,w6,ll,e4,w8',wp,e5,wj]
    have kk:Zag m m5 [K.f,K.wf]:=(k3f.trans (k4.mono (by simp))).trans (k5.mono (by simp))
    exact ih _ _ _ _ ⟨j+1,rfl,by omega,by rw [ep];exact v5,by rw [ep];dsimp only;omega,by rw [ep];dsimp only;omega,kk,rfl⟩ (by omega) ⟨by rfl,by rfl,by rfl,by rfl,by rfl,trivial⟩
   ·rw [if_neg c2] at ep
    obtain⟨m5,e5,v5,k5⟩:=Zka h3 (p.2+1)
    simp [-Int.natCast_add,-List.getD_eq_getElem?_getD,Za Zgf,Zab u36 sz3,Zaa ld3,Za Za3,Zaa Zd5,Zab u30 Ze8,Zao Zme,Zas Zqu,Zad Ze8,Za Zbv,Za Zl3,Zaa ld2,Zac u42,Za Zh,Zad sz3,j1,jm,hlt,lj,o2,v2,hvn,ldx,hbx,e3,b0,b3,c1,c2,w8,wp,e5,wj]
    exact ih _ _ _ _ ⟨j+1,rfl,by omega,by rw [ep];exact v5,by rw [ep];dsimp only;omega,by rw [ep];dsimp only;omega,k3f.trans (k5.mono (by simp)),rfl⟩ (by omega) ⟨by rfl,by rfl,by rfl,by rfl,by rfl,trivial⟩
  ·rw [if_neg c1] at ep
   simp [-Int.natCast_add,-List.getD_eq_getElem?_getD,Za Zgf,Zab u36 sz3,Zaa ld3,Za Za3,Zaa Zd5,Zab u30 Ze8,Zao Zme,Zas Zqu,Zad Ze8,Za Zbv,j1,jm,hlt,lj,o2,v2,hvn,ldx,hbx,e3,b0,c1,wj]
   exact ih _ _ _ _ ⟨j+1,rfl,by omega,by rw [ep];exact h3,by rw [ep];omega,by rw [ep];omega,k3f,rfl⟩ (by omega) ⟨by rfl,by rfl,by rfl,by rfl,by rfl,trivial⟩
 ·have j1:¬ (j:Int) < l.length:=by omega
  have et:l.take j=l:=List.take_of_length_le (by omega)
  rw [et] at hE
  simp [-Int.natCast_add,j1]
  exact⟨hE,kE⟩
end Go.Proofs.YtlogdohlcdhepaaDoor.base
end
