/- This text proves what eval's machine does at a value, Zbr the abstract run. Condition: nothing is known of the calls ahead ('S f = []'). -/
import Derived.Test.YtlogdohlcdhepaaDoorM2
set_option linter.unusedVariables false
set_option linter.unusedSimpArgs false
section
set_option maxRecDepth 100000
namespace Go.Proofs.YtlogdohlcdhepaaDoor.base
open Go.Sh gen
variable {S:Zb2}{m:Mem}
def Zsz (ws L:List Int):Int:=if L.length=0 then 0 else ws.getD (L.getD 0 0).toNat 0
def Zts (ws L:List Int):Int:=if L.length≤1 then 0 else ws.getD (L.getD 1 0).toNat 0
abbrev Zcc (x:Zbj.D):List Int:=Ze7 x.1 x.2.1 x.2.2.1 x.2.2.2.2.1
def Zlc (op n a b:Int)(hw ws:List Int)(v:Nat):List Int:=
 if op=2 then ws.set v (IntKind.u64.wrap n) else
 if op=15 then ws.set v (hw.getD a.toNat 0 / 4294967296) else
 if op=16 then ws.set v (hw.getD a.toNat 0 % 4294967296) else
 if op=17 then ws.set v (hw.getD (IntKind.u64.wrap (a+IntKind.u64.wrap n)).toNat 0) else
 if op=18 then ws.set v (hw.getD (IntKind.u64.wrap (IntKind.u64.wrap (a+1)+b)).toNat 0) else
 if op=19∨op=20∨op=22∨op=23 then ws else ws.set v (Z0t op a b)
def Zk5 (op n a b c:Int)(hw:List Int):List Int:=
 if op=19 then Zn2 hw (IntKind.u64.wrap (a+IntKind.u64.wrap n)) b else
 if op=20 then Zn2 hw (IntKind.u64.wrap (IntKind.u64.wrap (a+1)+b)) c else hw
def Z0w (x:Zbj.D)(ws:List Int):Int:=ws.getD ((show List Int from x.2.2.2.2.1).getD 0 0).toNat 0
def Zm4 (x:Zbj.D)(v:Nat)(hw ws:List Int):List Int:=Zlc x.1 x.2.2.2.1 (Zsz ws (Zcc x)) (Zts ws (Zcc x)) hw ws v
def Zlb (x:Zbj.D)(hw ws:List Int):List Int:=Zk5 x.1 x.2.2.2.1 (Zsz ws (Zcc x)) (Zts ws (Zcc x)) (Z0w x ws) hw
structure Nv (S:Zb2):Prop where
 tw:Tw S
 uses:S 58=[]
 parts:S 76=[]
 type:S 59=[]
 len:S 60=[]
 head:S 77=[]
 word:S 55=[]
 put:S 38=[]
 does:S 29=[]
structure VOk (u:UnT.D)(x:Zbj.D):Prop where
 op:2≤x.1∧x.1≤23∧x.1≠21
 n:-9223372036854775808≤x.2.2.2.1∧x.2.2.2.1≤9223372036854775807
 al:x.2.2.2.2.1.length * 8≤140737488351232
 a20:x.1=20→0 < x.2.2.2.2.1.length
 us:∀ z∈Zcc x,0≤z∧z < nv u
 ul:(Zcc x).length≤20000000000000
theorem Zas {l:List Int}{i:Nat}(h:i < l.length):l.getD i 0∈l:=by
 rw [List.getD_eq_getElem?_getD,List.getElem?_eq_getElem h];exact List.getElem_mem h
theorem Zce {l:List Int}{i:Nat}(h:i < l.length):(l.map (Value.int .i64))[i]?=some (.int .i64 (l.getD i 0)):=by
 rw [List.getElem?_map,List.getElem?_eq_getElem h,List.getD_eq_getElem?_getD,List.getElem?_eq_getElem h];rfl
theorem Zys {ws L:List Int}(h:Wd ws):wd (Zsz ws L):=by
 unfold Zsz;split
 ·unfold wd;omega
 ·exact h.at_ _
theorem Zy2 {ws L:List Int}(h:Wd ws):wd (Zts ws L):=by
 unfold Zts;split
 ·unfold wd;omega
 ·exact h.at_ _
theorem Zxf {ws:List Int}{a v:Int}(h:Wd ws)(hv:wd v):Wd (Zn2 ws a v):=by
 unfold Zn2;split
 ·exact h
 ·intro w hw
  rcases List.mem_or_eq_of_mem_set hw with h1 | h1
  ·exact h w h1
  ·rw [h1];exact hv
theorem Zuq (ws:List Int)(a v:Int):(Zn2 ws a v).length=ws.length:=by unfold Zn2;split <;> simp
theorem Zx1 (hS:S 38=[]){Q:Nat→Prop}{u:UnT.D}{K:Kv}{V:Vv}(h:Ev Q m u K V){a v:Int}(ha:0≤a)(hv:wd v) :
  ∃ r m1,Zag Tryd.prog TT S 38 [.pointer (some ⟨K.hb,0,none⟩),.int .u64 a,.int .u64 v] m=some (r,m1)∧r=.bool (Z0b V.hw a)∧Ev Q m1 u K { V with hw:=Zn2 V.hw a v }∧Zaa m m1 [K.hwf]:=by
 obtain⟨r,m1,e,hr,hh,k⟩:=Z38 (v:=v) hS h.heap ha (by have:=h.hl;omega)
 have nd:=h.nd
 exact⟨r,m1,e,hr,⟨h.own.keep k (by simpa using nd.2.2.1),h.wds.keep k (by simpa using nd.2.2.2.2.1),h.len,h.wd,Zxf h.hwd hv,by rw [Zuq];exact h.hl,hh,h.unit.keep k (by simpa using h.nq.2.2.2),h.nq,nd⟩,k⟩
set_option maxHeartbeats 8000000 in
theorem Z16 (hN:Nv S){Q:Nat→Prop}{u:UnT.D}{K:Kv}{V:Vv}(h:Ev Q m u K V)(hnu:nv u≤1000000){i:Nat}(hi:i < nv u)(hx:VOk u (u.2.2.1[i])) :
  ∃ v m1,Zag Tryd.prog TT S 29 [.pointer (some ⟨K.x,0,none⟩),.int .i64 (i:Int)] m=some (v,m1)∧Ev Q m1 u K { V with hw:=Zlb (u.2.2.1[i]) V.hw V.ws,ws:=Zm4 (u.2.2.1[i]) i V.hw V.ws }∧Zaa m m1 [K.wf,K.hwf]:=by
 obtain⟨vb,ao,fa,hvo,ld,hra,hqa⟩:=Zh h.unit hi
 generalize u.2.2.1[i]=x at *
 have i4:(i:Int)≤9223372036854775807:=by omega
 have i1:(i:Int) < (nv u:Int):=by omega
 have o2:=h.own.load1 (off:=2) rfl
 rw [hvo] at o2
 obtain⟨oZ,kZ,nZ⟩:=Zat (m:=m) (cs:=[.int .i64 0,.int .i64 0,.int .i64 0,.int .i64 0,.slice none 0 0,.int .i64 0]) (e:=38) rfl
 obtain⟨bx,hbx⟩:∃ bx,m.next=bx:=⟨_,rfl⟩
 obtain⟨m3,e3,oX,kX⟩:=Zaj (r:=_) rfl oZ (off:=0) (vs:=Zkr x ao) (by simp) (by simp [Zam,Zad])
 simp [Zbr] at oX
 have k3:=kZ.fresh kX (by simp)
 rw [hbx] at oX nZ e3
 have h3:=h.keep0 k3
 have lx3:=oX.load (off:=0) 6 (by simp)
 simp [Zao] at lx3
 obtain⟨v4,m4,c4,⟨uo,uf,rfl,hru⟩,k4⟩:=Zpk (m:=m3) hN.uses hN.parts (op:=x.1) (a:=x.2.1) (b:=x.2.2.1) (n:=x.2.2.2.1) (st:=x.2.2.2.2.2.1) (l:=x.2.2.2.2.1) (by have:=hx.al;omega) (hra.keep k3 (by simp))
 have h4:=h3.keep0 k4
 have o4:=oX.keep k4 (by simp)
 have w6:=h4.own.load1 (off:=6) rfl
 obtain⟨L,hL⟩:∃ L,Ze7 x.1 x.2.1 x.2.2.1 x.2.2.2.2.1=L:=⟨_,rfl⟩
 have hLo:∀ z∈Ze7 x.1 x.2.1 x.2.2.1 x.2.2.2.2.1,0≤z∧z < nv u:=hx.us
 have hLl:L.length≤20000000000000:=hL ▸ hx.ul
 rw [hL] at c4 hru hLo
 have hgw:∀ y:Int,(0≤y∧y < nv u)→∃ n:Nat,y=(n:Int)∧n < nv u:=fun y hy=>⟨y.toNat,by omega,by omega⟩
 have ww:(words V.ws).length=nv u:=by rw [Ze5,h.len]
 have nL:(nv u:Int)≤1000000:=by omega
 obtain⟨rb,hrb⟩:∃ rb:Nat,L.length≠0→uo=some ⟨rb,0,none⟩∧Rdo m4 rb (L.map (Value.int .i64)) 3 uf:=by
  by_cases hp:L.length=0
  ·exact⟨0,fun e=>absurd hp e⟩
  ·obtain⟨rb,e,o⟩:=hru.rdo hp
   exact⟨rb,fun _=>⟨e,o⟩⟩
 obtain⟨a0,ha0⟩:∃ a0:Nat,L.length≠0→L.getD 0 0=(a0:Int)∧a0 < nv u:=by
  by_cases hp:L.length=0
  ·exact⟨0,fun e=>absurd hp e⟩
  ·obtain⟨a,ea,ha⟩:=hgw _ (hLo _ (Zas (i:=0) (by omega)))
   exact⟨a,fun _=>⟨ea,ha⟩⟩
 obtain⟨a1,ha1⟩:∃ a1:Nat,¬ L.length≤1→L.getD 1 0=(a1:Int)∧a1 < nv u:=by
  by_cases hp:L.length≤1
  ·exact⟨0,fun e=>absurd hp e⟩
  ·obtain⟨a,ea,ha⟩:=hgw _ (hLo _ (Zas (i:=1) (by omega)))
   exact⟨a,fun _=>⟨ea,ha⟩⟩
 have f0:L.length≠0→loadRow m4 ⟨rb,0,none⟩ 1=some [.int .i64 (a0:Int)]∧loadRow m4 ⟨K.wb,a0,none⟩ 1=some [.int .u64 (Zsz V.ws L)]∧(a0:Int) < nv u:=by
  intro hp
  obtain⟨e,o⟩:=hrb hp
  obtain⟨ea,ha⟩:=ha0 hp
  have l1:=o.load1 (off:=0) (Zce (by omega))
  rw [ea] at l1
  refine⟨l1,?_,by omega⟩
  have l2:=h4.wds.load1 (off:=a0) (Zbs (by rw [h.len];exact ha))
  rw [l2]
  unfold Zsz
  rw [if_neg hp,ea];rfl
 have f1:¬ L.length≤1→loadRow m4 ⟨rb,1,none⟩ 1=some [.int .i64 (a1:Int)]∧loadRow m4 ⟨K.wb,a1,none⟩ 1=some [.int .u64 (Zts V.ws L)]∧(a1:Int) < nv u:=by
  intro hp
  obtain⟨e,o⟩:=hrb (by omega)
  obtain⟨ea,ha⟩:=ha1 hp
  have l1:=o.load1 (off:=1) (Zce (by omega))
  rw [ea] at l1
  refine⟨l1,?_,by omega⟩
  have l2:=h4.wds.load1 (off:=a1) (Zbs (by rw [h.len];exact ha))
  rw [l2]
  unfold Zts
  rw [if_neg hp,ea];rfl
 have A0:L.length=0→Zsz V.ws L=0:=fun e=>by unfold Zsz;rw [if_pos e]
 have B0:L.length≤1→Zts V.ws L=0:=fun e=>by unfold Zts;rw [if_pos e]
 obtain⟨av,hav⟩:∃ av,Zsz V.ws L=av:=⟨_,rfl⟩
 obtain⟨bv,hbv⟩:∃ bv,Zts V.ws L=bv:=⟨_,rfl⟩
 have wav:wd av:=hav ▸ Zys h.wd
 have wbv:wd bv:=hbv ▸ Zy2 h.wd
 rw [hav] at f0 A0
 rw [hbv] at f1 B0
 have ix:(i:Int)≤9223372036854775807:=by omega
 have hD:Zm4 x i V.hw V.ws=Zlc x.1 x.2.2.2.1 av bv V.hw V.ws i:=by unfold Zm4;rw [show Zcc x=L from hL,hav,hbv]
 have hE:Zlb x V.hw V.ws=Zk5 x.1 x.2.2.2.1 av bv (Z0w x V.ws) V.hw:=by unfold Zlb;rw [show Zcc x=L from hL,hav,hbv]
 rw [hD,hE]
 refine Zfi 57 [68,77,92,107,123,140,151,172,172] k29 hN.does rfl ?_
 simp [-Int.natCast_add,o2,i4,hi,ld,hbx,e3,lx3,c4]
 have nL1:(nv u:Int)≤9223372036854775807:=by omega
 have own4:=h4.own
 apply Yaa
 case main =>
  by_cases q0:L=[]
  case' pos =>
   have A0':=A0 (by rw [q0];rfl)
   have B0':=B0 (by rw [q0];simp)
   intro meth
   simp [-Int.natCast_add,-w29_8,q0]
  case' neg =>
   have q0':L.length≠0:=fun e=>q0 (List.length_eq_zero_iff.1 e)
   obtain⟨hro,hrl⟩:=hrb q0'
   obtain⟨p1,p2,p3⟩:=f0 q0'
   obtain⟨p4,p5⟩:=ha0 q0'
   have p11:(a0:Int)≤9223372036854775807:=by omega
   by_cases q1:L.length=1
   case' pos =>
    have B1':=B0 (by omega)
    intro meth
    simp [-Int.natCast_add,-w29_8,q0,q1,hro,w6,p1,p2,p5,p11]
   case' neg =>
    have q2:¬ L.length≤1:=by omega
    have q3:1 < L.length:=by omega
    obtain⟨p6,p7,p8⟩:=f1 q2
    obtain⟨p9,p10⟩:=ha1 q2
    have p12:(a1:Int)≤9223372036854775807:=by omega
    have q4:¬ (L.length:Int)=1:=by omega
    have q5:0 < L.length:=by omega
    intro meth
    simp [-Int.natCast_add,-w29_8,q0,q3,hro,w6,p1,p2,p5,p6,p7,p10,p11,p12,q4,q5]
  all_goals
   exact Ze4 (E:=[(0,.pointer (some ⟨K.x,0,none⟩)),(1,.int .i64 (i:Int)),(4,.pointer (some ⟨bx,0,none⟩)),(5,.int .u64 av),(6,.int .u64 bv)]) meth ⟨by rfl,by rfl,by rfl,by first | rfl | (simp [Zbu];omega),by first | rfl | (simp [Zbu];omega),trivial⟩
 have b3:=o4.load1 (off:=3) rfl
 have b0:=o4.load1 (off:=0) rfl
 have b4:=o4.load1 (off:=4) rfl
 have hn:=h4.own.load1 (off:=5) rfl
 simp [-Int.natCast_add,-w29_10,b3,b0]
 have k04:Zaa m m4 [K.wf,K.hwf]:=(k3.trans k4).mono (by simp)
 have hwl:V.hw.length≤1000000:=by have:=h.hl;omega
 obtain⟨o,ho⟩:∃ o:Int,x.1=o:=⟨_,rfl⟩
 obtain⟨n,hn'⟩:∃ n:Int,x.2.2.2.1=n:=⟨_,rfl⟩
 have op:(2:Int)≤o∧o≤23∧o≠21:=by rw [← ho];exact hx.op
 rw [ho,hn']
 rw [ho] at b0
 have wn:=Zds n
 by_cases c2:o=2
 ·obtain⟨m5,e5,v5,k5⟩:=h4.setw hi wn
  simp [-Int.natCast_add,c2,w6,ix,hi,e5]
  exact⟨by simpa [Zlc,Zk5] using v5,k04.trans (k5.mono (by simp))⟩
 by_cases c15:o=15
 ·have c:=Z0u hN.type hN.head hN.word h4.heap wav.1 hwl h.hwd
  have q:=h.hwd.at_ av.toNat
  have qw:IntKind.u64.wrap (V.hw.getD av.toNat 0 / 4294967296)=V.hw.getD av.toNat 0 / 4294967296:=Zbh (by omega) (by omega)
  obtain⟨m5,e5,v5,k5⟩:=h4.setw (v:=V.hw.getD av.toNat 0 / 4294967296) hi (by omega)
  simp [-Int.natCast_add,-List.getD_eq_getElem?_getD,c15,w6,hn,ix,hi,c,qw,e5]
  exact⟨by simpa [-List.getD_eq_getElem?_getD,Zlc,Zk5] using v5,k04.trans (k5.mono (by simp))⟩
 by_cases c16:o=16
 ·have c:=Z3w hN.len hN.head hN.word h4.heap wav.1 hwl h.hwd
  have q:=h.hwd.at_ av.toNat
  have qw:IntKind.u64.wrap (V.hw.getD av.toNat 0 % 4294967296)=V.hw.getD av.toNat 0 % 4294967296:=Zbh (by omega) (by omega)
  obtain⟨m5,e5,v5,k5⟩:=h4.setw (v:=V.hw.getD av.toNat 0 % 4294967296) hi (by omega)
  simp [-Int.natCast_add,-List.getD_eq_getElem?_getD,c16,w6,hn,ix,hi,c,qw,e5]
  exact⟨by simpa [-List.getD_eq_getElem?_getD,Zlc,Zk5] using v5,k04.trans (k5.mono (by simp))⟩
 by_cases c17:o=17
 ·have c:=Zo7 hN.word h4.heap (Zds (av+IntKind.u64.wrap n)).1 hwl
  obtain⟨m5,e5,v5,k5⟩:=h4.setw hi (h.hwd.at_ (IntKind.u64.wrap (av+IntKind.u64.wrap n)).toNat)
  simp [-Int.natCast_add,-List.getD_eq_getElem?_getD,c17,w6,hn,ix,hi,c,e5]
  exact⟨by simpa [-List.getD_eq_getElem?_getD,Zlc,Zk5] using v5,k04.trans (k5.mono (by simp))⟩
 by_cases c18:o=18
 ·have c:=Zo7 hN.word h4.heap (Zds (IntKind.u64.wrap (av+1)+bv)).1 hwl
  obtain⟨m5,e5,v5,k5⟩:=h4.setw hi (h.hwd.at_ (IntKind.u64.wrap (IntKind.u64.wrap (av+1)+bv)).toNat)
  simp [-Int.natCast_add,-List.getD_eq_getElem?_getD,c18,w6,hn,ix,hi,c,e5]
  exact⟨by simpa [-List.getD_eq_getElem?_getD,Zlc,Zk5] using v5,k04.trans (k5.mono (by simp))⟩
 by_cases c19:o=19
 ·obtain⟨r,m5,e5,rfl,v5,k5⟩:=Zx1 hN.put h4 (Zds (av+IntKind.u64.wrap n)).1 wbv
  simp [-Int.natCast_add,c19,hn,e5]
  exact⟨by simpa [Zlc,Zk5] using v5,k04.trans (k5.mono (by simp))⟩
 by_cases c20:o=20
 ·have lpos:=hx.a20 (by rw [ho,c20])
  have hr4:=(hra.keep k3 (by simp)).keep k4 (by simp)
  obtain⟨sb,rfl,hsb⟩:=hr4.rdo (by omega)
  have s1:=hsb.load1 (off:=0) (Zce lpos)
  obtain⟨w,ew,hw⟩:=hgw ((show List Int from x.2.2.2.2.1).getD 0 0) (hx.us _ (by
   have:x.1=20:=by rw [ho,c20]
   unfold Zcc Ze7
   rw [this]
   refine List.mem_append_right _ ?_
   rw [if_pos rfl]
   revert lpos
   generalize x.2.2.2.2.1=l
   intro lpos
   cases l with
   | nil=>simp at lpos
   | cons a r=>simp))
  rw [ew] at s1
  have s2:=h4.wds.load1 (off:=w) (Zbs (by rw [h.len];exact hw))
  have s3:Z0w x V.ws=V.ws.getD w 0:=by unfold Z0w;rw [ew];rfl
  have s4:(w:Int) < nv u:=by omega
  have s5:(w:Int)≤9223372036854775807:=by omega
  have s6:=hx.al
  have s7:(x.2.2.2.2.1.length:Int)≤9223372036854775807:=by omega
  have s8:(0:Int) < x.2.2.2.2.1.length:=by omega
  rw [s3]
  obtain⟨r,m5,e5,rfl,v5,k5⟩:=Zx1 hN.put h4 (Zds (IntKind.u64.wrap (av+1)+bv)).1 (h.wd.at_ w)
  simp [-Int.natCast_add,-List.getD_eq_getElem?_getD,c20,hn,b4,lpos,s1,w6,hw,s5,s2,e5]
  exact⟨by simpa [-List.getD_eq_getElem?_getD,Zlc,Zk5] using v5,k04.trans (k5.mono (by simp))⟩
 by_cases c22:o=22
 ·simp [-Int.natCast_add,c22]
  exact⟨by simpa [Zlc,Zk5] using h4,k04⟩
 by_cases c23:o=23
 ·simp [-Int.natCast_add,c23]
  exact⟨by simpa [Zlc,Zk5] using h4,k04⟩
 obtain⟨wt,c,_⟩:=Z3b hN.tw (k:=o) (by omega) wav wbv
 obtain⟨m5,e5,v5,k5⟩:=h4.setw hi wt
 simp [-Int.natCast_add,c2,c15,c16,c17,c18,c19,c20,c22,c23,b0,w6,ix,hi,c,e5]
 exact⟨by simpa [Zlc,Zk5,c2,c15,c16,c17,c18,c19,c20,c22,c23] using v5,k04.trans (k5.mono (by simp))⟩
end Go.Proofs.YtlogdohlcdhepaaDoor.base
end
section
set_option maxRecDepth 100000
namespace Go.Proofs.YtlogdohlcdhepaaDoor.base
open Go.Sh gen
variable {S:Zb2}{m:Mem}
theorem Z4l {Q:Nat→Prop}{u:UnT.D}{K:Kv}{V:Vv}(h:Ev Q m u K V)(v:Int) :
  ∃ m1,Zaf m ⟨K.x,7,none⟩ [.int .i64 v]=some m1∧Ev Q m1 u K { V with wish:=v }∧Zaa m m1 [K.f]:=by
 obtain⟨m1,e1,o1,k1⟩:=Zaj (r:=_) rfl h.own (off:=7) (vs:=[.int .i64 v]) (by simp) (by simp [Zam])
 have nd:=h.nd
 refine⟨m1,e1,⟨by simpa [Zbr] using o1,h.wds.keep k1 (by simpa using fun e=>nd.1 e.symm),h.len,h.wd,h.hwd,h.hl,h.heap.keep k1 (by simpa using fun e=>nd.2.1 e.symm) (by simpa using fun e=>nd.2.2.1 e.symm),h.unit.keep k1 (by simpa using h.nq.1),h.nq,nd⟩,k1⟩
theorem Zjd {Q:Nat→Prop}{u:UnT.D}{K:Kv}{V:Vv}(h:Ev Q m u K V)(v:Int) :
  ∃ m1,Zaf m ⟨K.x,8,none⟩ [.int .i64 v]=some m1∧Ev Q m1 u K { V with steps:=v }∧Zaa m m1 [K.f]:=by
 obtain⟨m1,e1,o1,k1⟩:=Zaj (r:=_) rfl h.own (off:=8) (vs:=[.int .i64 v]) (by simp) (by simp [Zam])
 have nd:=h.nd
 refine⟨m1,e1,⟨by simpa [Zbr] using o1,h.wds.keep k1 (by simpa using fun e=>nd.1 e.symm),h.len,h.wd,h.hwd,h.hl,h.heap.keep k1 (by simpa using fun e=>nd.2.1 e.symm) (by simpa using fun e=>nd.2.2.1 e.symm),h.unit.keep k1 (by simpa using h.nq.1),h.nq,nd⟩,k1⟩
theorem Zpz (hS:S 26=[]){Q:Nat→Prop}{u:UnT.D}{K:Kv}{V:Vv}(h:Ev Q m u K V) :
  ∃ v m1,Zag Tryd.prog TT S 26 [.pointer (some ⟨K.x,0,none⟩)] m=some (v,m1)∧v=.agg #[.int .i64 0,.int .i64 (-1),.int .i64 (-1),.slice none 0 0,.int .i64 V.steps]∧Zaa m m1 []:=by
 obtain⟨oZ,kZ,nZ⟩:=Zat (m:=m) (cs:=[.int .i64 0,.int .i64 0,.int .i64 0,.slice none 0 0,.int .i64 0]) (e:=28) rfl
 obtain⟨bx,hbx⟩:∃ bx,m.next=bx:=⟨_,rfl⟩
 have l8:=(h.keep0 kZ).own.load1 (off:=8) rfl
 obtain⟨m3,e3,oX,kX⟩:=Zaj (r:=_) rfl oZ (off:=0) (vs:=[.int .i64 0,.int .i64 (-1),.int .i64 (-1),.slice none 0 0,.int .i64 V.steps]) (by simp) (by simp [Zam,Zad])
 simp [Zbr] at oX
 have k3:=kZ.fresh kX (by simp)
 rw [hbx] at oX nZ e3
 have lX:=oX.load (off:=0) 5 (by simp)
 simp [Zao] at lX
 refine Zfi 3 [] k26 hS rfl ?_
 simp [Zdf Zwp,Zau Z7n,l8,hbx,e3,lX]
 exact k3
def Zeo (x:Zbj.D)(ws:List Int)(wish:Int):Bool:=if x.1=22 then decide (ws.getD (show Int from x.2.1).toNat 0=0) else if x.1=23 then decide (wish=0) else false
def Zcl (x:Zbj.D)(wish:Int):Int:=if x.1=23∧0 < wish then wish - 1 else wish
set_option maxHeartbeats 4000000 in
theorem Zvz (hS:S 27=[]){Q:Nat→Prop}{u:UnT.D}{K:Kv}{V:Vv}(h:Ev Q m u K V)(hnu:nv u≤1000000){i:Nat}(hi:i < nv u)
  (ha:(u.2.2.1[i]).1=22→(0:Int)≤(u.2.2.1[i]).2.1∧(u.2.2.1[i]).2.1 < (nv u:Int)) (hw:-9223372036854775808≤V.wish∧V.wish≤9223372036854775807) :
  ∃ v m1,Zag Tryd.prog TT S 27 [.pointer (some ⟨K.x,0,none⟩),.int .i64 (i:Int)] m=some (v,m1)∧v=.bool (Zeo (u.2.2.1[i]) V.ws V.wish)∧Ev Q m1 u K { V with wish:=Zcl (u.2.2.1[i]) V.wish }∧Zaa m m1 [K.f]:=by
 obtain⟨vb,ao,fa,hvo,ld,hra,hqa⟩:=Zh h.unit hi
 generalize u.2.2.1[i]=x at *
 have i4:(i:Int)≤9223372036854775807:=by omega
 have i1:(i:Int) < (nv u:Int):=by omega
 have o2:=h.own.load1 (off:=2) rfl
 rw [hvo] at o2
 obtain⟨oZ,kZ,nZ⟩:=Zat (m:=m) (cs:=[.int .i64 0,.int .i64 0,.int .i64 0,.int .i64 0,.slice none 0 0,.int .i64 0]) (e:=38) rfl
 obtain⟨bx,hbx⟩:∃ bx,m.next=bx:=⟨_,rfl⟩
 obtain⟨m3,e3,oX,kX⟩:=Zaj (r:=_) rfl oZ (off:=0) (vs:=Zkr x ao) (by simp) (by simp [Zam,Zad])
 simp [Zbr] at oX
 have k3:=kZ.fresh kX (by simp)
 rw [hbx] at oX nZ e3
 have h3:=h.keep0 k3
 have k3f:Zaa m m3 [K.f]:=k3.mono (by simp)
 have b0:=oX.load1 (off:=0) rfl
 have b1:=oX.load1 (off:=1) rfl
 have w6:=h3.own.load1 (off:=6) rfl
 have w7:=h3.own.load1 (off:=7) rfl
 obtain⟨o,ho⟩:∃ o:Int,x.1=o:=⟨_,rfl⟩
 obtain⟨a,ha'⟩:∃ a:Int,x.2.1=a:=⟨_,rfl⟩
 rw [ho] at b0
 rw [ha'] at b1
 have ha2:o=22→(0:Int)≤a∧a < (nv u:Int):=by rw [← ho,← ha'];exact ha
 have eB:Zeo x V.ws V.wish=(if o=22 then decide (V.ws.getD a.toNat 0=0) else if o=23 then decide (V.wish=0) else false):=by unfold Zeo;rw [ho];rw [show (show Int from x.2.1)=a from ha']
 have eW:Zcl x V.wish=(if o=23∧0 < V.wish then V.wish - 1 else V.wish):=by unfold Zcl;rw [ho]
 rw [eB,eW]
 have nL1:(nv u:Int)≤9223372036854775807:=by omega
 refine Zfi 16 [16,27,33,38] k27 hS rfl ?_
 by_cases c22:o=22
 ·obtain⟨q1,q2⟩:=ha2 c22
  obtain⟨n,rfl⟩:∃ n:Nat,a=(n:Int):=⟨a.toNat,by omega⟩
  have q3:n < nv u:=by omega
  have q4:(n:Int)≤9223372036854775807:=by omega
  have lw:=h3.wds.load1 (off:=n) (Zbs (by rw [h.len];exact q3))
  simp [-Int.natCast_add,-List.getD_eq_getElem?_getD,o2,i4,hi,ld,hbx,e3,b0,b1,c22,w6,q3,q4,lw]
  exact⟨h3,k3f⟩
 by_cases c23:o=23
 ·by_cases z:V.wish=0
  ·simp [-Int.natCast_add,o2,i4,hi,ld,hbx,e3,b0,c23,w7,z]
   rw [z] at w7
   exact⟨by simpa [← z] using h3,k3f⟩
  ·by_cases p:0 < V.wish
   ·obtain⟨m4,e4,v4,k4⟩:=Z4l h3 (V.wish - 1)
    have wr:IntKind.i64.wrap (V.wish - 1)=V.wish - 1:=Zab (by omega) (by omega)
    simp [-Int.natCast_add,o2,i4,hi,ld,hbx,e3,b0,c23,w7,z,p,wr,e4]
    exact⟨v4,k3f.trans k4⟩
   ·simp [-Int.natCast_add,o2,i4,hi,ld,hbx,e3,b0,c23,w7,z,p]
    exact⟨h3,k3f⟩
 simp [-Int.natCast_add,o2,i4,hi,ld,hbx,e3,b0,c22,c23]
 exact⟨h3,k3f⟩
end Go.Proofs.YtlogdohlcdhepaaDoor.base
end
section
set_option maxRecDepth 100000
namespace Go.Proofs.YtlogdohlcdhepaaDoor.base
open Go.Sh gen
variable {S:Zb2}{m:Mem}
abbrev nb (u:UnT.D):Nat:=u.2.2.2.1.length
abbrev Zy8 (x:Zfk.D)(vo no po:Option Addr):List Value:=[.slice vo x.1.length x.1.length,.int .i64 x.2.1,.int .i64 x.2.2.1,.slice no x.2.2.2.1.length x.2.2.2.1.length,.slice po x.2.2.2.2.1.length x.2.2.2.2.1.length,.int .i64 x.2.2.2.2.2.1]
abbrev Za2 (Q:Nat→Prop)(m:Mem)(ao:Option Addr)(l:List Int):Prop:=∃ f,Rs m ao l.length (l.map (Value.int .i64)) 3 1 f∧(l.length≠0→Q f)
theorem Za2.keep {Q:Nat→Prop}{m1:Mem}{ao:Option Addr}{l:List Int}{fs:List Nat}(h:Za2 Q m ao l)(k:Zaa m m1 fs)(hf:∀ f∈fs,¬ Q f):Za2 Q m1 ao l:=by
 obtain⟨f,h1,h2⟩:=h
 by_cases hl:l.length=0
 ·exact⟨f,⟨h1.1,Or.inl ⟨hl,h1.spot⟩⟩,h2⟩
 ·exact⟨f,h1.keep k (fun hm=>hf f hm (h2 hl)),h2⟩
theorem Za2.get {Q:Nat→Prop}{ao:Option Addr}{l:List Int}(h:Za2 Q m ao l){i:Nat}(hi:i < l.length):∃ b,ao=some ⟨b,0,none⟩∧loadRow m ⟨b,i,none⟩ 1=some [.int .i64 (l.getD i 0)]:=by
 obtain⟨f,h1,h2⟩:=h
 obtain⟨b,rfl,o⟩:=h1.rdo (by omega)
 exact⟨b,rfl,o.load1 (off:=i) (Zce hi)⟩
theorem Zgf {Q:Nat→Prop}{u:UnT.D}{vo bo so:Option Addr}(h:UAt Q m u vo bo so){i:Nat}(hi:i < nb u) :
  ∃ (b:Nat) (vo no po:Option Addr),bo=some ⟨b,0,none⟩∧loadRow m ⟨b,i * 6,none⟩ 6=some (Zy8 (u.2.2.2.1[i]) vo no po)∧Za2 Q m vo (u.2.2.2.1[i]).1∧Za2 Q m no (u.2.2.2.1[i]).2.2.2.1∧Za2 Q m po (u.2.2.2.1[i]).2.2.2.2.1:=by
 obtain⟨vb,c,fam,e,hc,hl,hq,_⟩:=Zhw h.b hi
 obtain⟨_,_,e1,h1,_,_,e2,rfl,_,_,e3,rfl,_,_,e4,h4,_,_,e5,h5,_,_,e6,rfl,h7⟩:=hc
 simp only [AtQ] at h7
 subst h7
 obtain⟨ao1,f1,rfl,hr1,hqf1⟩:=Zfr h1
 obtain⟨ao4,f4,rfl,hr4,hqf4⟩:=Zfr h4
 obtain⟨ao5,f5,rfl,hr5,hqf5⟩:=Zfr h5
 refine⟨vb,ao1,ao4,ao5,e,?_,⟨f1,hr1,hqf1⟩,⟨f4,hr4,hqf4⟩,⟨f5,hr5,hqf5⟩⟩
 rw [e1,e2,e3,e4,e5,e6] at hl
 exact hl
def Za1 (u:UnT.D)(v:Int):Zbj.D:=(show List Zbj.D from u.2.2.1).getD v.toNat ((0:Int),(0:Int),(0:Int),(0:Int),([]:List Int),(0:Int),())
theorem Zeg {u:UnT.D}{v:Nat}(h:v < nv u):Za1 u (v:Int)=u.2.2.1[v]:=by
 unfold Za1
 rw [Int.toNat_natCast,List.getD_eq_getElem?_getD,List.getElem?_eq_getElem h];rfl
def Zsa (u:UnT.D)(loc:List Int)(p:List Int × Int)(v:Int):List Int × Int:=
 if (Za1 u v).1=1 then (if (show Int from (Za1 u v).2.2.2.1) < loc.length then p.1.set v.toNat (loc.getD (show Int from (Za1 u v).2.2.2.1).toNat 0) else p.1,p.2+1) else p
def Zhk (u:UnT.D)(loc:List Int)(l:List Int)(p:List Int × Int):List Int × Int:=l.foldl (Zsa u loc) p
theorem Zxi {u:UnT.D}{loc l:List Int}{p:List Int × Int}{j:Nat}(h:j < l.length):Zhk u loc (l.take (j+1)) p=Zsa u loc (Zhk u loc (l.take j) p) (l.getD j 0):=by
 unfold Zhk
 rw [List.take_succ_eq_append_getElem h,List.foldl_append,List.getD_eq_getElem?_getD,List.getElem?_eq_getElem h]
 rfl
set_option maxHeartbeats 4000000 in
theorem Zwg (hS:S 25=[]){Q:Nat→Prop}{u:UnT.D}{K:Kv}{V:Vv}(h:Ev Q m u K V)(hnu:nv u≤1000000)(hb:0 < nb u)
  (hl:(u.2.2.2.1[0]).1.length≤1000000) (hv:∀ v∈(show List Int from (u.2.2.2.1[0]).1),(0:Int)≤v∧v < (nv u:Int)) (hn:∀ x∈u.2.2.1,x.1=1→(0:Int)≤x.2.2.2.1∧x.2.2.2.1≤9223372036854775807)
  (hs:0≤V.steps∧V.steps≤1000000) {lo:Option Addr} {loc:List Int} {c lf:Nat} (hlo:Rs m lo loc.length (words loc) 45 1 lf) (hlq:loc.length≠0→lf≠K.f∧lf≠K.wf) (hlw:Wd loc) (hlc:loc.length≤c∧c≤9223372036854775807) :
  ∃ v m1,Zag Tryd.prog TT S 25 [.pointer (some ⟨K.x,0,none⟩),.slice lo loc.length c] m=some (v,m1)∧
   Ev Q m1 u K { V with ws:=(Zhk u loc (u.2.2.2.1[0]).1 (V.ws,V.steps)).1,steps:=(Zhk u loc (u.2.2.2.1[0]).1 (V.ws,V.steps)).2 }∧Zaa m m1 [K.f,K.wf]:=by
 obtain⟨bb,vo,no,po,hbo,ldb,hvo,_,_⟩:=Zgf h.unit hb
 generalize hlx:(show List Int from (u.2.2.2.1[0]).1)=l at *
 have hlx':(u.2.2.2.1[0]).1=l:=hlx
 rw [hlx'] at hl ⊢
 rw [hlx'] at hvo
 have l00:=Zb8 (k:=0) ldb rfl
 rw [hlx'] at l00
 have o3:=h.own.load1 (off:=3) rfl
 rw [hbo] at o3
 have hb1:(0:Int) < nb u:=by omega
 simp only [Nat.zero_mul,Nat.add_zero] at l00
 refine Zfi 17 [17,30,35] k25 hS rfl ?_
 simp [-Int.natCast_add,o3,hb,l00]
 have hnq:∀ f∈[K.f,K.wf],¬ Q f:=by
  intro f hf
  simp at hf
  rcases hf with rfl | rfl
  ·exact h.nq.1
  ·exact h.nq.2.1
 obtain⟨p0,hp0⟩:∃ p0,(V.ws,V.steps)=p0:=⟨_,rfl⟩
 have p01:p0.1=V.ws:=by rw [← hp0]
 have p02:p0.2=V.steps:=by rw [← hp0]
 rw [hp0]
 refine Zai 17 [17,30,35] (fun d E mE=>∃ (j:Nat),l.length - j=d∧j≤l.length∧Ev Q mE u K { V with ws:=(Zhk u loc (l.take j) p0).1,steps:=(Zhk u loc (l.take j) p0).2 }∧0≤(Zhk u loc (l.take j) p0).2∧(Zhk u loc (l.take j) p0).2≤V.steps+j∧Zaa m mE [K.f,K.wf]∧
  E=[(0,.pointer (some ⟨K.x,0,none⟩)),(1,.slice lo loc.length c),(14,.slice vo l.length l.length),(15,.int .i64 l.length),(16,.int .i64 (j:Int))]) _ ⟨_,⟨0,rfl,by omega,by rw [List.take_zero];unfold Zhk;rw [List.foldl_nil,p01,p02];exact h,by rw [List.take_zero];unfold Zhk;rw [List.foldl_nil,p02];exact hs.1,by rw [List.take_zero];unfold Zhk;rw [List.foldl_nil,p02];omega,.refl _ _,rfl⟩,(by repeat' constructor)⟩ ?_
 rintro d E mE ih ⟨j,hd,hj,hE,s0,s1,kE,rfl⟩
 have jm:(j:Int)≤9223372036854775807:=by omega
 by_cases hlt:j < l.length
 ·have j1:(j:Int) < l.length:=by omega
  have wj:IntKind.i64.wrap ((j:Int)+1)=((j+1:Nat):Int):=by rw [Zab (by omega) (by omega)];omega
  have ep:=Zxi (u:=u) (loc:=loc) (p:=p0) hlt
  obtain⟨p,hp⟩:∃ p,Zhk u loc (l.take j) p0=p:=⟨_,rfl⟩
  rw [hp] at ep hE s0 s1
  obtain⟨vb,rfl,lj⟩:=(hvo.keep kE hnq).get hlt
  obtain⟨v,ev⟩:∃ v:Nat,l.getD j 0=(v:Int):=⟨(l.getD j 0).toNat,by have:=hv _ (Zas hlt);omega⟩
  have hvn:v < nv u:=by have:=hv _ (Zas hlt);omega
  rw [ev] at lj ep
  obtain⟨xb,ao,fa,hvo',ldx,hra,hqa⟩:=Zh hE.unit hvn
  have o2:=hE.own.load1 (off:=2) rfl
  rw [hvo'] at o2
  have v1:(v:Int) < nv u:=by omega
  have v2:(v:Int)≤9223372036854775807:=by omega
  have nL1:(nv u:Int)≤9223372036854775807:=by omega
  have hxn:=hn (u.2.2.1[v]) (List.getElem_mem hvn)
  have eps:Zsa u loc p (v:Int)=(if (u.2.2.1[v]).1=1 then (if (show Int from (u.2.2.1[v]).2.2.2.1) < loc.length then p.1.set v (loc.getD (show Int from (u.2.2.1[v]).2.2.2.1).toNat 0) else p.1,p.2+1) else p):=by
   unfold Zsa
   rw [Zeg hvn,Int.toNat_natCast]
  rw [eps] at ep
  generalize u.2.2.1[v]=x at *
  obtain⟨oZ,kZ,nZ⟩:=Zat (m:=mE) (cs:=[.int .i64 0,.int .i64 0,.int .i64 0,.int .i64 0,.slice none 0 0,.int .i64 0]) (e:=38) rfl
  obtain⟨bx,hbx⟩:∃ bx,mE.next=bx:=⟨_,rfl⟩
  obtain⟨m3,e3,oX,kX⟩:=Zaj (r:=_) rfl oZ (off:=0) (vs:=Zkr x ao) (by simp) (by simp [Zam,Zad])
  simp [Zbr] at oX
  have k3:=kZ.fresh kX (by simp)
  rw [hbx] at oX nZ e3
  have h3:=hE.keep0 k3
  have k3f:Zaa m m3 [K.f,K.wf]:=kE.trans (k3.mono (by simp))
  have b0:=oX.load1 (off:=0) rfl
  have b3:=oX.load1 (off:=3) rfl
  have w6:=h3.own.load1 (off:=6) rfl
  have w8:=h3.own.load1 (off:=8) rfl
  dsimp only at w8
  obtain⟨o,ho⟩:∃ o:Int,x.1=o:=⟨_,rfl⟩
  obtain⟨n,hn'⟩:∃ n:Int,x.2.2.2.1=n:=⟨_,rfl⟩
  rw [ho] at b0 ep
  rw [hn'] at b3
  rw [show (show Int from x.2.2.2.1)=n from hn'] at ep
  have hxn':o=1→(0:Int)≤n∧n≤9223372036854775807:=by rw [← ho,← hn'];exact hxn
  have wp:IntKind.i64.wrap (p.2+1)=p.2+1:=Zab (by omega) (by omega)
  by_cases c1:o=1
  ·rw [if_pos c1] at ep
   obtain⟨q1,q2⟩:=hxn' c1
   obtain⟨n',rfl⟩:∃ n':Nat,n=(n':Int):=⟨n.toNat,by omega⟩
   by_cases c2:(n':Int) < loc.length
   ·rw [if_pos c2,Int.toNat_natCast] at ep
    have c2':n' < loc.length:=by omega
    have q5:(n':Int)≤9223372036854775807:=by omega
    obtain⟨lb,rfl,ol⟩:=((hlo.keep kE (by have:=hlq (by omega);simp;omega)).keep k3 (by simp)).rdo (by omega)
    have ll:=ol.load1 (off:=n') (Zbs c2')
    obtain⟨m4,e4,v4,k4⟩:=h3.setw (i:=v) hvn (hlw.at_ n')
    dsimp only at v4
    have w8':=v4.own.load1 (off:=8) rfl
    obtain⟨m5,e5,v5,k5⟩:=Zjd v4 (p.2+1)
    simp [-Int.natCast_add,-List.getD_eq_getElem?_getD,j1,jm,hlt,lj,o2,v2,hvn,ldx,hbx,e3,b0,b3,c1,c2,c2',q5,w6,ll,e4,w8',wp,e5,wj]
    have kk:Zaa m m5 [K.f,K.wf]:=(k3f.trans (k4.mono (by simp))).trans (k5.mono (by simp))
    exact ih _ _ _ _ ⟨j+1,rfl,by omega,by rw [ep];exact v5,by rw [ep];dsimp only;omega,by rw [ep];dsimp only;omega,kk,rfl⟩ (by omega) (by repeat' constructor)
   ·rw [if_neg c2] at ep
    obtain⟨m5,e5,v5,k5⟩:=Zjd h3 (p.2+1)
    simp [-Int.natCast_add,-List.getD_eq_getElem?_getD,j1,jm,hlt,lj,o2,v2,hvn,ldx,hbx,e3,b0,b3,c1,c2,w8,wp,e5,wj]
    exact ih _ _ _ _ ⟨j+1,rfl,by omega,by rw [ep];exact v5,by rw [ep];dsimp only;omega,by rw [ep];dsimp only;omega,k3f.trans (k5.mono (by simp)),rfl⟩ (by omega) (by repeat' constructor)
  ·rw [if_neg c1] at ep
   simp [-Int.natCast_add,-List.getD_eq_getElem?_getD,j1,jm,hlt,lj,o2,v2,hvn,ldx,hbx,e3,b0,c1,wj]
   exact ih _ _ _ _ ⟨j+1,rfl,by omega,by rw [ep];exact h3,by rw [ep];omega,by rw [ep];omega,k3f,rfl⟩ (by omega) (by repeat' constructor)
 ·have j1:¬ (j:Int) < l.length:=by omega
  have et:l.take j=l:=List.take_of_length_le (by omega)
  rw [et] at hE
  simp [-Int.natCast_add,j1]
  exact⟨hE,kE⟩
end Go.Proofs.YtlogdohlcdhepaaDoor.base
end
section
set_option maxRecDepth 100000
namespace Go.Proofs.YtlogdohlcdhepaaDoor.base
open Go.Sh gen
variable {S:Zb2}{m:Mem}
def Zh3:List Int→Int→Nat
 | [],_=>0
 | [_],_=>0
 | a::b::r,f=>if a=f then 0 else Zh3 (b::r) f+1
theorem Z55 {l:List Int}{f:Int}{i:Nat}(h1:∀ k,k < i→l.getD k 0≠f)(h2:i≤l.length - 1)(h3:l.length - 1≤i∨l.getD i 0=f):Zh3 l f=i:=by
  induction l generalizing i with
  | nil=>simp at h2;subst h2;rfl
  | cons a t ih =>
    cases t with
    | nil=>simp at h2;subst h2;rfl
    | cons b r =>
      unfold Zh3
      by_cases ha:a=f
      · rw [if_pos ha]
        cases i with
        | zero=>rfl
        | succ i=>exact absurd (by simpa using ha) (h1 0 (by omega))
      · rw [if_neg ha]
        cases i with
        | zero => rcases h3 with h3 | h3
                  · simp at h3
                  · exact absurd (by simpa using h3) ha
        | succ i =>
          rw [ih (i:=i) (fun k hk=>by have:=h1 (k+1) (by omega);simpa using this) (by simp at h2 ⊢;omega) (by
            rcases h3 with h3 | h3
            · left;simp at h3 ⊢;omega
            · right;simpa using h3)]
theorem Z4m {l:List Int}{f:Int}(h:l≠[]):Zh3 l f < l.length:=by
 induction l with
 | nil=>exact absurd rfl h
 | cons a t ih =>
  cases t with
  | nil=>simp [Zh3]
  | cons b r =>
   unfold Zh3
   split
   ·simp
   ·have:=ih (by simp)
    simp at this ⊢;omega
def Zki (u:UnT.D)(l:List Int)(i:Nat)(ws:List Int):List Int:=l.flatMap fun v=>if (Za1 u v).1=21 then [ws.getD ((show List Int from (Za1 u v).2.2.2.2.1).getD i 0).toNat 0] else []
theorem Zx7 {u:UnT.D}{l:List Int}{i j:Nat}{ws:List Int}(h:j < l.length):Zki u (l.take (j+1)) i ws=Zki u (l.take j) i ws++(if (Za1 u (l.getD j 0)).1=21 then [ws.getD ((show List Int from (Za1 u (l.getD j 0)).2.2.2.2.1).getD i 0).toNat 0] else []):=by
 unfold Zki
 rw [List.take_succ_eq_append_getElem h,List.flatMap_append,List.getD_eq_getElem?_getD,List.getElem?_eq_getElem h]
 simp
theorem Zon (u:UnT.D)(l:List Int)(i:Nat)(ws:List Int):(Zki u l i ws).length≤l.length:=by
 induction l with
 | nil=>simp [Zki]
 | cons a r ih =>
  have:Zki u (a::r) i ws=(if (Za1 u a).1=21 then [ws.getD ((show List Int from (Za1 u a).2.2.2.2.1).getD i 0).toNat 0] else [])++Zki u r i ws:=by simp [Zki]
  rw [this,List.length_append,List.length_cons]
  split
  ·simp;omega
  ·simp;omega
theorem Z4o {u:UnT.D}{l:List Int}{i:Nat}{ws:List Int}(h:Wd ws):Wd (Zki u l i ws):=by
 intro w hw
 unfold Zki at hw
 rw [List.mem_flatMap] at hw
 obtain⟨v,_,hv⟩:=hw
 split at hv
 ·simp only [List.mem_singleton] at hv
  rw [hv];exact h.at_ _
 ·simp at hv
def Zna (l p:List Int):Nat→List Int→List Int
 | 0,ws=>ws
 | j+1,ws=>(Zna l p j ws).set (l.getD j 0).toNat (p.getD j 0)
set_option maxHeartbeats 16000000 in
theorem Z1b (hS:S 30=[]){Q:Nat→Prop}{u:UnT.D}{K:Kv}{V:Vv}(h:Ev Q m u K V)(hnu:nv u≤1000000)(hnb:nb u≤1000000){from_:Int}{to:Nat}(hto:to < nb u)
  {l pr:List Int} (el:(u.2.2.2.1[to]).1=l) (ep:(u.2.2.2.1[to]).2.2.2.2.1=pr) (hl:l.length≤1000000) (hpl:pr.length≤1000000) (hp0:pr≠[])
  (hv:∀ v∈l,(0:Int)≤v∧v < (nv u:Int)) (hph:∀ v∈l,(Za1 u v).1=21→Zh3 pr from_ < (Za1 u v).2.2.2.2.1.length∧(Za1 u v).2.2.2.2.1.length≤1000000∧(0:Int)≤(show List Int from (Za1 u v).2.2.2.2.1).getD (Zh3 pr from_) 0∧(show List Int from (Za1 u v).2.2.2.2.1).getD (Zh3 pr from_) 0 < (nv u:Int))
  (hs:0≤V.steps∧V.steps≤1000000000) :
  ∃ v m1,Zag Tryd.prog TT S 30 [.pointer (some ⟨K.x,0,none⟩),.int .i64 from_,.int .i64 (to:Int)] m=some (v,m1)∧
   Ev Q m1 u K { V with ws:=Zna l (Zki u l (Zh3 pr from_) V.ws) (Zki u l (Zh3 pr from_) V.ws).length V.ws,steps:=V.steps+(Zki u l (Zh3 pr from_) V.ws).length }∧Zaa m m1 [K.f,K.wf]:=by
 obtain⟨bb,vo,no,po,hbo,ldb,hvo,hno,hpo⟩:=Zgf h.unit hto
 rw [el] at hvo
 rw [ep] at hpo
 generalize u.2.2.2.1[to]=x at *
 have o3:=h.own.load1 (off:=3) rfl
 rw [hbo] at o3
 have t1:(to:Int) < nb u:=by omega
 have t2:(to:Int)≤9223372036854775807:=by omega
 have hnq:∀ f∈[K.f,K.wf],¬ Q f:=by
  intro f hf
  simp at hf
  rcases hf with rfl | rfl
  ·exact h.nq.1
  ·exact h.nq.2.1
 obtain⟨oZ,kZ,nZ⟩:=Zat (m:=m) (cs:=[.slice none 0 0,.int .i64 0,.int .i64 0,.slice none 0 0,.slice none 0 0,.int .i64 0]) (e:=40) rfl
 obtain⟨bx,hbx⟩:∃ bx,m.next=bx:=⟨_,rfl⟩
 obtain⟨m3,e3,oX,kX⟩:=Zaj (r:=_) rfl oZ (off:=0) (vs:=Zy8 x vo no po) (by simp) (by simp [Zam,Zad])
 simp [Zbr] at oX
 unfold Zy8 at oX
 rw [el,ep] at oX
 have k3:=kZ.fresh kX (by simp)
 rw [hbx] at oX nZ e3
 have nb3:bx < m3.next:=oX.flt
 have h3:=h.keep0 k3
 refine Zfi 75 [75] k30 hS rfl ?_
 simp [-Int.natCast_add,o3,t2,hto,ldb,hbx,e3]
 have b4:=oX.load1 (off:=4) rfl
 have b0:=oX.load1 (off:=0) rfl
 have hpo3:=hpo.keep k3 (by simp)
 have hvo3:=hvo.keep k3 (by simp)
 have hpp:0 < pr.length:=List.length_pos_iff.2 hp0
 refine Zai 75 [75] (fun d E mE=>∃ (j:Nat),pr.length - j=d∧j≤pr.length - 1∧(∀ k,k < j→pr.getD k 0≠from_)∧mE=m3∧
  E=[(0,.pointer (some ⟨K.x,0,none⟩)),(1,.int .i64 from_),(6,.pointer (some ⟨bx,0,none⟩)),(7,.int .i64 (j:Int))]) _ ⟨_,⟨0,rfl,by omega,fun k hk=>by omega,rfl,rfl⟩,(by repeat' constructor)⟩ ?_
 rintro d E mE ih ⟨j,hd,hj,hne,rfl,rfl⟩
 have w1:IntKind.i64.wrap ((pr.length:Int) - 1)=((pr.length:Int) - 1):=Zab (by omega) (by omega)
 have jm:(j:Int)≤9223372036854775807:=by omega
 have wj:IntKind.i64.wrap ((j:Int)+1)=((j+1:Nat):Int):=by rw [Zab (by omega) (by omega)];omega
 have jl:(j:Int) < pr.length:=by omega
 have jl':j < pr.length:=by omega
 obtain⟨pb,hpb,lj⟩:=hpo3.get jl'
 rw [hpb] at b4
 by_cases hgo:j < pr.length - 1∧pr.getD j 0≠from_
 ·obtain⟨g1,g2⟩:=hgo
  have g3:(j:Int) < (pr.length:Int) - 1:=by omega
  simp [-Int.natCast_add,-List.getD_eq_getElem?_getD,b4,w1,g3,jm,jl',lj,g2,wj]
  exact ih _ _ _ _ ⟨j+1,rfl,by omega,fun k hk=>by
   by_cases hkj:k=j
   ·rw [hkj];exact g2
   ·exact hne k (by omega),rfl,rfl⟩ (by omega) (by repeat' constructor)
 have hidx:Zh3 pr from_=j:=Z55 hne hj (by
  by_cases hq:j < pr.length - 1
  ·right;exact Classical.byContradiction fun hc=>hgo ⟨hq,hc⟩
  ·left;omega)
 rw [hidx] at hph ⊢
 clear ih
 apply Yaa
 case main =>
  by_cases g1:j < pr.length - 1
  case' pos =>
   have g2:pr.getD j 0=from_:=Classical.byContradiction fun hc=>hgo ⟨g1,hc⟩
   have g3:(j:Int) < (pr.length:Int) - 1:=by omega
   intro meth
   simp [-Int.natCast_add,-List.getD_eq_getElem?_getD,-w30_4,b4,w1,g3,jm,jl',lj,g2]
  case' neg =>
   have g3:¬ (j:Int) < (pr.length:Int) - 1:=by omega
   intro meth
   simp [-Int.natCast_add,-List.getD_eq_getElem?_getD,-w30_4,b4,w1,g3]
  all_goals
   exact Ze4 (E:=[(0,.pointer (some ⟨K.x,0,none⟩)),(6,.pointer (some ⟨bx,0,none⟩)),(7,.int .i64 (j:Int))]) meth ⟨by rfl,by rfl,by rfl,trivial⟩
 simp [-Int.natCast_add,b0]
 refine Zai 75 [75] (fun d E mF=>∃ (i:Nat) (lo:Option Addr) (lf:Nat),l.length - i=d∧i≤l.length∧Sl mF lo (Zki u (l.take i) j V.ws).length (words (Zki u (l.take i) j V.ws)) 45 1 lf∧(lo≠none→mE.next≤lf)∧Zaa mE mF []∧
  E=[(0,.pointer (some ⟨K.x,0,none⟩)),(6,.pointer (some ⟨bx,0,none⟩)),(7,.int .i64 (j:Int)),(8,.slice lo (Zki u (l.take i) j V.ws).length (Zki u (l.take i) j V.ws).length),(40,.slice vo l.length l.length),(41,.int .i64 l.length),(42,.int .i64 (i:Int))]) _ ⟨_,⟨0,none,0,rfl,by omega,Sl.nil _ _ _ _,fun q=>absurd rfl q,.refl _ _,rfl⟩,(by repeat' constructor)⟩ ?_
 rintro d E mF ih ⟨i,lo,lf,hd,hi,sL,hlf,kF,rfl⟩
 have im:(i:Int)≤9223372036854775807:=by omega
 have hF:=h3.keep0 kF
 have oXF:=oX.keep kF (by simp)
 by_cases hlt:i < l.length
 ·have i1:(i:Int) < l.length:=by omega
  have wi:IntKind.i64.wrap ((i:Int)+1)=((i+1:Nat):Int):=by rw [Zab (by omega) (by omega)];omega
  have et:=Zx7 (u:=u) (i:=j) (ws:=V.ws) hlt
  obtain⟨vb,hvb,li⟩:=(hvo3.keep kF (by simp)).get hlt
  rw [hvb] at ih ⊢
  obtain⟨v,ev⟩:∃ v:Nat,l.getD i 0=(v:Int):=⟨(l.getD i 0).toNat,by have:=hv _ (Zas hlt);omega⟩
  have hvn:v < nv u:=by have:=hv _ (Zas hlt);omega
  have hphv:=hph _ (Zas hlt)
  rw [ev] at li et hphv
  rw [Zeg hvn] at et hphv
  obtain⟨xb,ao,fa,hvo',ldx,hra,hqa⟩:=Zh hF.unit hvn
  have o2:=hF.own.load1 (off:=2) rfl
  rw [hvo'] at o2
  have v1:(v:Int) < nv u:=by omega
  have v2:(v:Int)≤9223372036854775807:=by omega
  have nL1:(nv u:Int)≤9223372036854775807:=by omega
  generalize u.2.2.1[v]=y at *
  obtain⟨oY,kY,nY⟩:=Zat (m:=mF) (cs:=[.int .i64 0,.int .i64 0,.int .i64 0,.int .i64 0,.slice none 0 0,.int .i64 0]) (e:=38) rfl
  obtain⟨bv,hbv⟩:∃ bv,mF.next=bv:=⟨_,rfl⟩
  obtain⟨m4,e4,oV,kV⟩:=Zaj (r:=_) rfl oY (off:=0) (vs:=Zkr y ao) (by simp) (by simp [Zam,Zad])
  simp [Zbr] at oV
  have k4:=kY.fresh kV (by simp)
  rw [hbv] at oV nY e4
  have h4:=hF.keep0 k4
  have c0:=oV.load1 (off:=0) rfl
  have c4:=oV.load1 (off:=4) rfl
  have w6:=h4.own.load1 (off:=6) rfl
  have lb0:=Zon u (l.take i) j V.ws
  have lb1:(l.take i).length=i:=by rw [List.length_take];omega
  rw [lb1] at lb0
  obtain⟨p,hp⟩:∃ p,Zki u (l.take i) j V.ws=p:=⟨_,rfl⟩
  rw [hp] at et sL lb0 ⊢
  by_cases c1:y.1=21
  ·rw [if_pos c1] at et
   obtain⟨q1,q2,q3,q4⟩:=hphv c1
   obtain⟨w,ew⟩:∃ w:Nat,(show List Int from y.2.2.2.2.1).getD j 0=(w:Int):=⟨_,(Int.toNat_of_nonneg q3).symm⟩
   rw [ew] at q4 et
   rw [Int.toNat_natCast] at et
   have w1':w < nv u:=by omega
   have w2':(w:Int)≤9223372036854775807:=by omega
   obtain⟨ab,rfl,oA⟩:=(hra.keep k4 (by simp)).rdo (by omega)
   have la:=oA.load1 (off:=j) (Zce q1)
   rw [ew] at la
   have lw:=h4.wds.load1 (off:=w) (Zbs (by rw [h.len];exact w1'))
   have q5:(j:Int) < y.2.2.2.2.1.length:=by omega
   have q6:(y.2.2.2.2.1.length:Int)≤9223372036854775807:=by omega
   simp [-Int.natCast_add,-List.getD_eq_getElem?_getD,Za u42 Zrw rfl,Za0 u42 Zrv,i1,im,hlt,li,o2,v2,hvn,ldx,hbv,e4,c0,c1,c4,w6,jm,q1,la,w1',w2',lw]
   generalize hra:Zan _ _ _ _ _ _=ra
   obtain⟨m5,lb5,lf5,rfl,oL5,k5,hlf5,_⟩:=Zg6 hra u42 Zww (sL.keepz k4 (by simp)) (by omega) (by simp) (by simp [Zam]) (by omega) (by omega)
   simp [-Int.natCast_add,-List.getD_eq_getElem?_getD,w6,c4,la,lw,wi]
   have kn1:=kF.1
   have kn4:=k4.1
   have K5:Zaa mE m5 []:=(kF.trans k4).fresh k5 (by
    intro f hf
    split at hf
    ·simp at hf
    ·rename_i hn
     simp at hf
     rw [hf];exact hlf hn)
   have lf5':mE.next≤lf5:=by
    rcases hlf5 with⟨q,q2⟩ | q
    ·rw [q2];exact hlf q
    ·omega
   have elen:(p++[V.ws.getD w 0]).length=p.length+1:=by simp
   exact ih _ _ _ _ ⟨i+1,some ⟨lb5,0,none⟩,lf5,rfl,by omega,by rw [et];exact Sl.of (by simpa [words] using oL5) (by rw [Ze5];simp),fun _=>lf5',K5,rfl⟩ (by omega) ⟨by rfl,by rfl,by rfl,by rw [et,elen];rfl,by rfl,by rfl,by rfl,trivial⟩
  ·rw [if_neg c1,List.append_nil] at et
   simp [-Int.natCast_add,-List.getD_eq_getElem?_getD,i1,im,hlt,li,o2,v2,hvn,ldx,hbv,e4,c0,c1,wi]
   exact ih _ _ _ _ ⟨i+1,lo,lf,rfl,by omega,by rw [et];exact sL.keepz k4 (by simp),hlf,kF.trans k4,rfl⟩ (by omega) ⟨by rfl,by rfl,by rfl,by rw [et];rfl,by rfl,by rfl,by rfl,trivial⟩
 have i1:¬ (i:Int) < l.length:=by omega
 rw [List.take_of_length_le (by omega)] at sL ⊢
 clear ih
 simp [-Int.natCast_add,i1]
 have pl:=Zon u l j V.ws
 have pw:=Z4o (u:=u) (l:=l) (i:=j) h.wd
 obtain⟨P,hP⟩:∃ P,Zki u l j V.ws=P:=⟨_,rfl⟩
 rw [hP] at pl pw sL ⊢
 have ff:K.f < mF.next∧K.wf < mF.next∧K.f < mE.next∧K.wf < mE.next:=⟨hF.own.flt,hF.wds.flt,h3.own.flt,h3.wds.flt⟩
 have fb:=nb3
 have fbm:m.next≤bx:=by omega
 have ffm:K.f < m.next∧K.wf < m.next:=⟨h.own.flt,h.wds.flt⟩
 have KF:Zaa m mF [K.f,K.wf]:=(k3.trans kF).mono (by simp)
 refine Zai 75 [75] (fun d E mG=>∃ (k:Nat),P.length - k=d∧k≤P.length∧Ev Q mG u K { V with ws:=Zna l P k V.ws,steps:=V.steps+k }∧Zaa mF mG [K.f,K.wf]∧
  E=[(0,.pointer (some ⟨K.x,0,none⟩)),(6,.pointer (some ⟨bx,0,none⟩)),(72,.slice lo P.length P.length),(73,.int .i64 P.length),(74,.int .i64 (k:Int))]) _ ⟨_,⟨0,rfl,by omega,by simpa [Zna] using hF,.refl _ _,rfl⟩,(by repeat' constructor)⟩ ?_
 rintro d E mG ih ⟨k,hd,hk,hG,kG,rfl⟩
 have km:(k:Int)≤9223372036854775807:=by omega
 by_cases hlt:k < P.length
 ·have k1:(k:Int) < P.length:=by omega
  have wk:IntKind.i64.wrap ((k:Int)+1)=((k+1:Nat):Int):=by rw [Zab (by omega) (by omega)];omega
  obtain⟨lb,rfl,oL⟩:=(sL.keepz kG (fun q=>by have:=hlf q;simp;omega)).own (by omega)
  have lk:=oL.load1 (off:=k) (Zbs hlt)
  have oXG:=oXF.keep kG (by simp;omega)
  have b0G:=oXG.load1 (off:=0) rfl
  have kl:k < l.length:=by omega
  have kl':(k:Int) < l.length:=by omega
  obtain⟨vb,hvb,lv⟩:=((hvo3.keep kF (by simp)).keep kG hnq).get kl
  rw [hvb] at b0G
  obtain⟨v,ev⟩:∃ v:Nat,l.getD k 0=(v:Int):=⟨(l.getD k 0).toNat,by have:=hv _ (Zas kl);omega⟩
  have hvn:v < nv u:=by have:=hv _ (Zas kl);omega
  rw [ev] at lv
  have v1:(v:Int) < nv u:=by omega
  have v2:(v:Int)≤9223372036854775807:=by omega
  have w6:=hG.own.load1 (off:=6) rfl
  obtain⟨m5,e5,v5,k5⟩:=hG.setw (i:=v) hvn (pw.at_ k)
  dsimp only at v5
  have w8:=v5.own.load1 (off:=8) rfl
  obtain⟨m6,e6,v6,k6⟩:=Zjd v5 (V.steps+k+1)
  have ws1:IntKind.i64.wrap (V.steps+(k:Int)+1)=V.steps+k+1:=Zab (by omega) (by omega)
  simp [-Int.natCast_add,-List.getD_eq_getElem?_getD,k1,km,hlt,lk,b0G,kl,lv,v2,hvn,w6,e5,w8,ws1,e6,wk]
  have kk:Zaa mF m6 [K.f,K.wf]:=(kG.trans (k5.mono (by simp))).trans (k6.mono (by simp))
  have es:Zna l P (k+1) V.ws=(Zna l P k V.ws).set v (P.getD k 0):=by
   show (Zna l P k V.ws).set (l.getD k 0).toNat (P.getD k 0)=_
   rw [ev,Int.toNat_natCast]
  have et:V.steps+((k+1:Nat):Int)=V.steps+k+1:=by omega
  exact ih _ _ _ _ ⟨k+1,rfl,by omega,by rw [es,et];exact v6,kk,rfl⟩ (by omega) (by repeat' constructor)
 have k1:¬ (k:Int) < P.length:=by omega
 have ek:k=P.length:=by omega
 simp [-Int.natCast_add,k1]
 rw [ek] at hG
 exact⟨hG,KF.trans kG⟩
end Go.Proofs.YtlogdohlcdhepaaDoor.base
end
section
set_option maxRecDepth 100000
namespace Go.Proofs.YtlogdohlcdhepaaDoor.base
open Go.Sh gen
variable {S:Zb2}{m:Mem}
def Zlj (ws l:List Int):List Int:=l.map fun i=>ws.getD i.toNat 0
theorem Zmd {ws l:List Int}{j:Nat}(h:j < l.length):Zlj ws (l.take (j+1))=Zlj ws (l.take j)++[ws.getD (l.getD j 0).toNat 0]:=by
 unfold Zlj
 rw [List.take_succ_eq_append_getElem h,List.map_append,List.getD_eq_getElem?_getD (l:=l),List.getElem?_eq_getElem h]
 rfl
theorem Zh1 (ws l:List Int):(Zlj ws l).length=l.length:=by simp [Zlj]
theorem Zqs {Q:Nat→Prop}{ao:Option Addr}{l:List Int}{f:Nat}(h:Rs m ao l.length (words l) 45 1 f)(hq:l.length≠0→Q f):AtQ Q m (Ty.slice 45 (Ty.int .u64)) l [.slice ao l.length l.length]:=by
 refine⟨ao,l.map fun n=>[Value.int .u64 n],f,rfl,by simp,?_,?_,hq⟩
 ·intro i d c h1 h2
  rw [List.getElem?_map,h1] at h2
  simp only [Option.map_some,Option.some.injEq] at h2
  exact h2.symm
 ·have:(l.map fun n=>[Value.int .u64 n]).flatten=words l:=by
   unfold words
   rw [← List.flatMap_def]
   exact List.map_eq_flatMap.symm
  rw [this];exact h
set_option maxHeartbeats 8000000 in
theorem Zyo (hS:S 57=[]){Q:Nat→Prop}{u:UnT.D}{K:Kv}{V:Vv}(h:Ev Q m u K V)(hnu:nv u≤1000000){l:List Int}(hl:l.length≤1000000)(hv:∀ v∈l,(0:Int)≤v∧v < (nv u:Int))
  {ao:Option Addr} (hi:Za2 Q m ao l) {xb xf:Nat} (hx:Own m xb [.pointer (some ⟨K.x,0,none⟩)] 76 xf) :
  ∃ v m1,Zag Tryd.prog TT S 57 [.slice ao l.length l.length,.pointer (some ⟨xb,0,none⟩)] m=some (v,m1)∧
   (∃ ro f,v=.slice ro l.length l.length∧Rs m1 ro l.length (words (Zlj V.ws l)) 45 1 f∧(l.length≠0→m.next≤f∧f < m1.next))∧Zaa m m1 []:=by
 refine Zfi 10 [10] k57 hS rfl ?_
 simp [-Int.natCast_add]
 refine Zai 10 [10] (fun d E mF=>∃ (i:Nat) (lo:Option Addr) (lf:Nat),l.length - i=d∧i≤l.length∧Sl mF lo i (words (Zlj V.ws (l.take i))) 45 1 lf∧(lo≠none→m.next≤lf∧lf < mF.next)∧Zaa m mF []∧
  E=[(1,.pointer (some ⟨xb,0,none⟩)),(4,.slice lo i i),(7,.slice ao l.length l.length),(8,.int .i64 l.length),(9,.int .i64 (i:Int))]) _ ⟨_,⟨0,none,0,rfl,by omega,Sl.nil _ _ _ _,fun q=>absurd rfl q,.refl _ _,rfl⟩,(by repeat' constructor)⟩ ?_
 rintro d E mF ih ⟨i,lo,lf,hd,hi',sL,hlf,kF,rfl⟩
 have im:(i:Int)≤9223372036854775807:=by omega
 have hF:=h.keep0 kF
 by_cases hlt:i < l.length
 ·have i1:(i:Int) < l.length:=by omega
  have wi:IntKind.i64.wrap ((i:Int)+1)=((i+1:Nat):Int):=by rw [Zab (by omega) (by omega)];omega
  have et:=Zmd (ws:=V.ws) hlt
  obtain⟨vb,rfl,li⟩:=(hi.keep kF (by simp)).get hlt
  obtain⟨v,ev⟩:∃ v:Nat,l.getD i 0=(v:Int):=⟨(l.getD i 0).toNat,by have:=hv _ (Zas hlt);omega⟩
  have hvn:v < nv u:=by have:=hv _ (Zas hlt);omega
  rw [ev] at li et
  rw [Int.toNat_natCast] at et
  have v1:(v:Int) < nv u:=by omega
  have v2:(v:Int)≤9223372036854775807:=by omega
  have x0:=(hx.keep kF (by simp)).load1 (off:=0) rfl
  have w6:=hF.own.load1 (off:=6) rfl
  have lw:=hF.wds.load1 (off:=v) (Zbs (by rw [h.len];exact hvn))
  simp [-Int.natCast_add,-List.getD_eq_getElem?_getD,Za u42 Zrw rfl,Za0 u42 Zrv,i1,im,hlt,li,x0,w6,v2,hvn,lw]
  generalize hra:Zan _ _ _ _ _ _=ra
  obtain⟨m5,lb5,lf5,rfl,oL5,k5,hlf5,hl5,_⟩:=Zg6 hra u42 Zww sL (by omega) (by simp) (by simp [Zam]) (by omega) (by omega)
  simp [-Int.natCast_add,-List.getD_eq_getElem?_getD,wi]
  have kn1:=kF.1
  have K5:Zaa m m5 []:=kF.fresh k5 (by
   intro f hf
   split at hf
   ·simp at hf
   ·rename_i hn
    simp at hf
    rw [hf];exact (hlf hn).1)
  have lf5':m.next≤lf5:=by
   rcases hlf5 with⟨q,q2⟩ | q
   ·rw [q2];exact (hlf q).1
   ·omega
  exact ih _ _ _ _ ⟨i+1,some ⟨lb5,0,none⟩,lf5,rfl,by omega,by rw [et];exact Sl.of (by simpa [words] using oL5) (by simp [words,Zlj];omega),fun _=>⟨lf5',hl5⟩,K5,rfl⟩ (by omega) (by repeat' constructor)
 have i1:¬ (i:Int) < l.length:=by omega
 have ei:i=l.length:=by omega
 subst ei
 rw [List.take_length] at sL
 clear ih
 simp [-Int.natCast_add,i1]
 exact⟨⟨lf,sL.rs,fun q=>hlf (by
  obtain⟨b,hb,_⟩:=sL.own (fun e=>q (List.length_eq_zero_iff.1 e))
  rw [hb];simp)⟩,kF⟩
end Go.Proofs.YtlogdohlcdhepaaDoor.base
end
