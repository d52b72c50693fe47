/- This text proves what the program's heap and the document's do Zbr the abstract run (what chapter 16 asks of them). Condition: nothing is known of their calls ahead ('S f = []'). -/
import Derived.Test.YtlogdohlcdhepaaDoorGen
set_option linter.unusedVariables false
set_option linter.unusedSimpArgs false
section
set_option maxRecDepth 100000
namespace Go.Proofs.YtlogdohlcdhepaaDoor.base
open Go.Sh gen
variable {S:Zb2}{m:Mem}
def words (ws:List Int):List Value:=ws.map (Value.int .u64)
structure Zdn (m:Mem)(hb hf wb wf:Nat)(ws:List Int)(room:Int):Prop where
 h:Own m hb [.slice (some ⟨wb,0,none⟩) ws.length ws.length,.int .i64 room] 75 hf
 w:Own m wb (words ws) 45 wf
 ne:hf≠wf
theorem Zdn.keep {m m1:Mem}{hb hf wb wf:Nat}{ws:List Int}{room:Int}{fs:List Nat}(h:Zdn m hb hf wb wf ws room)(k:Zaa m m1 fs)(h1:hf∉fs)(h2:wf∉fs):Zdn m1 hb hf wb wf ws room:=⟨h.h.keep k h1,h.w.keep k h2,h.ne⟩
theorem Zbs {ws:List Int}{i:Nat}(h:i < ws.length):(words ws)[i]?=some (.int .u64 (ws.getD i 0)):=by
 simp [words,List.getD_eq_getElem?_getD,List.getElem?_eq_getElem h]
theorem Zo7 (hS:S 55=[]){hb hf wb wf:Nat}{ws:List Int}{room at_:Int}(h:Zdn m hb hf wb wf ws room)(h0:0≤at_)(hw:ws.length≤1000000) :
  Zag Tryd.prog TT S 55 [.pointer (some ⟨hb,0,none⟩),.int .u64 at_] m=some (.int .u64 (ws.getD at_.toNat 0),m):=by
 have l0:=h.h.load1 (off:=0) rfl
 have hwu:IntKind.u64.wrap ws.length=ws.length:=Zbh (by omega) (by omega)
 refine Zb3 5 [12] k55 hS rfl ?_
 simp [-BitVec.toNat_or,-BitVec.toNat_ofInt,-BitVec.toNat_and,l0,hwu]
 refine Zzc (fun hge=>?_) (fun hge=>?_)
 ·have hd:ws[at_.toNat]?=none:=List.getElem?_eq_none (by omega)
  simp [-BitVec.toNat_or,-BitVec.toNat_ofInt,-BitVec.toNat_and,hd]
 ·have hlt:at_.toNat < ws.length:=by omega
  have l1:=h.w.load1 (off:=at_.toNat) (Zbs hlt)
  have hmax:at_≤9223372036854775807:=by omega
  simp only [List.getD_eq_getElem?_getD] at l1
  simp [-BitVec.toNat_or,-BitVec.toNat_ofInt,-BitVec.toNat_and,l0,l1,h0,hmax,hlt]
def Zik (ws:List Int)(room t n:Int):Prop:=t < 0∨1048576 < t∨n < 0∨1048576 < n∨room - ws.length≤n
def Zb9 (t n:Int):Int:=IntKind.u64.wrap (BitVec.ofInt IntKind.u64.bits (IntKind.u64.wrap (IntKind.u64.wrap t * 2 ^ (min 32 IntKind.u64.bits))) ||| BitVec.ofInt IntKind.u64.bits (IntKind.u64.wrap n)).toNat
theorem Zw8 (hS:S 37=[]){hb hf wb wf:Nat}{ws:List Int}{room t:Int}{n:Nat}(h:Zdn m hb hf wb wf ws room)
  (hr:0 < room∧room≤65536) (hw:ws.length≤65536) (hno:¬ Zik ws room t n) :
  ∃ v m1,Zag Tryd.prog TT S 37 [.pointer (some ⟨hb,0,none⟩),.int .i64 t,.int .i64 n] m=some (v,m1)∧v=.tuple #[.int .u64 ws.length,.bool true]∧
   (∃ wb',Zdn m1 hb hf wb' wf (ws++[Zb9 t n]++List.replicate n 0) room)∧Zaa m m1 [hf,wf]:=by
 have l0:=h.h.load1 (off:=0) rfl
 have l1:=h.h.load1 (off:=1) rfl
 have hwr:IntKind.i64.wrap (room - ws.length)=room - ws.length:=Zab (by omega) (by omega)
 have hwu:IntKind.u64.wrap ws.length=ws.length:=Zbh (by omega) (by omega)
 unfold Zik at hno
 have a1:¬ t < 0:=by omega
 have a2:¬ 1048576 < t:=by omega
 have a3:¬ (n:Int) < 0:=by omega
 have a4:¬ 1048576 < (n:Int):=by omega
 have a5:¬ room - ws.length≤n:=by omega
 refine Zfi 9 [36] k37 hS rfl ?_
 simp [-BitVec.toNat_or,-BitVec.toNat_ofInt,-BitVec.toNat_and,Za u42 Zrw rfl,Za0 u42 Zrv,l0,l1,a1,a2,a3,a4,a5,hwr,hwu]
 generalize hr1:Zan _ _ _ _ _ _=r1
 obtain⟨m1,b1,rfl,o1,k1⟩:=Zgz hr1 u42 Zww h.w (by simp [words]) (by simp) (by simp [Zam]) (by omega) (by omega)
 have h1:=h.h.keep k1 (by simpa using h.ne)
 simp [-BitVec.toNat_or,-BitVec.toNat_ofInt,-BitVec.toNat_and]
 generalize hr2:Zaf _ _ _=r2
 obtain⟨m2,rfl,h2,k2⟩:=Zaj hr2 h1 (by simp) (by simp [Zad])
 have o2:=o1.keep k2 (by simpa using h.ne.symm)
 simp [Zbr] at h2
 have l2:=h2.load1 (off:=0) rfl
 have hz:Zco Tryd.prog 45 n=some (List.replicate n (.int .u64 0)):=Zym (by kernel_rfl:zOk Tryd.prog 45 8 (.int .u64 0)=true) rfl rfl (by omega)
 have hc2:(n:Int)≤9223372036854775807:=by omega
 simp [-BitVec.toNat_or,-BitVec.toNat_ofInt,-BitVec.toNat_and,Z0x u3 u42,l2,hz,hc2]
 generalize hr3:Zan _ _ _ _ _ _=r3
 obtain⟨m3,b3,rfl,o3,k3⟩:=Zf9 hr3 u42 Zww o2 (by simp [words]) (by simp) (by simp [Zam]) (by omega) (by omega)
 have h3:=h2.keep k3 (by simpa using h.ne)
 simp [-BitVec.toNat_or,-BitVec.toNat_ofInt,-BitVec.toNat_and]
 generalize hr4:Zaf _ _ _=r4
 obtain⟨m4,rfl,h4,k4⟩:=Zaj hr4 h3 (by simp) (by simp [Zad])
 have o4:=o3.keep k4 (by simpa using h.ne.symm)
 simp [Zbr] at h4
 simp [-BitVec.toNat_or,-BitVec.toNat_ofInt,-BitVec.toNat_and]
 refine⟨⟨b3,by simpa [show (ws.length+(n+1))=ws.length+1+n by omega] using h4,?_,h.ne⟩,?_⟩
 ·simpa [words,Zb9] using o4
 ·exact ((k1.mono (by simp)).trans (k2.mono (by simp))).trans ((k3.mono (by simp)).trans (k4.mono (by simp)))
theorem Z39 (hS:S 9=[])(room:Int)(h1:1≤room)(h2:room≤65536):∃ v m1,Zag Tryd.prog TT S 9 [.int .i64 room] m=some (v,m1)∧∃ hb wb,v=.tuple #[.pointer (some ⟨hb,0,none⟩),.int .i64 0]∧
  Zdn m1 hb hb wb wb [0] room∧m.next≤hb∧m.next≤wb∧Zaa m m1 []:=by
 have a1:¬ room < 1:=by omega
 have a2:¬ 65536 < room:=by omega
 refine Zfi 4 [9] k9 hS rfl ?_
 simp [-BitVec.toNat_or,-BitVec.toNat_ofInt,-BitVec.toNat_and,Za u42 Zrw rfl,Zau Yc4,Zcu b75,a1,a2]
 refine⟨m.next,⟨Own.new (m.new [.int .u64 0] 45) _ 75,(Own.new m _ 45).new_other _ _,by simp [Mem.new]⟩,by simp [Mem.new],Nat.le_refl _,(Zb0 _ _ _ _).trans (Zb0 _ _ _ _)⟩
theorem Zw3 (x k:Int)(hk:0 < k):x % k=if x.tmod k < 0 then x.tmod k+k else x.tmod k:=by
 have hx:=Int.emod_nonneg x (by omega:k≠0)
 have hx2:=Int.emod_lt_of_pos x hk
 split
 ·rename_i h
  have:(x.tmod k+k) % k=x % k:=by
   rw [Int.add_emod_right]
   have h3:=Int.tmod_add_mul_tdiv x k
   have:x.tmod k=x - k * x.tdiv k:=by omega
   rw [this,Int.sub_mul_emod_self_left]
  rw [← this]
  have:=Int.lt_tmod_of_pos x hk
  exact Int.emod_eq_of_lt (by omega) (by omega)
 ·rename_i h
  have:(x.tmod k) % k=x % k:=by
   have h3:=Int.tmod_add_mul_tdiv x k
   have:x.tmod k=x - k * x.tdiv k:=by omega
   rw [this,Int.sub_mul_emod_self_left]
  rw [← this]
  have:=Int.tmod_lt_of_pos x hk
  exact Int.emod_eq_of_lt (by omega) (by omega)
theorem Z86 (hS:S 38=[]){hb hf wb wf:Nat}{ws:List Int}{room at_ v:Int}(h:Zdn m hb hf wb wf ws room)(hno:at_=0∨(ws.length:Int)≤at_)(hw:ws.length≤1000000) :
  Zag Tryd.prog TT S 38 [.pointer (some ⟨hb,0,none⟩),.int .u64 at_,.int .u64 v] m=some (.bool false,m):=by
 have l0:=h.h.load1 (off:=0) rfl
 have hwu:IntKind.u64.wrap ws.length=ws.length:=Zbh (by omega) (by omega)
 refine Zb3 7 [18] k38 hS rfl ?_
 by_cases h0:at_=0
 ·subst h0
  simp [-BitVec.toNat_or,-BitVec.toNat_ofInt,-BitVec.toNat_and]
 ·have hge:(ws.length:Int)≤at_:=by omega
  simp [-BitVec.toNat_or,-BitVec.toNat_ofInt,-BitVec.toNat_and,l0,hwu,h0,hge]
theorem Zk {ws:List Int}{i:Nat}(v:Int)(hlt:i < ws.length):Zbr (words ws) i [.int .u64 v]=words (ws.set i v):=by
 unfold Zbr words
 rw [List.map_set,List.set_eq_take_append_cons_drop,if_pos (by simpa using hlt)]
 simp
theorem Zzm (hS:S 38=[]){hb hf wb wf:Nat}{ws:List Int}{room v:Int}{i:Nat}(h:Zdn m hb hf wb wf ws room)(h0:i≠0)(hlt:i < ws.length)(hw:ws.length≤1000000) :
  ∃ r m1,Zag Tryd.prog TT S 38 [.pointer (some ⟨hb,0,none⟩),.int .u64 i,.int .u64 v] m=some (r,m1)∧r=.bool true∧Zdn m1 hb hf wb wf (ws.set i v) room∧Zaa m m1 [wf]:=by
 have l0:=h.h.load1 (off:=0) rfl
 have hwu:IntKind.u64.wrap ws.length=ws.length:=Zbh (by omega) (by omega)
 have hge:¬ ((ws.length:Int)≤i):=by omega
 have hmax:(i:Int)≤9223372036854775807:=by omega
 refine Zfi 7 [18] k38 hS rfl ?_
 simp [-BitVec.toNat_or,-BitVec.toNat_ofInt,-BitVec.toNat_and,l0,hwu,h0,hge,hmax,hlt]
 generalize hr:Zaf _ _ _=r
 obtain⟨m1,rfl,o1,k1⟩:=Zaj hr h.w (by simp [words];omega) (by simp [Zam])
 simp [-BitVec.toNat_or,-BitVec.toNat_ofInt,-BitVec.toNat_and]
 rw [Zk v hlt] at o1
 exact⟨⟨by simpa using h.h.keep k1 (by simpa using h.ne),o1,h.ne⟩,k1⟩
theorem Zp3 (hS:S 20=[]){hb hf wb wf:Nat}{ws:List Int}{room:Int}(h:Zdn m hb hf wb wf ws room)(hne:ws≠[])(hw:ws.length≤1000000) :
  ∃ v m1,Zag Tryd.prog TT S 20 [.pointer (some ⟨hb,0,none⟩)] m=some (v,m1)∧∃ nb nf,v=.slice (some ⟨nb,0,none⟩) ws.length ws.length∧Own m1 nb (words ws) 45 nf∧m.next≤nf∧Zaa m m1 []:=by
 have hl:0 < ws.length:=by cases ws with | nil=>exact absurd rfl hne | cons _ _=>simp
 obtain⟨o0,k0,n0⟩:=Zat (m:=m) (cs:=[]) (e:=45) rfl
 have l0:=(h.h.keep k0 (by simp)).load1 (off:=0) rfl
 have lw:loadRow (m.new [] 45) ⟨wb,0,none⟩ (ws.length * 1)=some (words ws):=by
  rw [(h.w.keep k0 (by simp)).load (off:=0) (ws.length * 1) (by simp [words])]
  simp [Zao,words]
  exact List.take_of_length_le (by simp)
 simp only [Nat.mul_one] at lw
 refine Zfi 3 [] k20 hS rfl ?_
 have hn0:ws.length≠0:=by omega
 simp [-BitVec.toNat_or,-BitVec.toNat_ofInt,-BitVec.toNat_and,Za u42 Zrw rfl,Za0 u42 Zrv,l0,lw,hn0]
 generalize hr:Zan _ _ _ _ _ _=r
 obtain⟨m1,b1,rfl,o1,k1⟩:=Zf9 hr u42 Zww o0 (by simp) (by simp [words]) (by simp [words,Zam]) (by omega) (by omega)
 simp [-BitVec.toNat_or,-BitVec.toNat_ofInt,-BitVec.toNat_and]
 exact⟨m.next,by simpa using o1,Nat.le_refl _,k0.mono2 k1 (Nat.le_refl _)⟩
def Wd (ws:List Int):Prop:=∀ w∈ws,0≤w∧w≤18446744073709551615
theorem Wd.at_ {ws:List Int}(h:Wd ws)(i:Nat):0≤ws.getD i 0∧ws.getD i 0≤18446744073709551615:=by
 rw [List.getD_eq_getElem?_getD]
 cases hi:ws[i]? with
 | none=>simp
 | some w=>exact h w (List.mem_of_getElem? hi)
theorem Z0s {w:Int}(h0:0≤w)(h1:w≤18446744073709551615):(IntKind.u64.wrap ((BitVec.ofInt IntKind.u64.bits w &&& BitVec.ofInt IntKind.u64.bits 4294967295).toNat:Int))=w % 4294967296:=by
 obtain⟨n,rfl⟩:∃ n:Nat,w=n:=⟨w.toNat,by omega⟩
 have e1:(BitVec.ofInt 64 (n:Int)).toNat=n:=by
  rw [BitVec.toNat_ofInt]
  have:((n:Int) % ((2 ^ 64:Nat):Int))=n:=Int.emod_eq_of_lt (by omega) (by omega)
  rw [this];rfl
 have e2:(BitVec.ofInt 64 4294967295).toNat=2 ^ 32 - 1:=by decide
 have e3:(BitVec.ofInt IntKind.u64.bits (n:Int) &&& BitVec.ofInt IntKind.u64.bits 4294967295).toNat=n % 2 ^ 32:=by
  show (BitVec.ofInt 64 (n:Int) &&& BitVec.ofInt 64 4294967295).toNat=n % 2 ^ 32
  rw [BitVec.toNat_and,e1,e2,Nat.and_two_pow_sub_one_eq_mod]
 rw [e3]
 have:((n % 2 ^ 32:Nat):Int)=(n:Int) % 4294967296:=by omega
 rw [this]
 exact Zbh (by omega) (by omega)
theorem Zzd {w:Int}(h0:0≤w):w.fdiv 4294967296=w / 4294967296:=by
 rw [Int.fdiv_eq_ediv]
 simp
theorem Ztq (hS37:S 77=[])(hS22:S 55=[]){hb hf wb wf:Nat}{ws:List Int}{room r:Int}(h:Zdn m hb hf wb wf ws room)(h0:0≤r)(hw:ws.length≤1000000) :
  Zag Tryd.prog TT S 77 [.pointer (some ⟨hb,0,none⟩),.int .u64 r] m=some (.int .u64 (ws.getD r.toNat 0),m):=by
 have hc:=Zo7 hS22 h h0 hw
 refine Zb3 5 [] k77 hS37 rfl ?_
 simp [-BitVec.toNat_or,-BitVec.toNat_ofInt,-BitVec.toNat_and,hc]
theorem Z0u (hS19:S 59=[])(hS37:S 77=[])(hS22:S 55=[]){hb hf wb wf:Nat}{ws:List Int}{room r:Int}(h:Zdn m hb hf wb wf ws room)(h0:0≤r)(hw:ws.length≤1000000)(hd:Wd ws) :
  Zag Tryd.prog TT S 59 [.pointer (some ⟨hb,0,none⟩),.int .u64 r] m=some (.int .i64 (ws.getD r.toNat 0 / 4294967296),m):=by
 have hc:=Ztq hS37 hS22 h h0 hw
 obtain⟨q0,q1⟩:=hd.at_ r.toNat
 generalize ws.getD r.toNat 0=w at hc q0 q1
 have e1:=Zzd q0
 have e2:IntKind.i64.wrap (w / 4294967296)=w / 4294967296:=Zab (by omega) (by omega)
 have e3:(2:Int) ^ min 32 IntKind.u64.bits=4294967296:=by decide
 refine Zb3 5 [] k59 hS19 rfl ?_
 simp [-BitVec.toNat_or,-BitVec.toNat_ofInt,-BitVec.toNat_and,hc,e1,e2,e3]
theorem Z3w (hS20:S 60=[])(hS37:S 77=[])(hS22:S 55=[]){hb hf wb wf:Nat}{ws:List Int}{room r:Int}(h:Zdn m hb hf wb wf ws room)(h0:0≤r)(hw:ws.length≤1000000)(hd:Wd ws) :
  Zag Tryd.prog TT S 60 [.pointer (some ⟨hb,0,none⟩),.int .u64 r] m=some (.int .i64 (ws.getD r.toNat 0 % 4294967296),m):=by
 have hc:=Ztq hS37 hS22 h h0 hw
 obtain⟨q0,q1⟩:=hd.at_ r.toNat
 generalize ws.getD r.toNat 0=w at hc q0 q1
 have e1:=Z0s q0 q1
 have e2:IntKind.i64.wrap (w % 4294967296)=w % 4294967296:=Zab (by omega) (by omega)
 have e1':(IntKind.u64.wrap ((BitVec.ofInt IntKind.u64.bits w &&& 4294967295#IntKind.u64.bits).toNat:Int))=w % 4294967296:=e1
 refine Zb3 5 [] k60 hS20 rfl ?_
 simp [-BitVec.toNat_or,-BitVec.toNat_ofInt,-BitVec.toNat_and,hc,e1',e2]
def atV (ws:List Int)(r i:Int):Int:=if 0≤i∧i < ws.getD r.toNat 0 % 4294967296 then IntKind.u64.wrap (IntKind.u64.wrap (r+1)+IntKind.u64.wrap i) else 0
theorem Zml (x:Int):0≤IntKind.u64.wrap x:=by
 have e1:(2:Int) ^ IntKind.u64.bits=18446744073709551616:=by decide
 have e3:IntKind.u64.signed=false:=rfl
 simp only [IntKind.wrap,e1,e3,Bool.false_and]
 simp
 omega
theorem Zwt (ws:List Int)(r i:Int):0≤atV ws r i:=by
 unfold atV
 split
 ·exact Zml _
 ·omega
theorem Zi8 {t n:Int}(ht:0≤t∧t≤1048576)(hn:0≤n∧n≤1048576):Zb9 t n=t * 4294967296+n:=by
 obtain⟨a,rfl⟩:∃ a:Nat,t=a:=⟨t.toNat,by omega⟩
 obtain⟨b,rfl⟩:∃ b:Nat,n=b:=⟨n.toNat,by omega⟩
 have e3:(2:Int) ^ min 32 IntKind.u64.bits=4294967296:=by decide
 have e0:IntKind.u64.wrap (a:Int)=a:=Zbh (by omega) (by omega)
 have e0':IntKind.u64.wrap (b:Int)=b:=Zbh (by omega) (by omega)
 have e4:IntKind.u64.wrap ((a:Int) * 4294967296)=((a * 2 ^ 32:Nat):Int):=by rw [Zbh (by omega) (by omega)];omega
 have toN:∀ x:Nat,x≤18446744073709551615→(BitVec.ofInt IntKind.u64.bits (x:Int)).toNat=x:=by
  intro x hx
  show (BitVec.ofInt 64 (x:Int)).toNat=x
  rw [BitVec.toNat_ofInt]
  have:((x:Int) % ((2 ^ 64:Nat):Int))=x:=Int.emod_eq_of_lt (by omega) (by omega)
  rw [this];rfl
 unfold Zb9
 rw [e3,e0,e0',e4,BitVec.toNat_or,toN _ (by omega),toN _ (by omega)]
 have:a * 2 ^ 32 ||| b=a * 2 ^ 32+b:=by
  rw [Nat.mul_comm]
  exact (Nat.two_pow_add_eq_or_of_lt (by omega) a).symm
 rw [this,Zbh (by omega) (by omega)]
 omega
theorem Zt4 (A:List Int)(x:Int)(B:List Int):(A++x::B).getD A.length 0=x:=by
 rw [List.getD_eq_getElem?_getD,List.getElem?_append_right (Nat.le_refl _),Nat.sub_self]
 rfl
theorem Z0j (A:List Int)(x:Int)(B:List Int)(j:Nat):(A++x::B).getD (A.length+1+j) 0=B.getD j 0:=by
 rw [List.getD_eq_getElem?_getD,List.getElem?_append_right (by omega),show A.length+1+j - A.length=j+1 by omega,List.getElem?_cons_succ,List.getD_eq_getElem?_getD]
theorem Zxt (A:List Int)(x:Int)(B:List Int)(j:Nat)(v:Int):(A++x::B).set (A.length+1+j) v=A++x::B.set j v:=by
 rw [List.set_append_right _ _ (by omega),show A.length+1+j - A.length=j+1 by omega,List.set_cons_succ]
theorem Z34 {A B:List Int}{t:Int}{n j:Nat}(ht:0≤t∧t≤1048576)(hn:n≤1048576)(hj:j < n)(hA:A.length≤1000000):atV (A++Zb9 t n::B) A.length j=((A.length+1+j:Nat):Int):=by
 unfold atV
 rw [Int.toNat_natCast,Zt4,Zi8 ht ⟨by omega,by omega⟩]
 have e:(t * 4294967296+(n:Int)) % 4294967296=n:=by
  rw [Int.add_comm,Int.add_mul_emod_self_right]
  exact Int.emod_eq_of_lt (by omega) (by omega)
 rw [e,if_pos ⟨by omega,by omega⟩,Zbh (x:=(A.length:Int)+1) (by omega) (by omega),Zbh (x:=(j:Int)) (by omega) (by omega),Zbh (by omega) (by omega)]
 omega
theorem Zzi {t n:Int}(ht:0≤t∧t≤1048576)(hn:0≤n∧n≤1048576):0≤Zb9 t n∧Zb9 t n≤18446744073709551615:=by
 rw [Zi8 ht hn];omega
theorem Zxo {A B:List Int}:Wd (A++B)↔Wd A∧Wd B:=by
 unfold Wd
 constructor
 ·intro h;exact⟨fun w hw=>h w (by simp [hw]),fun w hw=>h w (by simp [hw])⟩
 ·rintro⟨h1,h2⟩ w hw
  rcases List.mem_append.1 hw with h | h
  ·exact h1 w h
  ·exact h2 w h
theorem Zr2 {x:Int}{B:List Int}:Wd (x::B)↔(0≤x∧x≤18446744073709551615)∧Wd B:=by
 unfold Wd;simp
theorem Z7s (n:Nat):Wd (List.replicate n 0):=by
 intro w hw
 have:=List.eq_of_mem_replicate hw
 omega
structure Zd8 (m:Mem)(hb hf wb wf:Nat)(ws:List Int)(room:Int):Prop where
 h:Own m hb [.int .i64 room,.slice (some ⟨wb,0,none⟩) ws.length ws.length] 59 hf
 w:Own m wb (words ws) 45 wf
 ne:hf≠wf
theorem Zd8.keep {m m1:Mem}{hb hf wb wf:Nat}{ws:List Int}{room:Int}{fs:List Nat}(h:Zd8 m hb hf wb wf ws room)(k:Zaa m m1 fs)(h1:hf∉fs)(h2:wf∉fs):Zd8 m1 hb hf wb wf ws room:=⟨h.h.keep k h1,h.w.keep k h2,h.ne⟩
theorem Z1u (hS:S 21=[])(room:Int):∃ v m1,Zag Tryd.prog TT S 21 [.int .i64 room] m=some (v,m1)∧∃ hb wb,v=.pointer (some ⟨hb,0,none⟩)∧
  Zd8 m1 hb hb wb wb [0] room∧m.next≤hb∧m.next≤wb∧Zaa m m1 []:=by
 refine Zfi 3 [] k21 hS rfl ?_
 simp [-BitVec.toNat_or,-BitVec.toNat_ofInt,-BitVec.toNat_and,Za u42 Zrw rfl,Zau Ycu,Zcu b59]
 exact⟨m.next,⟨Own.new (m.new [.int .u64 0] 45) _ 59,(Own.new m _ 45).new_other _ _,by simp [Mem.new]⟩,by simp [Mem.new],Nat.le_refl _,(Zb0 _ _ _ _).trans (Zb0 _ _ _ _)⟩
theorem Zi7 (hS:S 41=[]){hb hf wb wf:Nat}{ws:List Int}{room at_:Int}(h:Zd8 m hb hf wb wf ws room)(h0:0≤at_)(hw:ws.length≤1000000) :
  Zag Tryd.prog TT S 41 [.pointer (some ⟨hb,0,none⟩),.int .u64 at_] m=some (.int .u64 (ws.getD at_.toNat 0),m):=by
 have l0:=h.h.load1 (off:=1) rfl
 have hwu:IntKind.u64.wrap ws.length=ws.length:=Zbh (by omega) (by omega)
 refine Zb3 5 [12] k41 hS rfl ?_
 simp [-BitVec.toNat_or,-BitVec.toNat_ofInt,-BitVec.toNat_and,l0,hwu]
 refine Zzc (fun hge=>?_) (fun hge=>?_)
 ·have hd:ws[at_.toNat]?=none:=List.getElem?_eq_none (by omega)
  simp [-BitVec.toNat_or,-BitVec.toNat_ofInt,-BitVec.toNat_and,hd]
 ·have hlt:at_.toNat < ws.length:=by omega
  have l1:=h.w.load1 (off:=at_.toNat) (Zbs hlt)
  have hmax:at_≤9223372036854775807:=by omega
  simp only [List.getD_eq_getElem?_getD] at l1
  simp [-BitVec.toNat_or,-BitVec.toNat_ofInt,-BitVec.toNat_and,l0,l1,h0,hmax,hlt]
theorem Zzn (hS19:S 39=[])(hS22:S 41=[]){hb hf wb wf:Nat}{ws:List Int}{room r:Int}(h:Zd8 m hb hf wb wf ws room)(h0:0≤r)(hw:ws.length≤1000000)(hd:Wd ws) :
  Zag Tryd.prog TT S 39 [.pointer (some ⟨hb,0,none⟩),.int .u64 r] m=some (.int .i64 (ws.getD r.toNat 0 / 4294967296),m):=by
 have hc:=Zi7 hS22 h h0 hw
 obtain⟨q0,q1⟩:=hd.at_ r.toNat
 generalize ws.getD r.toNat 0=w at hc q0 q1
 have e1:=Zzd q0
 have e2:IntKind.i64.wrap (w / 4294967296)=w / 4294967296:=Zab (by omega) (by omega)
 have e3:(2:Int) ^ min 32 IntKind.u64.bits=4294967296:=by decide
 refine Zb3 5 [] k39 hS19 rfl ?_
 simp [-BitVec.toNat_or,-BitVec.toNat_ofInt,-BitVec.toNat_and,hc,e1,e2,e3]
theorem Zuu (hS20:S 40=[])(hS22:S 41=[]){hb hf wb wf:Nat}{ws:List Int}{room r:Int}(h:Zd8 m hb hf wb wf ws room)(h0:0≤r)(hw:ws.length≤1000000)(hd:Wd ws) :
  Zag Tryd.prog TT S 40 [.pointer (some ⟨hb,0,none⟩),.int .u64 r] m=some (.int .i64 (ws.getD r.toNat 0 % 4294967296),m):=by
 have hc:=Zi7 hS22 h h0 hw
 obtain⟨q0,q1⟩:=hd.at_ r.toNat
 generalize ws.getD r.toNat 0=w at hc q0 q1
 have e0:w.tmod 4294967296=w % 4294967296:=Int.tmod_eq_emod_of_nonneg q0
 have e2:IntKind.i64.wrap (w % 4294967296)=w % 4294967296:=Zab (by omega) (by omega)
 refine Zb3 5 [] k40 hS20 rfl ?_
 simp [-BitVec.toNat_or,-BitVec.toNat_ofInt,-BitVec.toNat_and,hc,e0,e2]
def Z5x (ws:List Int)(r i:Int):Prop:=r=0∨i < 0∨ws.getD r.toNat 0 % 4294967296≤i
theorem Z6w {ws:List Int}{r i:Int}(h0:ws.getD 0 0=0)(h:Z5x ws r i):atV ws r i=0:=by
 unfold atV Z5x at *
 rw [if_neg]
 rintro⟨h1,h2⟩
 rcases h with rfl | h | h
 ·simp only [Int.toNat_zero] at h2
  rw [h0] at h2
  omega
 ·omega
 ·omega
theorem Z47 {ws:List Int}{r i:Int}(h:¬ Z5x ws r i):atV ws r i=IntKind.u64.wrap (IntKind.u64.wrap (r+1)+IntKind.u64.wrap i):=by
 unfold atV Z5x at *
 rw [if_pos (by omega)]
theorem Z6b (hS:S 42=[]){hb hf wb wf:Nat}{ws:List Int}{room at_ v:Int}(h:Zd8 m hb hf wb wf ws room)(hno:at_=0∨(ws.length:Int)≤at_)(hw:ws.length≤1000000) :
  Zag Tryd.prog TT S 42 [.pointer (some ⟨hb,0,none⟩),.int .u64 at_,.int .u64 v] m=some (.bool false,m):=by
 have l0:=h.h.load1 (off:=1) rfl
 have hwu:IntKind.u64.wrap ws.length=ws.length:=Zbh (by omega) (by omega)
 refine Zb3 7 [18] k42 hS rfl ?_
 by_cases h0:at_=0
 ·subst h0
  simp [-BitVec.toNat_or,-BitVec.toNat_ofInt,-BitVec.toNat_and]
 ·have hge:(ws.length:Int)≤at_:=by omega
  simp [-BitVec.toNat_or,-BitVec.toNat_ofInt,-BitVec.toNat_and,l0,hwu,h0,hge]
theorem Z2p (hS:S 42=[]){hb hf wb wf:Nat}{ws:List Int}{room v:Int}{i:Nat}(h:Zd8 m hb hf wb wf ws room)(h0:i≠0)(hlt:i < ws.length)(hw:ws.length≤1000000) :
  ∃ r m1,Zag Tryd.prog TT S 42 [.pointer (some ⟨hb,0,none⟩),.int .u64 i,.int .u64 v] m=some (r,m1)∧r=.bool true∧Zd8 m1 hb hf wb wf (ws.set i v) room∧Zaa m m1 [wf]:=by
 have l0:=h.h.load1 (off:=1) rfl
 have hwu:IntKind.u64.wrap ws.length=ws.length:=Zbh (by omega) (by omega)
 have hge:¬ ((ws.length:Int)≤i):=by omega
 have hmax:(i:Int)≤9223372036854775807:=by omega
 refine Zfi 7 [18] k42 hS rfl ?_
 simp [-BitVec.toNat_or,-BitVec.toNat_ofInt,-BitVec.toNat_and,l0,hwu,h0,hge,hmax,hlt]
 generalize hr:Zaf _ _ _=r
 obtain⟨m1,rfl,o1,k1⟩:=Zaj hr h.w (by simp [words];omega) (by simp [Zam])
 simp [-BitVec.toNat_or,-BitVec.toNat_ofInt,-BitVec.toNat_and]
 rw [Zk v hlt] at o1
 exact⟨⟨by simpa using h.h.keep k1 (by simpa using h.ne),o1,h.ne⟩,k1⟩
def Zn2 (ws:List Int)(a v:Int):List Int:=if a=0∨(ws.length:Int)≤a then ws else ws.set a.toNat v
def Z0b (ws:List Int)(a:Int):Bool:=if a=0∨(ws.length:Int)≤a then false else true
theorem Zue (hS:S 42=[]){hb hf wb wf:Nat}{ws:List Int}{room a v:Int}(h:Zd8 m hb hf wb wf ws room)(ha:0≤a)(hw:ws.length≤1000000) :
  ∃ r m1,Zag Tryd.prog TT S 42 [.pointer (some ⟨hb,0,none⟩),.int .u64 a,.int .u64 v] m=some (r,m1)∧r=.bool (Z0b ws a)∧Zd8 m1 hb hf wb wf (Zn2 ws a v) room∧Zaa m m1 [wf]:=by
 by_cases hno:a=0∨(ws.length:Int)≤a
 ·exact⟨_,m,Z6b hS h hno hw,by simp only [Z0b,if_pos hno],by simp only [Zn2,if_pos hno];exact h,(Zca m).mono (by simp)⟩
 ·obtain⟨i,rfl⟩:∃ i:Nat,a=i:=⟨a.toNat,by omega⟩
  obtain⟨r,m1,h1,h2,h3,h4⟩:=Z2p (v:=v) hS h (i:=i) (by omega) (by omega) hw
  exact⟨r,m1,h1,by simp only [Z0b,if_neg hno];exact h2,by simp only [Zn2,if_neg hno];exact h3,h4⟩
theorem Z38 (hS:S 38=[]){hb hf wb wf:Nat}{ws:List Int}{room a v:Int}(h:Zdn m hb hf wb wf ws room)(ha:0≤a)(hw:ws.length≤1000000) :
  ∃ r m1,Zag Tryd.prog TT S 38 [.pointer (some ⟨hb,0,none⟩),.int .u64 a,.int .u64 v] m=some (r,m1)∧r=.bool (Z0b ws a)∧Zdn m1 hb hf wb wf (Zn2 ws a v) room∧Zaa m m1 [wf]:=by
 by_cases hno:a=0∨(ws.length:Int)≤a
 ·exact⟨_,m,Z86 hS h hno hw,by simp only [Z0b,if_pos hno],by simp only [Zn2,if_pos hno];exact h,(Zca m).mono (by simp)⟩
 ·obtain⟨i,rfl⟩:∃ i:Nat,a=i:=⟨a.toNat,by omega⟩
  obtain⟨r,m1,h1,h2,h3,h4⟩:=Zzm (v:=v) hS h (i:=i) (by omega) (by omega) hw
  exact⟨r,m1,h1,by simp only [Z0b,if_neg hno];exact h2,by simp only [Zn2,if_neg hno];exact h3,h4⟩
theorem Z1w (hS18:S 36=[])(hS17:S 42=[])(hS20:S 40=[])(hS22:S 41=[]){hb hf wb wf:Nat}{ws:List Int}{room r i v:Int}(h:Zd8 m hb hf wb wf ws room)(h0:0≤r)(hw:ws.length≤1000000)(hd:Wd ws)(hz:ws.getD 0 0=0) :
  ∃ u m1,Zag Tryd.prog TT S 36 [.pointer (some ⟨hb,0,none⟩),.int .u64 r,.int .i64 i,.int .u64 v] m=some (u,m1)∧u=.bool (Z0b ws (atV ws r i))∧Zd8 m1 hb hf wb wf (Zn2 ws (atV ws r i) v) room∧Zaa m m1 [wf]:=by
 have hc:=Zuu hS20 hS22 h h0 hw hd
 by_cases hno:Z5x ws r i
 ·rw [Z6w hz hno]
  refine⟨.bool false,m,?_,by simp [Z0b],by simpa [Zn2] using h,(Zca m).mono (by simp)⟩
  refine Zb3 9 [21] k36 hS18 rfl ?_
  unfold Z5x at hno
  by_cases a1:r=0
  ·subst a1
   simp [-BitVec.toNat_or,-BitVec.toNat_ofInt,-BitVec.toNat_and]
  ·by_cases a2:i < 0
   ·simp [-BitVec.toNat_or,-BitVec.toNat_ofInt,-BitVec.toNat_and,a1,a2]
   ·have a3:ws.getD r.toNat 0 % 4294967296≤i:=by omega
    generalize ws.getD r.toNat 0 % 4294967296=q at hc a3
    simp [-BitVec.toNat_or,-BitVec.toNat_ofInt,-BitVec.toNat_and,a1,a2,a3,hc]
 ·obtain⟨u,m1,h1,h2,h3,h4⟩:=Zue (v:=v) hS17 h (Zwt ws r i) hw
  refine⟨u,m1,?_,h2,h3,h4⟩
  have e:=Z47 hno
  rw [e] at h1
  unfold Z5x at hno
  have a1:¬ r=0:=by omega
  have a2:¬ i < 0:=by omega
  have a3:¬ ws.getD r.toNat 0 % 4294967296≤i:=by omega
  generalize ws.getD r.toNat 0 % 4294967296=q at hc a3
  subst h2
  refine Zb3 9 [21] k36 hS18 rfl ?_
  simp [-BitVec.toNat_or,-BitVec.toNat_ofInt,-BitVec.toNat_and,a1,a2,a3,hc,h1]
theorem Yak {t n:Int}(ht:0≤t∧t≤1048576)(hn:0≤n∧n≤1048576):IntKind.u64.wrap (IntKind.u64.wrap (IntKind.u64.wrap t * 2 ^ (min 32 IntKind.u64.bits))+IntKind.u64.wrap n)=Zb9 t n:=by
 rw [Zi8 ht hn]
 have e3:(2:Int) ^ min 32 IntKind.u64.bits=4294967296:=by decide
 have e0:IntKind.u64.wrap t=t:=Zbh (by omega) (by omega)
 have e0':IntKind.u64.wrap n=n:=Zbh (by omega) (by omega)
 have e4:IntKind.u64.wrap (t * 4294967296)=t * 4294967296:=Zbh (by omega) (by omega)
 rw [e3,e0,e0',e4]
 exact Zbh (by omega) (by omega)
theorem Zvt (hS:S 23=[]){hb hf wb wf:Nat}{ws:List Int}{room t:Int}{n:Nat}(h:Zd8 m hb hf wb wf ws room)
  (hr:0 < room∧room≤65536) (hw:ws.length≤65536) (hno:¬ Zik ws room t n) :
  ∃ v m1,Zag Tryd.prog TT S 23 [.pointer (some ⟨hb,0,none⟩),.int .i64 t,.int .i64 n] m=some (v,m1)∧v=.tuple #[.int .u64 ws.length,.bool true]∧
   (∃ wb',Zd8 m1 hb hf wb' wf (ws++[Zb9 t n]++List.replicate n 0) room)∧Zaa m m1 [hf,wf]:=by
 have l0:=h.h.load1 (off:=1) rfl
 have l1:=h.h.load1 (off:=0) rfl
 have hwr:IntKind.i64.wrap (room - ws.length)=room - ws.length:=Zab (by omega) (by omega)
 have hwu:IntKind.u64.wrap ws.length=ws.length:=Zbh (by omega) (by omega)
 unfold Zik at hno
 have a1:¬ t < 0:=by omega
 have a2:¬ 1048576 < t:=by omega
 have a3:¬ (n:Int) < 0:=by omega
 have a4:¬ 1048576 < (n:Int):=by omega
 have a5:¬ room - ws.length < n+1:=by omega
 have w1:IntKind.i64.wrap ((n:Int)+1)=n+1:=Zab (by omega) (by omega)
 refine Zfi 10 [38,62] k23 hS rfl ?_
 simp [-BitVec.toNat_or,-BitVec.toNat_ofInt,-BitVec.toNat_and,Za u42 Zrw rfl,Za0 u42 Zrv,l0,l1,a1,a2,a3,a4,a5,hwr,hwu,w1]
 generalize hr1:Zan _ _ _ _ _ _=r1
 obtain⟨m1,b1,rfl,o1,k1⟩:=Zgz hr1 u42 Zww h.w (by simp [words]) (by simp) (by simp [Zam]) (by omega) (by omega)
 have h1:=h.h.keep k1 (by simpa using h.ne)
 simp [-BitVec.toNat_or,-BitVec.toNat_ofInt,-BitVec.toNat_and]
 generalize hr2:Zaf _ _ _=r2
 obtain⟨m2,rfl,h2,k2⟩:=Zaj hr2 h1 (by simp) (by simp [Zad])
 have o2:=o1.keep k2 (by simpa using h.ne.symm)
 simp [Zbr] at h2
 rw [Yak (by omega) (by omega)] at o2
 have e5:∀ i:Nat,words ws++[Value.int .u64 (Zb9 t n)]++List.replicate i (Value.int .u64 0)=words (ws++[Zb9 t n]++List.replicate i 0):=by intro i;simp [words]
 have e6:=e5 0
 simp only [List.replicate_zero,List.append_nil] at e6
 rw [e6] at o2
 have h22:Zd8 m2 hb hf b1 wf (ws++[Zb9 t n]) room:=⟨by simpa using h2,o2,h.ne⟩
 have kk:Zaa m m2 [hf,wf]:=(k1.mono (by simp)).trans (k2.mono (by simp))
 simp [-BitVec.toNat_or,-BitVec.toNat_ofInt,-BitVec.toNat_and]
 refine Zai 10 [38,62] (fun d E m3=>∃ (i b3:Nat),n - i=d∧i≤n∧E=[(0,.pointer (some ⟨hb,0,none⟩)),(2,.int .i64 n),(6,.int .u64 0),(7,.bool false),(8,.int .u64 ws.length),(9,.int .i64 i)]∧Zd8 m3 hb hf b3 wf (ws++[Zb9 t n]++List.replicate i 0) room∧Zaa m m3 [hf,wf]) _ ⟨_,⟨0,b1,rfl,by omega,rfl,by simpa using h22,kk⟩,(by repeat' constructor)⟩ ?_
 rintro d E m3 ih ⟨i,b3,hd,hi,rfl,h3,k3⟩
 by_cases hlt:i < n
 ·have f1:(i:Int) < n:=by omega
  have f2:IntKind.i64.wrap ((i:Int)+1)=((i+1:Nat):Int):=by rw [Zab (by omega) (by omega)];omega
  have l3:=h3.h.load1 (off:=1) rfl
  simp only [List.length_append,List.length_cons,List.length_nil,List.length_replicate] at l3
  simp [-BitVec.toNat_or,-BitVec.toNat_ofInt,-BitVec.toNat_and,Za u42 Zrw rfl,Za0 u42 Zrv,f1,l3]
  generalize hr3:Zan _ _ _ _ _ _=r3
  have w3:=h3.w
  obtain⟨m4,b4,rfl,o4,k4⟩:=Zgz hr3 u42 Zww w3 (by simp [words];omega) (by simp) (by simp [Zam]) (by omega) (by omega)
  have h4:=h3.h.keep k4 (by simpa using h.ne)
  simp [-BitVec.toNat_or,-BitVec.toNat_ofInt,-BitVec.toNat_and]
  generalize hr5:Zaf _ _ _=r5
  obtain⟨m5,rfl,h5,k5⟩:=Zaj hr5 h4 (by simp) (by simp [Zad])
  have o5:=o4.keep k5 (by simpa using h.ne.symm)
  simp [Zbr] at h5
  simp [-BitVec.toNat_or,-BitVec.toNat_ofInt,-BitVec.toNat_and,f2]
  have e7:=e5 (i+1)
  rw [List.replicate_succ',← List.append_assoc,e5 i] at e7
  rw [e7] at o5
  have e8:(ws++[Zb9 t n]++List.replicate (i+1) 0).length=ws.length+1+i+1:=by simp;omega
  have h6:Zd8 m5 hb hf b4 wf (ws++[Zb9 t n]++List.replicate (i+1) 0) room:=⟨by rw [e8];exact h5,o5,h.ne⟩
  exact ih _ _ _ _ ⟨i+1,b4,rfl,by omega,rfl,h6,k3.trans ((k4.mono (by simp)).trans (k5.mono (by simp)))⟩ (by omega) ⟨by rfl,by rfl,by rfl,by rfl,by rfl,by simp [Zbu],trivial⟩
 ·have f1:¬ (i:Int) < n:=by omega
  have hin:i=n:=by omega
  subst hin
  simp [-BitVec.toNat_or,-BitVec.toNat_ofInt,-BitVec.toNat_and]
  exact⟨⟨b3,by simpa using h3⟩,k3⟩
instance (ws:List Int) (room t n:Int):Decidable (Zik ws room t n):=by unfold Zik;infer_instance
def Z3g (ws:List Int)(room t n:Int):List Int:=if Zik ws room t n then ws else ws++[Zb9 t n]++List.replicate n.toNat 0
structure Zwi (ws:List Int)(room:Int):Prop where
 wd:Wd ws
 zero:ws.getD 0 0=0
 pos:0 < ws.length
 le:(ws.length:Int)≤room
theorem Zo4 {ws b:List Int}(h:0 < ws.length):(ws++b).getD 0 0=ws.getD 0 0:=by
 rw [List.getD_eq_getElem?_getD,List.getElem?_append_left h,← List.getD_eq_getElem?_getD]
theorem Zwi.put {ws:List Int}{room a v:Int}(h:Zwi ws room)(ha:0≤a)(hv:0≤v∧v≤18446744073709551615):Zwi (Zn2 ws a v) room:=by
 unfold Zn2
 split
 ·exact h
 ·rename_i hn
  refine⟨?_,?_,by simpa using h.pos,by simpa using h.le⟩
  ·intro w hw
   rcases List.mem_or_eq_of_mem_set hw with h1 | rfl
   ·exact h.wd w h1
   ·exact hv
  ·rw [List.getD_eq_getElem?_getD,List.getElem?_set_ne (by omega),← List.getD_eq_getElem?_getD]
   exact h.zero
theorem Zwi.alloc {ws:List Int}{room t n:Int}(h:Zwi ws room):Zwi (Z3g ws room t n) room:=by
 unfold Z3g
 split
 ·exact h
 ·rename_i hn
  unfold Zik at hn
  refine⟨?_,?_,by simp;omega,?_⟩
  ·exact Zxo.2 ⟨Zxo.2 ⟨h.wd,Zr2.2 ⟨Zzi (by omega) (by omega),by intro w hw;simp at hw⟩⟩,Z7s _⟩
  ·rw [List.append_assoc,Zo4 h.pos];exact h.zero
  ·simp only [List.length_append,List.length_cons,List.length_nil,List.length_replicate];omega
theorem Z3d {x:Int}(h:(Lit.int .u64 x).wf=true):0≤x∧x≤18446744073709551615:=by
 simp only [Lit.wf,Bool.and_eq_true,decide_eq_true_eq] at h
 have e1:IntKind.u64.min=0:=by decide
 have e2:IntKind.u64.max=18446744073709551615:=by decide
 omega
theorem Z70 {x:Int}(h:(Lit.int .i64 x).wf=true):-9223372036854775808≤x∧x≤9223372036854775807:=by
 simp only [Lit.wf,Bool.and_eq_true,decide_eq_true_eq] at h
 have e1:IntKind.i64.min=-9223372036854775808:=by decide
 have e2:IntKind.i64.max=9223372036854775807:=by decide
 omega
end Go.Proofs.YtlogdohlcdhepaaDoor.base
end
