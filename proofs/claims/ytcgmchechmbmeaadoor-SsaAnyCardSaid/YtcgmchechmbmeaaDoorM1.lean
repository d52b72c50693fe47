/- This text proves what the program's heap and the document's do Zbx the abstract run (what chapter 16 asks of them). Condition: nothing is known of their calls ahead ('S f = []'). -/
import Derived.Test.YtcgmchechmbmeaaDoorGen
set_option linter.unusedVariables false
set_option linter.unusedSimpArgs false
section
set_option maxRecDepth 100000
namespace Go.Proofs.YtcgmchechmbmeaaDoor.base
open Go.Sh gen
variable {S:Zb4}{m:Mem}
def Z9a (ws:List Int):List Value:=ws.map (Value.int .u64)
def Ztv (ws:List Int)(room t n:Int):Prop:=t < 0∨1048576 < t∨n < 0∨1048576 < n∨room - ws.length≤n
def Zqo (t n:Int):Int:=IntKind.u64.wrap (BitVec.ofInt IntKind.u64.bits (IntKind.u64.wrap (IntKind.u64.wrap t * 2 ^ (min 32 IntKind.u64.bits))) ||| BitVec.ofInt IntKind.u64.bits (IntKind.u64.wrap n)).toNat
theorem Zwx (x k:Int)(hk:0 < k):x % k=if x.tmod k < 0 then x.tmod k+k else x.tmod k:=by
 have hx:=Int.emod_nonneg x (by omega:k≠0)
 have hx2:=Int.emod_lt_of_pos x hk
 split
 ·rename_i h
  have:(x.tmod k+k) % k=x % k:=by
   rw [Int.add_emod_right]
   have h3:=Int.tmod_add_mul_tdiv x k
   have:x.tmod k=x - k * x.tdiv k:=by omega
   rw [this,Int.sub_mul_emod_self_left]
  rw [← this]
  have:=Int.lt_tmod_of_pos x hk
  exact Int.emod_eq_of_lt (by omega) (by omega)
 ·rename_i h
  have:(x.tmod k) % k=x % k:=by
   have h3:=Int.tmod_add_mul_tdiv x k
   have:x.tmod k=x - k * x.tdiv k:=by omega
   rw [this,Int.sub_mul_emod_self_left]
  rw [← this]
  have:=Int.tmod_lt_of_pos x hk
  exact Int.emod_eq_of_lt (by omega) (by omega)
def Wd (ws:List Int):Prop:=∀ w∈ws,0≤w∧w≤18446744073709551615
theorem Wd.at_ {ws:List Int}(h:Wd ws)(i:Nat):0≤ws.getD i 0∧ws.getD i 0≤18446744073709551615:=by
 rw [List.getD_eq_getElem?_getD]
 cases hi:ws[i]? with
 | none=>simp
 | some w=>exact h w (List.mem_of_getElem? hi)
theorem Z0 {t n:Int}(ht:0≤t∧t≤1048576)(hn:0≤n∧n≤1048576):Zqo t n=t * 4294967296+n:=by
 obtain⟨a,rfl⟩:∃ a:Nat,t=a:=⟨t.toNat,by omega⟩
 obtain⟨b,rfl⟩:∃ b:Nat,n=b:=⟨n.toNat,by omega⟩
 have e3:(2:Int) ^ min 32 IntKind.u64.bits=4294967296:=by decide
 have e0:IntKind.u64.wrap (a:Int)=a:=Zly (by omega) (by omega)
 have e0':IntKind.u64.wrap (b:Int)=b:=Zly (by omega) (by omega)
 have e4:IntKind.u64.wrap ((a:Int) * 4294967296)=((a * 2 ^ 32:Nat):Int):=by rw [Zly (by omega) (by omega)];omega
 have toN:∀ x:Nat,x≤18446744073709551615→(BitVec.ofInt IntKind.u64.bits (x:Int)).toNat=x:=by
  intro x hx
  show (BitVec.ofInt 64 (x:Int)).toNat=x
  rw [BitVec.toNat_ofInt]
  have:((x:Int) % ((2 ^ 64:Nat):Int))=x:=Int.emod_eq_of_lt (by omega) (by omega)
  rw [this];rfl
 unfold Zqo
 rw [e3,e0,e0',e4,BitVec.toNat_or,toN _ (by omega),toN _ (by omega)]
 have:a * 2 ^ 32 ||| b=a * 2 ^ 32+b:=by
  rw [Nat.mul_comm]
  exact (Nat.two_pow_add_eq_or_of_lt (by omega) a).symm
 rw [this,Zly (by omega) (by omega)]
 omega
theorem Z3m {t n:Int}(ht:0≤t∧t≤1048576)(hn:0≤n∧n≤1048576):0≤Zqo t n∧Zqo t n≤18446744073709551615:=by
 rw [Z0 ht hn];omega
theorem Z2a {A B:List Int}:Wd (A++B)↔Wd A∧Wd B:=by
 unfold Wd
 constructor
 ·intro h;exact⟨fun w hw=>h w (by simp [hw]),fun w hw=>h w (by simp [hw])⟩
 ·rintro⟨h1,h2⟩ w hw
  rcases List.mem_append.1 hw with h | h
  ·exact h1 w h
  ·exact h2 w h
theorem Z4j {x:Int}{B:List Int}:Wd (x::B)↔(0≤x∧x≤18446744073709551615)∧Wd B:=by
 unfold Wd;simp
theorem Z6e (n:Nat):Wd (List.replicate n 0):=by
 intro w hw
 have:=List.eq_of_mem_replicate hw
 omega
def Z94 (ws:List Int)(a v:Int):List Int:=if a=0∨(ws.length:Int)≤a then ws else ws.set a.toNat v
instance (ws:List Int) (room t n:Int):Decidable (Ztv ws room t n):=by unfold Ztv;infer_instance
def Z2b (ws:List Int)(room t n:Int):List Int:=if Ztv ws room t n then ws else ws++[Zqo t n]++List.replicate n.toNat 0
structure Zwc (ws:List Int)(room:Int):Prop where
 wd:Wd ws
 zero:ws.getD 0 0=0
 pos:0 < ws.length
 le:(ws.length:Int)≤room
theorem Zo9 {ws b:List Int}(h:0 < ws.length):(ws++b).getD 0 0=ws.getD 0 0:=by
 rw [List.getD_eq_getElem?_getD,List.getElem?_append_left h,← List.getD_eq_getElem?_getD]
theorem Zwc.put {ws:List Int}{room a v:Int}(h:Zwc ws room)(ha:0≤a)(hv:0≤v∧v≤18446744073709551615):Zwc (Z94 ws a v) room:=by
 unfold Z94
 split
 ·exact h
 ·rename_i hn
  refine⟨?_,?_,by simpa using h.pos,by simpa using h.le⟩
  ·intro w hw
   rcases List.mem_or_eq_of_mem_set hw with h1 | rfl
   ·exact h.wd w h1
   ·exact hv
  ·rw [List.getD_eq_getElem?_getD,List.getElem?_set_ne (by omega),← List.getD_eq_getElem?_getD]
   exact h.zero
theorem Zwc.alloc {ws:List Int}{room t n:Int}(h:Zwc ws room):Zwc (Z2b ws room t n) room:=by
 unfold Z2b
 split
 ·exact h
 ·rename_i hn
  unfold Ztv at hn
  refine⟨?_,?_,by simp;omega,?_⟩
  ·exact Z2a.2 ⟨Z2a.2 ⟨h.wd,Z4j.2 ⟨Z3m (by omega) (by omega),by intro w hw;simp at hw⟩⟩,Z6e _⟩
  ·rw [List.append_assoc,Zo9 h.pos];exact h.zero
  ·simp only [List.length_append,List.length_cons,List.length_nil,List.length_replicate];omega
end Go.Proofs.YtcgmchechmbmeaaDoor.base
end
section
set_option maxRecDepth 100000
namespace Go.Proofs.YtcgmchechmbmeaaDoor.base
open Go.Sh gen
variable {S:Zb4}{m:Mem}
theorem Z3q (z:Int):IntKind.u64.wrap z=z % 18446744073709551616:=by
 have e1:(2:Int) ^ IntKind.u64.bits=18446744073709551616:=by decide
 have e3:IntKind.u64.signed=false:=rfl
 simp only [IntKind.wrap,e1,e3]
 simp
def wd (x:Int):Prop:=0≤x∧x≤18446744073709551615
theorem u0:IntKind.u64.wrap 0=0:=by rw [Z3q];rfl
end Go.Proofs.YtcgmchechmbmeaaDoor.base
end
section
set_option maxRecDepth 100000
namespace Go.Proofs.YtcgmchechmbmeaaDoor.base
open Go.Sh gen
variable {S:Zb4}{m:Mem}
abbrev Za9:Ty:=(Ty.pair (Ty.int .i64) (Ty.pair (Ty.int .i64) (Ty.pair (Ty.int .i64) (Ty.pair (Ty.int .i64) (Ty.pair (Ty.slice 3 (Ty.int .i64)) (Ty.pair (Ty.int .i64) Ty.unit))))))
theorem Zpx (op:Int):op=1∨op=2∨op=3∨op=4∨op=5∨op=6∨op=7∨op=8∨op=9∨op=10∨op=11∨op=12∨op=13∨op=14∨op=15∨op=16∨op=17∨op=18∨op=19∨op=20∨op=21∨op=22∨op=23∨(op < 1∨23 < op):=by omega
def RsI (m:Mem)(ao:Option Addr)(n:Nat)(cells:List Value)(e:TypeId)(fam:Nat):Prop:=
 n=cells.length∧(n=0∧SpN ao∨∃ (b:Nat) (pre:List Value),ao=some ⟨b,pre.length,none⟩∧Rdo m b (pre++cells) e fam)
theorem RsI.keep0 {m1:Mem}{ao:Option Addr}{n:Nat}{cells:List Value}{e fam:Nat}{fs:List Nat}(h:RsI m ao n cells e fam)(k:Zaa m m1 fs)(hf:n≠0→fam∉fs):RsI m1 ao n cells e fam:=by
 refine⟨h.1,?_⟩
 rcases h.2 with h2 | ⟨b,pre,h1,h2⟩
 ·exact Or.inl h2
 ·by_cases hn:n=0
  ·exact Or.inl ⟨hn,h1 ▸ (fun a e=>by cases e;rfl)⟩
  ·exact Or.inr ⟨b,pre,h1,h2.keep k (hf hn)⟩
theorem RsI.keep {m1:Mem}{ao:Option Addr}{n:Nat}{cells:List Value}{e fam:Nat}{fs:List Nat}(h:RsI m ao n cells e fam)(k:Zaa m m1 fs)(hf:fam∉fs):RsI m1 ao n cells e fam:=h.keep0 k (fun _=>hf)
theorem RsI.spot {ao:Option Addr}{n:Nat}{cells:List Value}{e fam:Nat}(h:RsI m ao n cells e fam):SpN ao:=by
 rcases h.2 with h2 | ⟨b,pre,rfl,_⟩
 ·exact h2.2
 ·intro a e;cases e;rfl
theorem RsI.get {ao:Option Addr}{n:Nat}{cells:List Value}{e fam:Nat}(h:RsI m ao n cells e fam){i:Nat}(hi:i < n){v:Value}(hv:cells[i]?=some v):∃ b:Nat × Nat,ao=some ⟨b.1,b.2,none⟩∧loadRow m ⟨b.1,b.2+i,none⟩ 1=some [v]:=by
 rcases h.2 with h2 | ⟨b,pre,h1,h2⟩
 ·omega
 ·refine⟨(b,pre.length),h1,?_⟩
  have hl:=(List.getElem?_eq_some_iff.1 hv).1
  rw [h2.load (off:=pre.length+i) 1 (by rw [List.length_append];omega)]
  unfold Zao
  rw [List.drop_append,List.drop_of_length_le (by omega),List.nil_append,Nat.add_sub_cancel_left,List.drop_eq_getElem_cons hl]
  have:=(List.getElem?_eq_some_iff.1 hv).2
  rw [this];rfl
theorem RsI.rdo {ao:Option Addr}{n:Nat}{cells:List Value}{e fam:Nat}(h:RsI m ao n cells e fam)(hn:n≠0):∃ b:Nat × Nat,ao=some ⟨b.1,b.2,none⟩∧∀ k,k≤n→loadRow m ⟨b.1,b.2,none⟩ k=some (cells.take k):=by
 rcases h.2 with h2 | ⟨b,pre,h1,h2⟩
 ·exact absurd h2.1 hn
 ·refine⟨(b,pre.length),h1,fun k hk=>?_⟩
  rw [h2.load (off:=pre.length) k (by rw [List.length_append];have:=h.1;omega)]
  unfold Zao
  rw [List.drop_left]
theorem Zp1 {ao:Option Addr}{n:Nat}{cells:List Value}{e fam:Nat}(h:Rs m ao n cells e 1 fam):RsI m ao n cells e fam:=by
 refine⟨by rw [← h.1,Nat.mul_one],?_⟩
 rcases h.2 with h2 | ⟨b,h1,h2⟩
 ·exact Or.inl h2
 ·exact Or.inr ⟨b,[],h1,h2⟩
def Zc5 (op:Int):Bool:=[3,4,5,6,7,10,11,12,13,14,18,19,20].contains op
def Zgd (op:Int):Bool:=[8,9,15,16,17,22].contains op
def Zc (op:Int):Nat:=if Zc5 op=true then 2 else if Zgd op=true then 1 else 0
theorem Zxe (hS:S 42=[])(op:Int):Zaq Tryd.prog TT S 42 [.int .i64 op] m=some (.int .i64 (Zc op),m):=by
 refine Zlm 4 [4,4,4,4,4,4,4,4,4,4,4,4,4,18,18,18,18,18,18] k42 hS rfl ?_
 rcases Zpx op with (rfl | rfl | rfl | rfl | rfl | rfl | rfl | rfl | rfl | rfl | rfl | rfl | rfl | rfl | rfl | rfl | rfl | rfl | rfl | rfl | rfl | rfl | rfl | hno)
 ·simp [-Int.natCast_add,Zc,Zc5,Zgd]
 ·simp [-Int.natCast_add,Zc,Zc5,Zgd]
 ·simp [-Int.natCast_add,Zc,Zc5]
 ·simp [-Int.natCast_add,Zc,Zc5]
 ·simp [-Int.natCast_add,Zc,Zc5]
 ·simp [-Int.natCast_add,Zc,Zc5]
 ·simp [-Int.natCast_add,Zc,Zc5]
 ·simp [-Int.natCast_add,Zc,Zc5,Zgd]
 ·simp [-Int.natCast_add,Zc,Zc5,Zgd]
 ·simp [-Int.natCast_add,Zc,Zc5]
 ·simp [-Int.natCast_add,Zc,Zc5]
 ·simp [-Int.natCast_add,Zc,Zc5]
 ·simp [-Int.natCast_add,Zc,Zc5]
 ·simp [-Int.natCast_add,Zc,Zc5]
 ·simp [-Int.natCast_add,Zc,Zc5,Zgd]
 ·simp [-Int.natCast_add,Zc,Zc5,Zgd]
 ·simp [-Int.natCast_add,Zc,Zc5,Zgd]
 ·simp [-Int.natCast_add,Zc,Zc5]
 ·simp [-Int.natCast_add,Zc,Zc5]
 ·simp [-Int.natCast_add,Zc,Zc5]
 ·simp [-Int.natCast_add,Zc,Zc5,Zgd]
 ·simp [-Int.natCast_add,Zc,Zc5,Zgd]
 ·simp [-Int.natCast_add,Zc,Zc5,Zgd]
 ·have n1:¬ op=1:=by omega
  have n2:¬ op=2:=by omega
  have n3:¬ op=3:=by omega
  have n4:¬ op=4:=by omega
  have n5:¬ op=5:=by omega
  have n6:¬ op=6:=by omega
  have n7:¬ op=7:=by omega
  have n8:¬ op=8:=by omega
  have n9:¬ op=9:=by omega
  have n10:¬ op=10:=by omega
  have n11:¬ op=11:=by omega
  have n12:¬ op=12:=by omega
  have n13:¬ op=13:=by omega
  have n14:¬ op=14:=by omega
  have n15:¬ op=15:=by omega
  have n16:¬ op=16:=by omega
  have n17:¬ op=17:=by omega
  have n18:¬ op=18:=by omega
  have n19:¬ op=19:=by omega
  have n20:¬ op=20:=by omega
  have n21:¬ op=21:=by omega
  have n22:¬ op=22:=by omega
  have n23:¬ op=23:=by omega
  simp [-Int.natCast_add,Zc,Zc5,Zgd,n3,n4,n5,n6,n7,n8,n9,n10,n11,n12,n13,n14,n15,n16,n17,n18,n19,n20,n22]
def Zcm (op a b:Int)(l:List Int):List Int:=(if Zc5 op=true then [a,b] else if Zgd op=true then [a] else [])++(if op=20 then l.take 1 else if op=21 then l else [])
theorem Zpk (op a b:Int)(l:List Int):Zcm op a b l=[a,b].take (Zc op)++(if op=20 then l.take 1 else if op=21 then l else []):=by
 unfold Zcm Zc
 by_cases h1:Zc5 op=true
 ·simp [h1]
 ·by_cases h2:Zgd op=true
  ·simp [h1,h2]
  ·simp [h1,h2]
theorem Zuk (hS:S 13=[])(hP:S 42=[]){op a b n st:Int}{l:List Int}{ao:Option Addr}{f:Nat}(hl:l.length * 8≤140737488351232)(hr:RsI m ao l.length (l.map (Value.int .i64)) 3 f) :
  ∃ v m1,Zaq Tryd.prog TT S 13 [.agg #[.int .i64 op,.int .i64 a,.int .i64 b,.int .i64 n,.slice ao l.length l.length,.int .i64 st]] m=some (v,m1)∧(∃ ao' f',v=.slice ao' (Zcm op a b l).length (Zcm op a b l).length∧Rs m1 ao' (Zcm op a b l).length ((Zcm op a b l).map (Value.int .i64)) 3 1 f')∧Zaa m m1 []:=by
 refine Zhk 17 [17,28] k13 hS rfl ?_
 have pr:=fun m'=>Zxe (m:=m') hP op
 simp [-Int.natCast_add,-w13_1,Zbn b43]
 obtain⟨o1,k1,n1⟩:=Zar (m:=m) (cs:=[.int .i64 op,.int .i64 a,.int .i64 b,.int .i64 n,.slice ao l.length l.length,.int .i64 st]) (e:=43) rfl
 generalize m.new _ 43=m1 at *
 obtain⟨vb,hvb⟩:∃ vb,m.next=vb:=⟨_,rfl⟩
 rw [hvb] at o1 n1 ⊢
 have l0:=o1.load1 (off:=0) rfl
 have l1:=o1.load1 (off:=1) rfl
 have l2:=o1.load1 (off:=2) rfl
 obtain⟨bb,hbb⟩:∃ bb,m1.next=bb:=⟨_,rfl⟩
 obtain⟨p,hp⟩:∃ p,Zc op=p:=⟨_,rfl⟩
 have hp2:p≤2:=by
  rw [← hp];unfold Zc;split
  ·omega
  ·split <;> omega
 have hpi:(p:Int)≤9223372036854775807:=by omega
 rw [hp] at pr
 apply Z8y (fun (mX:Mem) (bX:Nat)=>∃ fX,Own mX bX (([a,b].take p).map (Value.int .i64)) 3 fX∧Own mX vb [.int .i64 op,.int .i64 a,.int .i64 b,.int .i64 n,.slice ao l.length l.length,.int .i64 st] 43 vb∧fX≠vb∧m.next≤fX∧Zaa m mX [])
 case main =>
  obtain⟨o2,k2,n2⟩:=Zar (m:=m1) (cs:=[.int .i64 a,.int .i64 b]) (e:=3) rfl
  obtain⟨o3,k3,n3⟩:=Zar (m:=m1.new [.int .i64 a,.int .i64 b] 3) (cs:=[]) (e:=3) rfl
  have o23:=o2.keep k3 (by simp)
  rw [hbb] at o23 o2
  have ld:=o23.load (off:=0) p (by simp;omega)
  have el:Ze9 (m1.new [Value.int IntKind.i64 a,Value.int IntKind.i64 b] 3) bb 3=true:=by unfold Ze9;rw [o2.blk];simp
  obtain⟨cb,hcb⟩:∃ cb,(m1.new [Value.int IntKind.i64 a,Value.int IntKind.i64 b] 3).next=cb:=⟨_,rfl⟩
  have ncb:m1.next < cb:=by rw [← hcb];exact n2
  rw [hcb] at o3
  have news:Zao [Value.int IntKind.i64 a,Value.int IntKind.i64 b] 0 p=([a,b].take p).map (Value.int .i64):=by simp only [Zao,List.drop_zero,List.map_take,List.map_cons,List.map_nil]
  rw [news] at ld
  have ha2:(([a,b].take p).map (Value.int .i64)).all one=true:=by
   rw [List.all_eq_true]
   intro x hx
   obtain⟨y,_,rfl⟩:=List.mem_map.1 hx
   rfl
  have ff:m.next≤cb:=by have:=k1.1;omega
  have ov3:=(o1.keep k2 (by simp)).keep k3 (by simp)
  have K3:=(k1.trans k2).trans k3
  have l0b:=(o1.keep k2 (by simp)).load1 (off:=0) rfl
  have l1b:=(o1.keep k2 (by simp)).load1 (off:=1) rfl
  have l2b:=(o1.keep k2 (by simp)).load1 (off:=2) rfl
  have l0c:=ov3.load1 (off:=0) rfl
  have l1c:=ov3.load1 (off:=1) rfl
  have l2c:=ov3.load1 (off:=2) rfl
  have el3:Ze9 ((m1.new [Value.int IntKind.i64 a,Value.int IntKind.i64 b] 3).new [] 3) bb 3=true:=by unfold Ze9;rw [o23.blk];simp
  by_cases hp0:p=0
  case' pos =>
   have hp0':(p:Int)=0:=by omega
   have tk0:([a,b].take p).map (Value.int .i64)=[]:=by rw [hp0];rfl
   intro meth
   simp [-Int.natCast_add,-w13_2,Za u22 bs3 rfl,Zcc u22 sz3,Zbb u22 sz3,pr,l0,l1,l2,hbb,el,hcb,hp0]
   generalize hra:Zak _ _ _ _ _ _=ra
   obtain⟨m4,b4,rfl,o4,k4⟩:=Zg hra u22 ap3 o3 (by simp) (by simp) (by simp) (by omega) (by omega)
  case' neg =>
   have tk0:p≠0:=by omega
   intro meth
   simp [-Int.natCast_add,-w13_2,Za u22 bs3 rfl,Zcc u22 sz3,Zbb u22 sz3,pr,l0,l1,l2,hbb,hp2,hpi,el,ld,hcb,hp0]
   generalize hra:Zak _ _ _ _ _ _=ra
   obtain⟨m4,b4,rfl,o4,k4⟩:=Zg hra u22 ap3 o3 (by simp) (by simp;omega) (by simpa [List.map_take] using ha2) (by omega) (by omega)
  all_goals
   simp [-Int.natCast_add,-w13_2,Zcc u22 sz3,l0,l1,l2,hp2,hpi,el]
   exact Zbz (E:=[(1,.pointer (some ⟨vb,0,none⟩)),(3,.slice (some ⟨b4,0,none⟩) p p)]) (meth m4 b4 ⟨cb,by simpa [tk0] using o4,ov3.keep k4 (by simp;omega),by omega,ff,K3.fresh k4 (by simpa using ff)⟩) ⟨by rfl,by simp [Zbv,hp0],trivial⟩
 intro mX bX ⟨fX,oX,ov,hfX,hfm,kX⟩
 have l0:=ov.load1 (off:=0) rfl
 have l4:=ov.load1 (off:=4) rfl
 have lp:([a,b].take p).length=p:=by simp;omega
 have eu:=Zpk op a b l
 rw [hp] at eu
 have hrX:=hr.keep kX (by simp)
 have pl:p≤2∧l.length≤17592186044404:=⟨hp2,by omega⟩
 by_cases c20:op=20
 ·by_cases hl00:l.length=0
  ·have e0:(l.length:Int) < 1:=by omega
   have el:l=[]:=List.length_eq_zero_iff.1 hl00
   rw [if_pos c20,el,c20] at eu
   have elen:(Zcm 20 a b l).length=p:=by rw [el,eu];simp;omega
   have hsp:=hr.spot
   cases ao
   case' some a=>have hsp':=hsp a rfl
   case' none=>have hsp':True:=trivial
   all_goals
    simp [-Int.natCast_add,Zcc u22 sz3,Zbb u22 sz3,l0,l4,c20,hl00,hsp']
    generalize hra:Zak _ _ _ _ _ _=ra
    obtain⟨m4,b4,rfl,o4,k4⟩:=Zg hra u22 ap3 oX (by simp;omega) (by simp) (by simp) (by omega) (by omega)
    simp [-Int.natCast_add]
    rw [elen,el]
    exact⟨⟨_,⟨rfl,rfl⟩,fX,by rw [eu];exact (Sl.of (by simpa [List.map_take] using o4) (by simp;omega)).rs⟩,kX.fresh k4 (by simpa using hfm)⟩
  ·have hl0:0 < l.length:=by omega
   obtain⟨rb,rfl,hrb⟩:=hrX.rdo (by omega)
   have ldr:=hrb 1 (by omega)
   rw [← List.map_take] at ldr
   have i1:¬ (l.length:Int) < 1:=by omega
   have i2:1≤l.length:=by omega
   have i3:(l.length:Int)≤9223372036854775807:=by omega
   simp [-Int.natCast_add,Zcc u22 sz3,Zbb u22 sz3,l0,l4,c20,i1,i2,ldr]
   generalize hra:Zak _ _ _ _ _ _=ra
   obtain⟨m4,b4,rfl,o4,k4⟩:=Zg hra u22 ap3 oX (by simp;omega) (by simp;omega) (by simp [Zau,← List.map_take]) (by omega) (by omega)
   simp [-Int.natCast_add]
   rw [if_pos c20] at eu
   have el:(Zcm op a b l).length=p+1:=by rw [eu,List.length_append,lp];simp;omega
   rw [c20] at eu el
   rw [el]
   exact⟨⟨_,⟨rfl,rfl⟩,fX,by rw [eu];exact (Sl.of (by simpa [List.map_take] using o4) (by simp;omega)).rs⟩,kX.fresh k4 (by simpa using hfm)⟩
 ·by_cases c21:op=21
  ·by_cases hl0:l.length=0
   ·have e0:(l.length:Int)=0:=by omega
    have el:l=[]:=List.length_eq_zero_iff.1 hl0
    rw [if_neg c20,if_pos c21,el,List.append_nil,c21] at eu
    have elen:(Zcm 21 a b l).length=p:=by rw [el,eu];exact lp
    cases ao
    all_goals
     simp [-Int.natCast_add,Zbb u22 sz3,l0,l4,c21,hl0]
     generalize hra:Zak _ _ _ _ _ _=ra
     obtain⟨m4,b4,rfl,o4,k4⟩:=Zg hra u22 ap3 oX (by simp;omega) (by simp) (by simp) (by omega) (by omega)
     simp [-Int.natCast_add]
     rw [elen,el]
     exact⟨⟨_,⟨rfl,rfl⟩,fX,by rw [eu];exact (Sl.of (by simpa [List.map_take] using o4) (by simp;omega)).rs⟩,kX.fresh k4 (by simpa using hfm)⟩
   ·obtain⟨rb,rfl,hrb⟩:=hrX.rdo hl0
    have ldr:=hrb l.length (Nat.le_refl _)
    rw [List.take_of_length_le (by simp)] at ldr
    simp [-Int.natCast_add,Zbb u22 sz3,l0,l4,c21,hl0,ldr]
    generalize hra:Zak _ _ _ _ _ _=ra
    obtain⟨m4,b4,rfl,o4,k4⟩:=Zg hra u22 ap3 oX (by simp;omega) (by simp) (by simp [List.all_eq_true,Zau]) (by omega) (by omega)
    simp [-Int.natCast_add]
    rw [if_neg c20,if_pos c21,c21] at eu
    have elen:(Zcm 21 a b l).length=p+l.length:=by rw [eu,List.length_append,lp]
    rw [elen]
    exact⟨⟨_,⟨rfl,rfl⟩,fX,by rw [eu];exact (Sl.of (by simpa [List.map_take] using o4) (by simp;omega)).rs⟩,kX.fresh k4 (by simpa using hfm)⟩
  ·simp [-Int.natCast_add,l0,c20,c21]
   rw [if_neg c20,if_neg c21,List.append_nil] at eu
   rw [eu,lp]
   exact⟨⟨_,⟨rfl,rfl⟩,fX,(Sl.of oX (by simp;omega)).rs⟩,kX⟩
theorem Z6l {m:Mem}(cs:List Int)(n:Nat)(hn:n=cs.length):Rs (m.new (cs.map (Value.int .i64)) 3) (some ⟨m.next,0,none⟩) n (cs.map (Value.int .i64)) 3 1 m.next:=(Sl.of (Own.new _ _ _) (by rw [hn];simp)).rs
end Go.Proofs.YtcgmchechmbmeaaDoor.base
end
section
set_option maxRecDepth 100000
namespace Go.Proofs.YtcgmchechmbmeaaDoor.base
open Go.Sh gen
variable {S:Zb4}{m:Mem}
abbrev UnT:Ty:=(Ty.pair (Ty.int .i64) (Ty.pair (Ty.int .i64) (Ty.pair (Ty.slice 43 (Ty.pair (Ty.int .i64) (Ty.pair (Ty.int .i64) (Ty.pair (Ty.int .i64) (Ty.pair (Ty.int .i64) (Ty.pair (Ty.slice 3 (Ty.int .i64)) (Ty.pair (Ty.int .i64) Ty.unit))))))) (Ty.pair (Ty.slice 36 (Ty.pair (Ty.slice 3 (Ty.int .i64)) (Ty.pair (Ty.int .i64) (Ty.pair (Ty.int .i64) (Ty.pair (Ty.slice 3 (Ty.int .i64)) (Ty.pair (Ty.slice 3 (Ty.int .i64)) (Ty.pair (Ty.int .i64) Ty.unit))))))) (Ty.pair (Ty.slice 41 (Ty.pair (Ty.slice 52 (Ty.pair (Ty.int .i64) (Ty.pair (Ty.int .i64) (Ty.pair (Ty.slice 3 (Ty.int .i64)) (Ty.pair (Ty.slice 3 (Ty.int .i64)) Ty.unit))))) Ty.unit)) Ty.unit)))))
abbrev Zct:Ty:=(Ty.pair (Ty.slice 3 (Ty.int .i64)) (Ty.pair (Ty.int .i64) (Ty.pair (Ty.int .i64) (Ty.pair (Ty.slice 3 (Ty.int .i64)) (Ty.pair (Ty.slice 3 (Ty.int .i64)) (Ty.pair (Ty.int .i64) Ty.unit))))))
abbrev StT:Ty:=(Ty.pair (Ty.slice 52 (Ty.pair (Ty.int .i64) (Ty.pair (Ty.int .i64) (Ty.pair (Ty.slice 3 (Ty.int .i64)) (Ty.pair (Ty.slice 3 (Ty.int .i64)) Ty.unit))))) Ty.unit)
abbrev Zeg:Ty:=(Ty.pair (Ty.int .i64) (Ty.pair (Ty.int .i64) (Ty.pair (Ty.slice 3 (Ty.int .i64)) (Ty.pair (Ty.slice 3 (Ty.int .i64)) Ty.unit))))
def Zi5:Ty→Bool
 | .int _=>false
 | _=>true
def RsT (t:Ty)(m:Mem)(ao:Option Addr)(n:Nat)(cells:List Value)(e fam:Nat):Prop:=match Zi5 t with
 | true=>Rs m ao n cells e t.size fam
 | false=>RsI m ao n cells e fam
theorem RsT.keep0 {t:Ty}{m1:Mem}{ao:Option Addr}{n:Nat}{cells:List Value}{e fam:Nat}{fs:List Nat}(h:RsT t m ao n cells e fam)(k:Zaa m m1 fs)(hf:n≠0→fam∉fs):RsT t m1 ao n cells e fam:=by
 unfold RsT at h ⊢
 cases hs:Zi5 t
 ·rw [hs] at h;exact RsI.keep0 h k hf
 ·rw [hs] at h;exact Rs.keep0 h k hf
theorem RsT.rs {t:Ty}{ao:Option Addr}{n:Nat}{cells:List Value}{e fam:Nat}(h:RsT t m ao n cells e fam)(hs:Zi5 t=true):Rs m ao n cells e t.size fam:=by
 unfold RsT at h;rw [hs] at h;exact h
theorem RsT.of {t:Ty}{ao:Option Addr}{n:Nat}{cells:List Value}{e fam:Nat}(h:Rs m ao n cells e t.size fam):RsT t m ao n cells e fam:=by
 unfold RsT
 cases t <;> first
  | exact Zp1 h
  | exact h
def AtI (Q:Nat→Prop)(m:Mem):(t:Ty)→t.D→List Value→Prop
 | .int k,n,cs=>cs=[.int k n]
 | .bool,b,cs=>cs=[.bool b]
 | .str,l,cs=>cs=[.string ⟨l.toArray⟩]
 | .slice e t,l,cs=>∃ (ao:Option Addr) (css:List (List Value)) (fam:Nat),cs=[.slice ao l.length l.length]∧css.length=l.length∧(∀ (i:Nat) d c,l[i]?=some d→css[i]?=some c→AtI Q m t d c)∧RsT t m ao l.length css.flatten e fam∧(l.length≠0→Q fam)
 | .unit,_,cs=>cs=[]
 | .pair a b,x,cs=>∃ c1 c2,cs=c1++c2∧AtI Q m a x.1 c1∧AtI Q m b x.2 c2
theorem AtI.keep {Q:Nat→Prop}{m m':Mem}{fs:List Nat}(k:Zaa m m' fs)(hf:∀ f∈fs,¬ Q f):∀ {t:Ty} {d:t.D} {cs:List Value},AtI Q m t d cs→AtI Q m' t d cs
 | .int _,_,_,h=>h
 | .bool,_,_,h=>h
 | .str,_,_,h=>h
 | .slice e t,l,cs,⟨ao,css,fam,h1,h2,h3,h4,h5⟩=>⟨ao,css,fam,h1,h2,fun i d c hd hc=>AtI.keep k hf (h3 i d c hd hc),h4.keep0 k (fun hn hm=>hf fam hm (h5 hn)),h5⟩
 | .unit,_,_,h=>h
 | .pair a b,x,cs,⟨c1,c2,h1,h2,h3⟩=>⟨c1,c2,h1,AtI.keep k hf h2,AtI.keep k hf h3⟩
theorem AtI.mono {Q R:Nat→Prop}{m:Mem}(hq:∀ f,Q f→R f):∀ {t:Ty} {d:t.D} {cs:List Value},AtI Q m t d cs→AtI R m t d cs
 | .int _,_,_,h=>h
 | .bool,_,_,h=>h
 | .str,_,_,h=>h
 | .slice e t,l,cs,⟨ao,css,fam,h1,h2,h3,h4,h5⟩=>⟨ao,css,fam,h1,h2,fun i d c hd hc=>AtI.mono hq (h3 i d c hd hc),h4,fun hn=>hq _ (h5 hn)⟩
 | .unit,_,_,h=>h
 | .pair a b,x,cs,⟨c1,c2,h1,h2,h3⟩=>⟨c1,c2,h1,AtI.mono hq h2,AtI.mono hq h3⟩
theorem AtI.len {Q:Nat→Prop}{m:Mem}:∀ {t:Ty} {d:t.D} {cs:List Value},AtI Q m t d cs→cs.length=t.size
 | .int _,_,_,h=>by simp only [AtI] at h;subst h;rfl
 | .bool,_,_,h=>by simp only [AtI] at h;subst h;rfl
 | .str,_,_,h=>by simp only [AtI] at h;subst h;rfl
 | .slice e t,l,cs,⟨ao,css,fam,h1,_⟩=>by subst h1;rfl
 | .unit,_,_,h=>by simp only [AtI] at h;subst h;rfl
 | .pair a b,x,cs,⟨c1,c2,h1,h2,h3⟩=>by subst h1;rw [List.length_append,AtI.len h2,AtI.len h3];rfl
theorem AtI.of {Q:Nat→Prop}{m:Mem}:∀ {t:Ty} {d:t.D} {cs:List Value},AtQ Q m t d cs→AtI Q m t d cs
 | .int _,_,_,h=>h
 | .bool,_,_,h=>h
 | .str,_,_,h=>h
 | .slice e t,l,cs,⟨ao,css,fam,h1,h2,h3,h4,h5⟩=>⟨ao,css,fam,h1,h2,fun i d c hd hc=>AtI.of (h3 i d c hd hc),.of h4,h5⟩
 | .unit,_,_,h=>h
 | .pair a b,x,cs,⟨c1,c2,h1,h2,h3⟩=>⟨c1,c2,h1,AtI.of h2,AtI.of h3⟩
theorem Zj9 {css:List (List Value)}{z:Nat}(h:∀ x∈css,x.length=z):css.flatten.length=css.length * z:=by
 induction css with
 | nil=>simp
 | cons a r ih =>
  rw [List.flatten_cons,List.length_append,ih (fun c hc=>h c (by simp [hc])),h a (by simp),List.length_cons,Nat.add_mul]
  omega
theorem Zpz {css:List (List Value)}{z i:Nat}(h:∀ x∈css,x.length=z)(hi:i < css.length):Zao css.flatten (i * z) z=css[i]:=by
 induction css generalizing i with
 | nil=>simp at hi
 | cons a r ih =>
  have ha:=h a (by simp)
  cases i with
  | zero=>simp [Zao,← ha]
  | succ i =>
   have:=ih (i:=i) (fun x hx=>h x (by simp [hx])) (by simpa using hi)
   simp only [Zao,List.flatten_cons] at this ⊢
   rw [show (i+1) * z=a.length+i * z by rw [ha,Nat.add_mul];omega,List.drop_append]
   have e:List.drop (a.length+i * z) a=[]:=List.drop_of_length_le (by omega)
   rw [e]
   simpa using this
theorem Zp0 {Q:Nat→Prop}{e:TypeId}{t:Ty}{l:List t.D}{ao:Option Addr}(h:AtI Q m (Ty.slice e t) l [.slice ao l.length l.length])(hs:Zi5 t=true:=by rfl) :
  ∃ (css:List (List Value)) (fam:Nat),css.length=l.length∧(∀ (i:Nat) d c,l[i]?=some d→css[i]?=some c→AtI Q m t d c)∧Rs m ao l.length css.flatten e t.size fam∧(l.length≠0→Q fam):=by
 obtain⟨ao',css,fam,h1,h2,h3,h4,h5⟩:=h
 simp only [List.cons.injEq,Value.slice.injEq,and_true] at h1
 rw [← h1] at h4
 exact⟨css,fam,h2,h3,h4.rs hs,h5⟩
theorem Zkv {Q:Nat→Prop}{e:TypeId}{t:Ty}{l:List t.D}{ao:Option Addr}(h:AtI Q m (Ty.slice e t) l [.slice ao l.length l.length]){i:Nat}(hi:i < l.length)(hs:Zi5 t=true:=by rfl) :
  ∃ (vb:Nat) (c:List Value) (fam:Nat),ao=some ⟨vb,0,none⟩∧AtI Q m t l[i] c∧loadRow m ⟨vb,i * t.size,none⟩ t.size=some c∧Q fam∧c.length=t.size:=by
 obtain⟨css,fam,hcl,hce,hr,hq⟩:=Zp0 h hs
 obtain⟨vb,rfl,o⟩:=hr.rdo (by omega)
 have hci:i < css.length:=by omega
 have hat:=hce i l[i] css[i] (List.getElem?_eq_getElem hi) (List.getElem?_eq_getElem hci)
 have hlen:∀ x∈css,x.length=t.size:=by
  intro x hx
  obtain⟨j,hj⟩:=List.getElem?_of_mem hx
  have hjl:j < l.length:=by have:=(List.getElem?_eq_some_iff.1 hj).1;omega
  exact (hce j l[j] x (List.getElem?_eq_getElem hjl) hj).len
 have hwin:=Zpz hlen hci
 have hfl:css.flatten.length=css.length * t.size:=Zj9 hlen
 have hb:i * t.size+t.size≤css.flatten.length:=by
  rw [hfl,← Nat.succ_mul]
  exact Nat.mul_le_mul_right _ hci
 exact⟨vb,css[i],fam,rfl,hat,by rw [o.load t.size hb,hwin],hq (by omega),hlen _ (List.getElem_mem hci)⟩
theorem Ztl {Q:Nat→Prop}{l:List Int}{css:List (List Value)}(h2:css.length=l.length)(h3:∀ (i:Nat) (d:(Ty.int .i64).D) c,l[i]?=some d→css[i]?=some c→AtI Q m (Ty.int .i64) d c):css.flatten=l.map (Value.int .i64):=by
 have:css=l.map fun n=>[Value.int .i64 n]:=by
  apply List.ext_getElem?
  intro i
  by_cases hi:i < l.length
  ·have hc:i < css.length:=by omega
   have:=h3 i l[i] css[i] (List.getElem?_eq_getElem hi) (List.getElem?_eq_getElem hc)
   simp only [AtI] at this
   simp [hi,hc,this]
  ·rw [List.getElem?_eq_none (by omega),List.getElem?_eq_none (by simpa using hi)]
 rw [this]
 clear this h3 h2
 induction l with
 | nil=>rfl
 | cons a r ih=>simp at ih ⊢;exact ih
theorem Zbo {b off n k:Nat}{cs:List Value}{v:Value}(h:loadRow m ⟨b,off,none⟩ n=some cs)(hk:cs[k]?=some v):loadRow m ⟨b,off+k,none⟩ 1=some [v]:=by
 unfold loadRow at h ⊢
 simp only at h ⊢
 cases hr:m.readable b with
 | none=>rw [hr] at h;cases h
 | some bl =>
  rw [hr] at h
  simp only at h ⊢
  split at h
  ·rename_i hle
   simp only [Option.some.injEq] at h
   subst h
   have hkl:=(List.getElem?_eq_some_iff.1 hk).1
   have hwl:(Zao bl.cells off n).length=n:=Zd9 hle
   rw [hwl] at hkl
   rw [if_pos (by omega)]
   obtain⟨_,hk2⟩:=Zie hk
   have hlt:=(List.getElem?_eq_some_iff.1 hk2).1
   unfold Zao
   rw [List.drop_eq_getElem_cons hlt]
   have:=(List.getElem?_eq_some_iff.1 hk2).2
   rw [this]
   rfl
  ·cases h
structure UAt (Q:Nat→Prop)(m:Mem)(u:UnT.D)(vo bo so:Option Addr):Prop where
 v:AtI Q m (Ty.slice 43 (Ty.pair (Ty.int .i64) (Ty.pair (Ty.int .i64) (Ty.pair (Ty.int .i64) (Ty.pair (Ty.int .i64) (Ty.pair (Ty.slice 3 (Ty.int .i64)) (Ty.pair (Ty.int .i64) Ty.unit))))))) u.2.2.1 [.slice vo u.2.2.1.length u.2.2.1.length]
 b:AtI Q m (Ty.slice 36 (Ty.pair (Ty.slice 3 (Ty.int .i64)) (Ty.pair (Ty.int .i64) (Ty.pair (Ty.int .i64) (Ty.pair (Ty.slice 3 (Ty.int .i64)) (Ty.pair (Ty.slice 3 (Ty.int .i64)) (Ty.pair (Ty.int .i64) Ty.unit))))))) u.2.2.2.1 [.slice bo u.2.2.2.1.length u.2.2.2.1.length]
 s:AtI Q m (Ty.slice 41 (Ty.pair (Ty.slice 52 (Ty.pair (Ty.int .i64) (Ty.pair (Ty.int .i64) (Ty.pair (Ty.slice 3 (Ty.int .i64)) (Ty.pair (Ty.slice 3 (Ty.int .i64)) Ty.unit))))) Ty.unit)) u.2.2.2.2.1 [.slice so u.2.2.2.2.1.length u.2.2.2.2.1.length]
theorem UAt.keep {Q:Nat→Prop}{m1:Mem}{u:UnT.D}{vo bo so:Option Addr}{fs:List Nat}(h:UAt Q m u vo bo so)(k:Zaa m m1 fs)(hf:∀ f∈fs,¬ Q f):UAt Q m1 u vo bo so:=
 ⟨h.v.keep k hf,h.b.keep k hf,h.s.keep k hf⟩
theorem Zdv {Q:Nat→Prop}{l:List Int}{c:List Value}(h:AtI Q m (Ty.slice 3 (Ty.int .i64)) l c):∃ ao f,c=[.slice ao l.length l.length]∧RsI m ao l.length (l.map (Value.int .i64)) 3 f∧(l.length≠0→Q f):=by
 obtain⟨ao,css,fam,h1,h2,h3,h4,h5⟩:=h
 have:=Ztl h2 h3
 rw [this] at h4
 exact⟨ao,fam,h1,h4,h5⟩
abbrev Zlt (x:Za9.D)(ao:Option Addr):List Value:=[.int .i64 x.1,.int .i64 x.2.1,.int .i64 x.2.2.1,.int .i64 x.2.2.2.1,.slice ao x.2.2.2.2.1.length x.2.2.2.2.1.length,.int .i64 x.2.2.2.2.2.1]
theorem Ziy {Q:Nat→Prop}{u:UnT.D}{vo bo so:Option Addr}(h:UAt Q m u vo bo so){i:Nat}(hi:i < u.2.2.1.length) :
  ∃ (vb:Nat) (ao:Option Addr) (f:Nat),vo=some ⟨vb,0,none⟩∧loadRow m ⟨vb,i * 6,none⟩ 6=some (Zlt (u.2.2.1[i]) ao)∧RsI m ao (u.2.2.1[i]).2.2.2.2.1.length ((show List Int from (u.2.2.1[i]).2.2.2.2.1).map (Value.int .i64)) 3 f∧((u.2.2.1[i]).2.2.2.2.1.length≠0→Q f):=by
 obtain⟨vb,c,fam,e,hc,hl,hq,_⟩:=Zkv h.v hi
 obtain⟨_,_,e1,rfl,_,_,e2,rfl,_,_,e3,rfl,_,_,e4,rfl,_,_,e5,h5,_,_,e6,rfl,h7⟩:=hc
 simp only [AtI] at h7
 subst h7
 obtain⟨ao,f,rfl,hr,hqf⟩:=Zdv h5
 refine⟨vb,ao,f,e,?_,hr,hqf⟩
 rw [e1,e2,e3,e4,e5,e6] at hl
 exact hl
structure Kv where
 x:Nat
 f:Nat
 hb:Nat
 hf:Nat
 hwf:Nat
 wb:Nat
 wf:Nat
 room:Int
 vo:Option Addr
 bo:Option Addr
 so:Option Addr
structure Vv where
 hwb:Nat
 hw:List Int
 ws:List Int
 wish:Int
 steps:Int
abbrev nv (u:UnT.D):Nat:=u.2.2.1.length
end Go.Proofs.YtcgmchechmbmeaaDoor.base
end
section
set_option maxRecDepth 100000
namespace Go.Proofs.YtcgmchechmbmeaaDoor.base
open Go.Sh gen
variable {S:Zb4}{m:Mem}
abbrev Zfb (x:Za9.D):List Int:=Zcm x.1 x.2.1 x.2.2.1 x.2.2.2.2.1
structure VOk (u:UnT.D)(x:Za9.D):Prop where
 op:2≤x.1∧x.1≤23∧x.1≠21
 n:-9223372036854775808≤x.2.2.2.1∧x.2.2.2.1≤9223372036854775807
 al:x.2.2.2.2.1.length * 8≤140737488351232
 a20:x.1=20→0 < x.2.2.2.2.1.length
 us:∀ z∈Zfb x,0≤z∧z < nv u
 ul:(Zfb x).length≤20000000000000
theorem Za6 {l:List Int}{i:Nat}(h:i < l.length):l.getD i 0∈l:=by
 rw [List.getD_eq_getElem?_getD,List.getElem?_eq_getElem h];exact List.getElem_mem h
theorem Zcp {l:List Int}{i:Nat}(h:i < l.length):(l.map (Value.int .i64))[i]?=some (.int .i64 (l.getD i 0)):=by
 rw [List.getElem?_map,List.getElem?_eq_getElem h,List.getD_eq_getElem?_getD,List.getElem?_eq_getElem h];rfl
end Go.Proofs.YtcgmchechmbmeaaDoor.base
end
section
set_option maxRecDepth 100000
namespace Go.Proofs.YtcgmchechmbmeaaDoor.base
open Go.Sh gen
variable {S:Zb4}{m:Mem}
end Go.Proofs.YtcgmchechmbmeaaDoor.base
end
section
set_option maxRecDepth 100000
namespace Go.Proofs.YtcgmchechmbmeaaDoor.base
open Go.Sh gen
variable {S:Zb4}{m:Mem}
abbrev nb (u:UnT.D):Nat:=u.2.2.2.1.length
abbrev Zwe (x:Zct.D)(vo no po:Option Addr):List Value:=[.slice vo x.1.length x.1.length,.int .i64 x.2.1,.int .i64 x.2.2.1,.slice no x.2.2.2.1.length x.2.2.2.1.length,.slice po x.2.2.2.2.1.length x.2.2.2.2.1.length,.int .i64 x.2.2.2.2.2.1]
abbrev Zah (Q:Nat→Prop)(m:Mem)(ao:Option Addr)(l:List Int):Prop:=∃ f,RsI m ao l.length (l.map (Value.int .i64)) 3 f∧(l.length≠0→Q f)
theorem Zah.keep {Q:Nat→Prop}{m1:Mem}{ao:Option Addr}{l:List Int}{fs:List Nat}(h:Zah Q m ao l)(k:Zaa m m1 fs)(hf:∀ f∈fs,¬ Q f):Zah Q m1 ao l:=by
 obtain⟨f,h1,h2⟩:=h
 by_cases hl:l.length=0
 ·exact⟨f,⟨h1.1,Or.inl ⟨hl,h1.spot⟩⟩,h2⟩
 ·exact⟨f,h1.keep k (fun hm=>hf f hm (h2 hl)),h2⟩
theorem Zah.get {Q:Nat→Prop}{ao:Option Addr}{l:List Int}(h:Zah Q m ao l){i:Nat}(hi:i < l.length):∃ b:Nat × Nat,ao=some ⟨b.1,b.2,none⟩∧loadRow m ⟨b.1,b.2+i,none⟩ 1=some [.int .i64 (l.getD i 0)]:=by
 obtain⟨f,h1,h2⟩:=h
 exact h1.get (by omega) (Zcp hi)
theorem Zf0 {Q:Nat→Prop}{u:UnT.D}{vo bo so:Option Addr}(h:UAt Q m u vo bo so){i:Nat}(hi:i < nb u) :
  ∃ (b:Nat) (vo no po:Option Addr),bo=some ⟨b,0,none⟩∧loadRow m ⟨b,i * 6,none⟩ 6=some (Zwe (u.2.2.2.1[i]) vo no po)∧Zah Q m vo (u.2.2.2.1[i]).1∧Zah Q m no (u.2.2.2.1[i]).2.2.2.1∧Zah Q m po (u.2.2.2.1[i]).2.2.2.2.1:=by
 obtain⟨vb,c,fam,e,hc,hl,hq,_⟩:=Zkv h.b hi
 obtain⟨_,_,e1,h1,_,_,e2,rfl,_,_,e3,rfl,_,_,e4,h4,_,_,e5,h5,_,_,e6,rfl,h7⟩:=hc
 simp only [AtI] at h7
 subst h7
 obtain⟨ao1,f1,rfl,hr1,hqf1⟩:=Zdv h1
 obtain⟨ao4,f4,rfl,hr4,hqf4⟩:=Zdv h4
 obtain⟨ao5,f5,rfl,hr5,hqf5⟩:=Zdv h5
 refine⟨vb,ao1,ao4,ao5,e,?_,⟨f1,hr1,hqf1⟩,⟨f4,hr4,hqf4⟩,⟨f5,hr5,hqf5⟩⟩
 rw [e1,e2,e3,e4,e5,e6] at hl
 exact hl
def Za3 (u:UnT.D)(v:Int):Za9.D:=(show List Za9.D from u.2.2.1).getD v.toNat ((0:Int),(0:Int),(0:Int),(0:Int),([]:List Int),(0:Int),())
theorem Zc6 {u:UnT.D}{v:Nat}(h:v < nv u):Za3 u (v:Int)=u.2.2.1[v]:=by
 unfold Za3
 rw [Int.toNat_natCast,List.getD_eq_getElem?_getD,List.getElem?_eq_getElem h];rfl
end Go.Proofs.YtcgmchechmbmeaaDoor.base
end
section
set_option maxRecDepth 100000
namespace Go.Proofs.YtcgmchechmbmeaaDoor.base
open Go.Sh gen
variable {S:Zb4}{m:Mem}
def Z8c:List Int→Int→Nat
 | [],_=>0
 | [_],_=>0
 | a::b::r,f=>if a=f then 0 else Z8c (b::r) f+1
end Go.Proofs.YtcgmchechmbmeaaDoor.base
end
