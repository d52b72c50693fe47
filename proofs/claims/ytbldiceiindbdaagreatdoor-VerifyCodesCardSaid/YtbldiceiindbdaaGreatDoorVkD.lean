/- This text proves what small functions answer: Pick, Base, and what looks up a type. Condition: nothing is known of the calls ahead ('S f = []'). -/
import Derived.Test.YtbldiceiindbdaaGreatDoorVkC
set_option linter.unusedVariables false
set_option linter.unusedSimpArgs false
set_option maxRecDepth 100000
namespace Go.Proofs.YtbldiceiindbdaaGreatDoor.base
open Go.Sh gen
variable {S:Zed}{m:Mem}
theorem Zxm (x k:Int)(hk:0 < k):x % k=if x.tmod k < 0 then x.tmod k+k else x.tmod k:=by
 have hx:=Int.emod_nonneg x (by omega:k≠0)
 have hx2:=Int.emod_lt_of_pos x hk
 split
 ·rename_i h
  have:(x.tmod k+k) % k=x % k:=by
   rw [Int.add_emod_right]
   have h3:=Int.tmod_add_mul_tdiv x k
   have:x.tmod k=x - k * x.tdiv k:=by omega
   rw [this,Int.sub_mul_emod_self_left]
  rw [← this]
  have:=Int.lt_tmod_of_pos x hk
  exact Int.emod_eq_of_lt (by omega) (by omega)
 ·rename_i h
  have:(x.tmod k) % k=x % k:=by
   have h3:=Int.tmod_add_mul_tdiv x k
   have:x.tmod k=x - k * x.tdiv k:=by omega
   rw [this,Int.sub_mul_emod_self_left]
  rw [← this]
  have:=Int.tmod_lt_of_pos x hk
  exact Int.emod_eq_of_lt (by omega) (by omega)
theorem Zkg (hS:S 8=[])(x k:Int)(hk:0 < k)(hk2:k < 1000000):Zbi Tryz.prog TT S 8 [.int .i64 x,.int .i64 k] m=some (.int .i64 (x % k),m):=by
 have hx:=Int.emod_nonneg x (by omega:k≠0)
 have hx2:=Int.emod_lt_of_pos x hk
 have hk0:k≠0:=by omega
 have hw:IntKind.i64.wrap (x % k)=x % k:=Zbh (by omega) (by omega)
 have e:=Zxm x k hk
 refine Zgh 5 [9] k8 hS rfl ?_
 by_cases h:x.tmod k < 0
 ·rw [if_pos h] at e
  rw [e] at hw ⊢
  simp [-BitVec.toNat_or,-BitVec.toNat_ofInt,-BitVec.toNat_and,id,hk0,h,hw]
 ·rw [if_neg h] at e
  rw [e]
  simp [-BitVec.toNat_or,-BitVec.toNat_ofInt,-BitVec.toNat_and,id,hk0,h]
theorem Zhw {x:Int}(h:-9223372036854775808≤x∧x≤9223372036854775807):(Lit.int .i64 x).wf=true:=by
 simp only [Lit.wf,Bool.and_eq_true,decide_eq_true_eq]
 have e1:IntKind.i64.min=-9223372036854775808:=by decide
 have e2:IntKind.i64.max=9223372036854775807:=by decide
 omega
def Zkm (x:Ze8.D):List Value:=[.string ⟨x.1.toArray⟩,.int .i64 x.2.1]
def tyC (k:Int)(nm:List UInt8):List Value:=[.int .i64 k,.string ⟨nm.toArray⟩,.int .i64 0,.slice none 0 0,.slice none 0 0]
def Zcs:List Zb0.D:=[(0,[],0,[],[],()),(1,[105,110,116],0,[],[],()),(2,[98,111,111,108],0,[],[],()),(3,[115,116,114,105,110,103],0,[],[],()),(4,[110,105,108],0,[],[],())]
def Zgi:List (List Value):=[tyC 0 [],tyC 1 [105,110,116],tyC 2 [98,111,111,108],tyC 3 [115,116,114,105,110,103],tyC 4 [110,105,108]]
theorem Zqo (Q:Nat→Prop)(m:Mem)(k:Int)(nm:List UInt8):AtQ Q m Zb0 (k,nm,0,[],[],()) (tyC k nm):=
 ⟨[_],_,rfl,rfl,[_],_,rfl,rfl,[_],_,rfl,rfl,[_],_,rfl,⟨none,[],0,rfl,rfl,by simp,⟨by simp,Or.inl ⟨rfl,.nil⟩⟩,by simp⟩,[_],_,rfl,⟨none,[],0,rfl,rfl,by simp,⟨by simp,Or.inl ⟨rfl,.nil⟩⟩,by simp⟩,rfl⟩
theorem Zlo (Q:Nat→Prop)(m:Mem):∀ (i:Nat) d c,Zcs[i]?=some d→Zgi[i]?=some c→AtQ Q m Zb0 d c:=by
 intro i d c hd hc
 match i with
 | 0=>simp [Zcs,Zgi] at hd hc;subst hd hc;exact Zqo _ _ _ _
 | 1=>simp [Zcs,Zgi] at hd hc;subst hd hc;exact Zqo _ _ _ _
 | 2=>simp [Zcs,Zgi] at hd hc;subst hd hc;exact Zqo _ _ _ _
 | 3=>simp [Zcs,Zgi] at hd hc;subst hd hc;exact Zqo _ _ _ _
 | 4=>simp [Zcs,Zgi] at hd hc;subst hd hc;exact Zqo _ _ _ _
 | i+5=>simp [Zcs] at hd
theorem Zlp:∀ x∈Zcs,Zb0.wf x:=by
 intro x hx
 simp only [Zcs,List.mem_cons,List.not_mem_nil,or_false] at hx
 have e:∀ l:List Ze8.D,l=[]→l.length≤9223372036854775807∧∀ y∈l,Ze8.wf y:=by rintro _ rfl;simp
 have g:∀ l:List Zdz.D,l=[]→l.length≤9223372036854775807∧∀ y∈l,Zdz.wf y:=by rintro _ rfl;simp
 rcases hx with rfl | rfl | rfl | rfl | rfl
 all_goals exact⟨Zhw (by simp only;omega),by simp [Ty.wf],Zhw (by simp only;omega),e _ rfl,g _ rfl,trivial⟩
theorem Zn7 (hS:S 7=[]):∃ v m1,Zbi Tryz.prog TT S 7 [] m=some (v,m1)∧∃ b,v=.slice (some ⟨b,0,none⟩) 5 5∧Own m1 b Zgi.flatten 33 b∧m.next≤b∧Zao m m1 []:=by
 refine Zey 1 [] k7 hS rfl ?_
 simp [-BitVec.toNat_or,-BitVec.toNat_ofInt,-BitVec.toNat_and,Zai Zhv,Zad u24 Ziw rfl]
 exact⟨Own.new _ _ _,Zb9 _ _ _ _⟩
theorem Zr3 {Q:Nat→Prop}{kd el:Int}{nm:List UInt8}{fO gO:Option Addr}{FL:List Ze8.D}{ML:List Zdz.D}{mcs:List (List Value)}{ff gf:Nat}(sF:Rs m fO FL.length (FL.flatMap Zkm) 27 2 ff)(qF:FL.length≠0→Q ff)(hl:mcs.length=ML.length)(hm:∀ (i:Nat) d c,ML[i]?=some d→mcs[i]?=some c→AtQ Q m Zdz d c)(sG:Rs m gO ML.length mcs.flatten 30 4 gf)(qG:ML.length≠0→Q gf) :
  AtQ Q m Zb0 (kd,nm,el,FL,ML,()) [.int .i64 kd,.string ⟨nm.toArray⟩,.int .i64 el,.slice fO FL.length FL.length,.slice gO ML.length ML.length]:=by
 refine⟨[_],_,rfl,rfl,[_],_,rfl,rfl,[_],_,rfl,rfl,[_],_,rfl,⟨fO,FL.map Zkm,ff,rfl,by simp,?_,?_,qF⟩,[_],_,rfl,⟨gO,mcs,gf,rfl,hl,hm,sG,qG⟩,rfl⟩
 ·intro i d c hd hc
  rw [List.getElem?_map,hd] at hc
  simp at hc
  subst hc
  exact⟨[_],_,rfl,rfl,[_],_,rfl,rfl,rfl⟩
 ·rw [← List.flatMap_def]
  exact sF
theorem Zrf:∀ {t:Ty} {d:t.D} {cs:List Value},At m t d cs→cs.all one=true
 | .int _,_,_,h=>by cases h;rfl
 | .bool,_,_,h=>by cases h;rfl
 | .str,_,_,h=>by cases h;rfl
 | .slice e t,l,cs,⟨ao,css,fam,h1,h2,h3,h4⟩=>by rw [h1];rfl
 | .unit,_,_,h=>by cases h;rfl
 | .pair a b,x,cs,⟨c1,c2,h1,h2,h3⟩=>by rw [h1,List.all_append,Zrf h2,Zrf h3];rfl
structure Tb (m:Mem)(to:Option Addr)(L:List Zb0.D):Prop where
 ex:∃ (css:List (List Value)) (f:Nat),css.length=L.length∧(∀ (i:Nat) d c,L[i]?=some d→css[i]?=some c→At m Zb0 d c)∧Rs m to L.length css.flatten 33 5 f
 le:L.length≤1000
 wf:∀ x∈L,Zb0.wf x
theorem Tb.keep {m1:Mem}{to:Option Addr}{L:List Zb0.D}(h:Tb m to L)(k:Zao m m1 []):Tb m1 to L:=by
 obtain⟨css,f,h1,h2,h3⟩:=h.ex
 exact⟨⟨css,f,h1,fun i d c hd hc=>(h2 i d c hd hc).keep k,h3.keep k (by simp)⟩,h.le,h.wf⟩
theorem Tb.one {to:Option Addr}{L:List Zb0.D}(h:Tb m to L){i:Nat}(hi:i < L.length):∃ b c,to=some ⟨b,0,none⟩∧At m Zb0 L[i] c∧∀ m',Zao m m' []→loadRow m' ⟨b,i * 5,none⟩ 5=some c:=by
 obtain⟨css,f,h1,h2,h3⟩:=h.ex
 obtain⟨b,rfl,hr⟩:=h3.rdo (by omega)
 obtain⟨c,hc,hw⟩:=At.elem h1 h2 hi
 refine⟨b,c,rfl,hc,fun m' k=>?_⟩
 have hl:css.flatten.length=L.length * 5:=h3.1.symm
 rw [(hr.keep k (by simp)).load (off:=i * 5) 5 (by rw [hl];omega)]
 exact congrArg some hw
theorem Zmu (hS:S 111=[]){to:Option Addr}{n:Nat}(t:Int):Zbi Tryz.prog TT S 111 [.slice to n n,.int .i64 t] m=some (.bool (decide (1≤t∧t < n∧t≠4)),m):=by
 refine Zgh 5 [] Z82 hS rfl ?_
 by_cases h1:1≤t
 ·by_cases h2:t < (n:Int)
  ·by_cases h3:t=4
   ·subst h3
    simp [-Int.natCast_add,-BitVec.toNat_or,-BitVec.toNat_ofInt,-BitVec.toNat_and,Zac u24,h2]
   ·simp [-Int.natCast_add,-BitVec.toNat_or,-BitVec.toNat_ofInt,-BitVec.toNat_and,Zac u24,h1,h2,h3]
  ·simp [-Int.natCast_add,-BitVec.toNat_or,-BitVec.toNat_ofInt,-BitVec.toNat_and,Zac u24,h1,h2]
 ·simp [-Int.natCast_add,-BitVec.toNat_or,-BitVec.toNat_ofInt,-BitVec.toNat_and,Zac u24,h1]
def Z3j:List Value:=[Value.int .i64 0,.string ⟨#[]⟩,.int .i64 0,.slice none 0 0,.slice none 0 0]
theorem Zz2 (hS:S 162=[]){to:Option Addr}{L:List Zb0.D}(h:Tb m to L)(t:Int) :
  ∃ v m1,Zbi Tryz.prog TT S 162 [.slice to L.length L.length,.int .i64 t] m=some (v,m1)∧((∃ (i:Nat) (c:List Value),t=i∧(∃ hi:i < L.length,At m Zb0 L[i] c)∧v=.tuple #[.agg c.toArray,.bool true])∨(¬ (0≤t∧t < L.length)∧v=.tuple #[.agg Z3j.toArray,.bool false]))∧Zao m m1 []:=by
 obtain⟨o0,k0,n0⟩:=Za7 (m:=m) (cs:=[Value.int .i64 0,.string ⟨#[]⟩,.int .i64 0,.slice none 0 0,.slice none 0 0]) (e:=33) rfl
 obtain⟨rb,hrb⟩:∃ rb,m.next=rb:=⟨_,rfl⟩
 rw [hrb] at o0 n0
 refine Zey 6 [13] Z8h hS rfl ?_
 by_cases hin:0≤t∧t < L.length
 ·obtain⟨i,rfl⟩:∃ i:Nat,t=i:=⟨t.toNat,by omega⟩
  have hi:i < L.length:=by omega
  obtain⟨b,c,rfl,hc,ld'⟩:=h.one hi
  have ld:=ld' _ k0
  obtain⟨x0,x1,x2,x3,x4,rfl⟩:∃ x0 x1 x2 x3 x4,c=[x0,x1,x2,x3,x4]:=by
   have hl:=hc.len
   have e5:Zb0.size=5:=rfl
   rw [e5] at hl
   match c,hl with
   | [x0,x1,x2,x3,x4],_=>exact⟨x0,x1,x2,x3,x4,rfl⟩
  have i1:¬ (i:Int) < 0:=by omega
  have i2:¬ (L.length:Int)≤i:=by omega
  have i3:(i:Int)≤9223372036854775807:=by have:=h.le;omega
  simp [-Int.natCast_add,-BitVec.toNat_or,-BitVec.toNat_ofInt,-BitVec.toNat_and,Zbj Zf5,Zag Zgb,Zac u24,Zai Zhv,Zaf Zbn,Zaa u24 Zbn,Zae Zf5,i1,i2,i3,hi,ld,hrb]
  generalize hra:Za8 _ _ _=ra
  obtain⟨m1,rfl,o1,k1⟩:=Za4 hra o0 (by simp) (Zrf hc)
  simp [Zdh] at o1
  have l1:=o1.load (off:=0) 5 (by simp)
  simp [Zb] at l1
  simp [-Int.natCast_add,-BitVec.toNat_or,-BitVec.toNat_ofInt,-BitVec.toNat_and,Zbj Zf5,Zag Zgb,Zac u24,Zai Zhv,Zaf Zbn,Zaa u24 Zbn,Zae Zf5,l1,Zbj]
  exact⟨⟨i,rfl,hi,hc⟩,k0.fresh k1 (by simp;omega)⟩
 ·have zz:∀ {P:Prop},P→P:=fun h=>h
  by_cases h1:t < 0
  case' pos=>simp [-Int.natCast_add,-BitVec.toNat_or,-BitVec.toNat_ofInt,-BitVec.toNat_and,Zbj Zf5,Zag Zgb,Zac u24,Zai Zhv,Zaf Zbn,Zaa u24 Zbn,Zae Zf5,h1,hrb]
  case' neg =>
   have h2:(L.length:Int)≤t:=by omega
   simp [-Int.natCast_add,-BitVec.toNat_or,-BitVec.toNat_ofInt,-BitVec.toNat_and,Zbj Zf5,Zag Zgb,Zac u24,Zai Zhv,Zaf Zbn,Zaa u24 Zbn,Zae Zf5,h1,h2,hrb]
  all_goals
   generalize hra:Za8 _ _ _=ra
   obtain⟨m1,rfl,o1,k1⟩:=Za4 hra o0 (by simp) (by simp [Zbk,Zco,Zbp])
   simp [Zdh] at o1
   have l1:=o1.load (off:=0) 5 (by simp)
   simp [Zb] at l1
   simp [-Int.natCast_add,-BitVec.toNat_or,-BitVec.toNat_ofInt,-BitVec.toNat_and,Zbj Zf5,Zag Zgb,Zac u24,Zai Zhv,Zaf Zbn,Zaa u24 Zbn,Zae Zf5,l1,Zbj]
   first
    | exact⟨⟨fun h=>by omega,rfl⟩,k0.fresh k1 (by simp;omega)⟩
    | exact⟨rfl,k0.fresh k1 (by simp;omega)⟩
def Zdy (L:List Zb0.D)(t:Int):Int:=if h:0≤t∧t < L.length then (L[t.toNat]'(by omega)).1 else -1
theorem Zjz (hS:S 142=[])(hO:S 162=[]){to:Option Addr}{L:List Zb0.D}(h:Tb m to L)(t:Int) :
  ∃ v m1,Zbi Tryz.prog TT S 142 [.slice to L.length L.length,.int .i64 t] m=some (v,m1)∧v=.int .i64 (Zdy L t)∧Zao m m1 []:=by
 obtain⟨_,m1,hc,hcase,k1⟩:=Zz2 hO h t
 refine Zey 7 [14] Z8p hS rfl ?_
 rcases hcase with⟨i,c,rfl,⟨hi,hA⟩,rfl⟩ | ⟨hno,rfl⟩
 ·obtain⟨ao,bo,ca,cb,f,g,ty⟩:=Zc3 hA
  have ek:Zdy L (i:Int)=L[i].1:=by
   unfold Zdy
   rw [dif_pos ⟨by omega,by omega⟩]
   rfl
  rw [ek]
  rw [ty.c] at hc
  obtain⟨o0,k0,n0⟩:=Za7 (m:=m1) (cs:=[Value.int .i64 0,.string ⟨#[]⟩,.int .i64 0,.slice none 0 0,.slice none 0 0]) (e:=33) rfl
  obtain⟨xb,hxb⟩:∃ xb,m1.next=xb:=⟨_,rfl⟩
  rw [hxb] at o0 n0
  simp [-Int.natCast_add,-BitVec.toNat_or,-BitVec.toNat_ofInt,-BitVec.toNat_and,Zag Zgb,Zaf Zbn,Za Za3,Zab ld3,hc,hxb]
  generalize hra:Za8 _ _ _=ra
  obtain⟨m2,rfl,o1,k2⟩:=Za4 hra o0 (by simp) (by simp [Zbk,Zco,Zbp])
  simp [Zdh] at o1
  have l0:=o1.load1 (off:=0) rfl
  simp [-Int.natCast_add,-BitVec.toNat_or,-BitVec.toNat_ofInt,-BitVec.toNat_and,Zag Zgb,Zaf Zbn,Za Za3,Zab ld3,l0]
  exact (k1.trans k0).fresh k2 (by have:=k1.1;simp;omega)
 ·have ek:Zdy L t=-1:=by unfold Zdy;rw [dif_neg hno]
  rw [ek]
  simp [Z3j] at hc
  obtain⟨o0,k0,n0⟩:=Za7 (m:=m1) (cs:=[Value.int .i64 0,.string ⟨#[]⟩,.int .i64 0,.slice none 0 0,.slice none 0 0]) (e:=33) rfl
  obtain⟨xb,hxb⟩:∃ xb,m1.next=xb:=⟨_,rfl⟩
  rw [hxb] at o0 n0
  simp [-Int.natCast_add,-BitVec.toNat_or,-BitVec.toNat_ofInt,-BitVec.toNat_and,Zag Zgb,Zaf Zbn,Za Za3,Zab ld3,hc,hxb]
  generalize hra:Za8 _ _ _=ra
  obtain⟨m2,rfl,o1,k2⟩:=Za4 hra o0 (by simp) (by simp [Zbk,Zco,Zbp])
  simp [Zdh] at o1
  have l0:=o1.load1 (off:=0) rfl
  simp [-Int.natCast_add,-BitVec.toNat_or,-BitVec.toNat_ofInt,-BitVec.toNat_and,Zag Zgb,Zaf Zbn,Za Za3,Zab ld3,l0]
  exact (k1.trans k0).fresh k2 (by have:=k1.1;simp;omega)
theorem Zxu (hS:S 68=[]):∃ v m1,Zbi Tryz.prog TT S 68 [] m=some (v,m1)∧∃ b,v=.slice (some ⟨b,0,none⟩) 5 5∧Own m1 b Zgi.flatten 33 b∧m.next≤b∧Zao m m1 []:=by
 refine Zey 1 [] k68 hS rfl ?_
 simp [-BitVec.toNat_or,-BitVec.toNat_ofInt,-BitVec.toNat_and,Zai Zhv,Zad u24 Ziw rfl]
 exact⟨Own.new _ _ _,Zb9 _ _ _ _⟩
theorem Zjy {mm:Mem}{bb:Nat}{i:Nat}{cb:List Value}(oB:Own mm bb Zgi.flatten 33 bb)(hcb:Zgi[i]?=some cb):loadRow mm ⟨bb,i * 5,none⟩ 5=some cb:=by
 have hi:i < 5:=(List.getElem?_eq_some_iff.1 hcb).1
 rw [oB.load (off:=i * 5) 5 (by simp [Zgi,tyC];omega)]
 match i,hi,hcb with
 | 0,_,h=>cases h;rfl
 | 1,_,h=>cases h;rfl
 | 2,_,h=>cases h;rfl
 | 3,_,h=>cases h;rfl
 | 4,_,h=>cases h;rfl
end Go.Proofs.YtbldiceiindbdaaGreatDoor.base
