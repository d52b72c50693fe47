/- This text proves how parts of a memory that are written apart from one another stay apart: each family has a tag. No condition but what the theorems themselves say. -/
import Derived.Test.YtcgmchechmbmeaaDoorM9
set_option linter.unusedVariables false
set_option linter.unusedSimpArgs false
section
set_option maxRecDepth 100000
namespace Go.Proofs.YtcgmchechmbmeaaDoor.base
open Go.Sh gen
abbrev Tg:=Nat→Nat
variable {T T':Tg}{m m1 m2:Mem}{i:Nat}{is js:List Nat}
def Ag (T T':Tg)(m:Mem):Prop:=∀ f,f < m.next→T' f=T f
def KT (T:Tg)(is:List Nat)(m m1:Mem):Prop:=∃ fs,Zaa m m1 fs∧∀ f∈fs,f < m.next→T f∈is
def DQ (T:Tg)(m:Mem)(f:Nat):Prop:=T f=0∧f < m.next
def Zev (T:Tg)(i:Nat)(m:Mem)(b:Nat)(cells:List Value)(e:TypeId):Prop:=∃ fam,Own m b cells e fam∧T fam=i
def SlT (T:Tg)(i:Nat)(m:Mem)(ao:Option Addr)(n:Nat)(cells:List Value)(e z:Nat):Prop:=∃ fam,Sl m ao n cells e z fam∧(ao≠none→T fam=i)
def SrT (T:Tg)(i:Nat)(m:Mem)(ao:Option Addr)(n:Nat)(cells:List Value)(e z:Nat):Prop:=∃ fam,Sr m ao n cells e z fam∧(ao≠none→T fam=i)
theorem Ag.refl:Ag T T m:=fun _ _=>rfl
theorem Ag.trans {T2:Tg}(h:Ag T T' m)(k:Ag T' T2 m1)(hn:m.next≤m1.next):Ag T T2 m:=fun f hf=>(k f (by omega)).trans (h f hf)
theorem KT.le (k:KT T is m m1):m.next≤m1.next:=by obtain⟨fs,kk,_⟩:=k;exact kk.1
theorem KT.refl:KT T is m m:=⟨[],.refl _ _,by simp⟩
theorem KT.of (k:Zaa m m1 []):KT T is m m1:=⟨[],k,by simp⟩
theorem KT.mono (k:KT T is m m1)(h:∀ t∈is,t∈js):KT T js m m1:=by
 obtain⟨fs,kk,hf⟩:=k
 exact⟨fs,kk,fun f h1 h2=>h _ (hf f h1 h2)⟩
theorem KT.trans (h:KT T is m m1)(a:Ag T T' m)(k:KT T' is m1 m2):KT T is m m2:=by
 obtain⟨fs,kk,hf⟩:=h
 obtain⟨gs,kk2,hg⟩:=k
 refine⟨fs++gs,(kk.mono (fun q hq=>List.mem_append_left _ hq)).trans (kk2.mono (fun q hq=>List.mem_append_right _ hq)),fun f hm hl=>?_⟩
 rcases List.mem_append.1 hm with hm | hm
 ·exact hf f hm hl
 ·rw [← a f hl];exact hg f hm (by have:=kk.1;omega)
theorem Zev.keep {b e:Nat}{cells:List Value}(h:Zev T i m b cells e)(k:KT T is m m1)(a:Ag T T' m)(hi:i∉is):Zev T' i m1 b cells e:=by
 obtain⟨fam,o,rfl⟩:=h
 obtain⟨fs,kk,hf⟩:=k
 exact⟨fam,o.keep kk (fun hm=>hi (hf _ hm o.flt)),a _ o.flt⟩
theorem SlT.keep {ao:Option Addr}{n e z:Nat}{cells:List Value}(h:SlT T i m ao n cells e z)(k:KT T is m m1)(a:Ag T T' m)(hi:i∉is):SlT T' i m1 ao n cells e z:=by
 obtain⟨fam,s,ht⟩:=h
 obtain⟨fs,kk,hf⟩:=k
 exact⟨fam,s.keepz kk (fun hn hm=>hi (by rw [← ht hn];exact hf _ hm (s.sr.flt hn))),fun hn=>(a _ (s.sr.flt hn)).trans (ht hn)⟩
theorem SrT.keep {ao:Option Addr}{n e z:Nat}{cells:List Value}(h:SrT T i m ao n cells e z)(k:KT T is m m1)(a:Ag T T' m)(hi:i∉is):SrT T' i m1 ao n cells e z:=by
 obtain⟨fam,s,ht⟩:=h
 obtain⟨fs,kk,hf⟩:=k
 exact⟨fam,s.keep kk (fun hn hm=>hi (by rw [← ht hn];exact hf _ hm (s.flt hn))),fun hn=>(a _ (s.flt hn)).trans (ht hn)⟩
theorem Zl3 {t:Ty}{d:t.D}{cs:List Value}(h:AtI (DQ T m) m t d cs)(k:KT T is m m1)(a:Ag T T' m)(hi:0∉is):AtI (DQ T' m1) m1 t d cs:=by
 obtain⟨fs,kk,hf⟩:=k
 have hn:=kk.1
 exact (h.keep kk (fun f hm hq=>hi (by rw [← hq.1];exact hf f hm hq.2))).mono (fun f hq=>⟨(a f hq.2).trans hq.1,by have:=hq.2;omega⟩)
theorem Zan {ao:Option Addr}{l:List Int}(h:Zag (DQ T m) m ao l)(k:KT T is m m1)(a:Ag T T' m)(hi:0∉is):Zag (DQ T' m1) m1 ao l:=by
 obtain⟨fs,kk,hf⟩:=k
 have hn:=kk.1
 obtain⟨f,hr,hq⟩:=h
 have hq':l.length≠0→f∉fs:=fun hz hm=>hi (by rw [← (hq hz).1];exact hf f hm (hq hz).2)
 exact⟨f,hr.keep0 kk hq',fun hz=>⟨(a f (hq hz).2).trans (hq hz).1,by have:=(hq hz).2;omega⟩⟩
theorem Znw (T:Tg)(i:Nat){cs:List Value}{e:TypeId}{m1:Mem}(hr:m.new cs e=m1):∃ T',Ag T T' m∧Zev T' i m1 m.next cs e∧Zaa m m1 []∧m.next < m1.next∧∀ f,T' f=T f∨T' f=i:=by
 obtain⟨o,k,n⟩:=Zas hr
 exact⟨fun f=>if f=m.next then i else T f,fun f hf=>if_neg (by omega),⟨_,o,if_pos rfl⟩,k,n,fun f=>by simp only;split <;> simp⟩
theorem Zdq {l off:Nat}{cells vs:List Value}{e:TypeId}{r:Option Mem}(hr:Zad m ⟨l,off,none⟩ vs=r)(h:Zev T i m l cells e)(hk:off+vs.length≤cells.length)(h1:vs.all one=true) :
  ∃ m1,r=some m1∧Zev T i m1 l (Zb1 cells off vs) e∧KT T [i] m m1:=by
 obtain⟨fam,o,ht⟩:=h
 obtain⟨m1,h2,o1,k⟩:=Zao hr o hk h1
 exact⟨m1,h2,⟨fam,o1,ht⟩,[fam],k,by simp;intro _;exact ht⟩
section
variable {P:Program}
theorem Z4o {ty e e0:TypeId}{z bt n k:Nat}{ao:Option Addr}{cells news cs:List Value}{r:Option (Value × Mem)}(hr:Zal P ty (m.new cs e0) (.slice ao n n) news k=r)(ht:P.underlying ty=some (.slice e))(ha:Zix P e z bt=true)
  (h:SlT T i m ao n cells e z) (hk:k≠0) (hnews:news.length=k * z) (h1:news.all one=true) (hb:(n+k) * bt≤140737488355328) (h63:n+k≤9223372036854775807) :
  ∃ m1 b' T',r=some (.slice (some ⟨b',0,none⟩) (n+k) (n+k),m1)∧SlT T' i m1 (some ⟨b',0,none⟩) (n+k) (cells++news) e z∧Ag T T' m∧KT T [i] m m1∧∀ f,T' f=T f∨T' f=i:=by
 obtain⟨fam,s,htg⟩:=h
 obtain⟨m1,b',fam',h2,o,kk,hf,hlt,hne⟩:=Zsd hr ht ha s hk hnews h1 hb h63
 refine⟨m1,b',fun f=>if m.next≤f then i else T f,h2,⟨fam',Sl.of o (by rw [List.length_append,Nat.add_mul,s.1,hnews]),fun _=>?_⟩,fun f hf=>if_neg (by omega),⟨_,kk,fun f hm hl=>?_⟩,fun f=>by simp only;split <;> simp⟩
 ·rcases hf with⟨hn,e⟩ | hn
  ·simp only
   split
   ·rfl
   ·rw [e];exact htg hn
  ·simp only [if_pos hn]
 ·split at hm
  ·simp at hm
  ·rename_i hn
   simp at hm
   rw [hm]
   simpa using htg hn
theorem Z3c {ty e e0:TypeId}{z bt n k:Nat}{ao:Option Addr}{cells news cs:List Value}{r:Option (Value × Mem)}(hr:Zal P ty (m.new cs e0) (.slice ao n n) news k=r)(ht:P.underlying ty=some (.slice e))(ha:Zix P e z bt=true)
  (h:SrT T i m ao n cells e z) (hk:k≠0) (hnews:news.length=k * z) (h1:news.all one=true) (hb:(n+k) * bt≤140737488355328) (h63:n+k≤9223372036854775807) :
  ∃ m1 ao' T',r=some (.slice ao' (n+k) (n+k),m1)∧SrT T' i m1 ao' (n+k) (cells++news) e z∧ao'≠none∧Ag T T' m∧KT T [i] m m1∧∀ f,T' f=T f∨T' f=i:=by
 obtain⟨fam,s,htg⟩:=h
 obtain⟨m1,a',fam',h2,o,kk,hf,hne1,hfe⟩:=Zkv hr ht ha s hk hnews h1 hb h63
 refine⟨m1,a',fun f=>if m.next≤f then i else T f,h2,⟨fam',o,fun _=>?_⟩,hne1,fun f hf=>if_neg (by omega),⟨_,kk,fun f hm hl=>?_⟩,fun f=>by simp only;split <;> simp⟩
 ·rcases hf with⟨hn,e⟩ | hn
  ·simp only
   split
   ·rfl
   ·rw [e];exact htg hn
  ·simp only [if_pos hn]
 ·split at hm
  ·simp at hm
  ·rename_i hn
   simp at hm
   rw [hm]
   simpa using htg hn
end
def Ziy (T:Tg)(m:Mem)(e:TypeId)(t:Ty)(l:List t.D)(ao:Option Addr)(i:Nat):Prop:=
 ∃ css:List (List Value),css.length=l.length∧(∀ (j:Nat) d c,l[j]?=some d→css[j]?=some c→AtI (DQ T m) m t d c)∧SlT T i m ao l.length css.flatten e t.size
theorem Ziy.keep {e:TypeId}{t:Ty}{l:List t.D}{ao:Option Addr}(h:Ziy T m e t l ao i)(k:KT T is m m1)(a:Ag T T' m)(hi:i∉is)(h0:0∉is):Ziy T' m1 e t l ao i:=by
 obtain⟨css,h1,h2,h3⟩:=h
 exact⟨css,h1,fun j d c hd hc=>Zl3 (h2 j d c hd hc) k a h0,h3.keep k a hi⟩
theorem Ziy.nil (T:Tg)(m:Mem)(e:TypeId)(t:Ty)(i:Nat):Ziy T m e t [] none i:=⟨[],rfl,by simp,0,Sl.nil _ _ _ _,by simp⟩
section
variable {P:Program}
theorem Ziy.app {ty e e0:TypeId}{t:Ty}{bt:Nat}{ao:Option Addr}{l:List t.D}{d:t.D}{c:List Value}{cs:List Value}{r:Option (Value × Mem)}(h:Ziy T m e t l ao i)(hi:i≠0)(hd:AtI (DQ T m) m t d c)(hr:Zal P ty (m.new cs e0) (.slice ao l.length l.length) c 1=r)(ht:P.underlying ty=some (.slice e))(ha:Zix P e t.size bt=true)
  (h1:c.all one=true) (hb:(l.length+1) * bt≤140737488355328) (h63:l.length+1≤9223372036854775807) :
  ∃ m1 b' T',r=some (.slice (some ⟨b',0,none⟩) (l.length+1) (l.length+1),m1)∧Ziy T' m1 e t (l++[d]) (some ⟨b',0,none⟩) i∧Ag T T' m∧KT T [i] m m1∧∀ f,T' f=T f∨T' f=i:=by
 obtain⟨css,h2,h3,h4⟩:=h
 obtain⟨m1,b',T',he,s,a,k,tb⟩:=Z4o hr ht ha h4 (by omega) (by rw [AtI.len hd];omega) h1 hb h63
 refine⟨m1,b',T',he,⟨css++[c],by simp [h2],fun j d' c' hd' hc'=>?_,?_⟩,a,k,tb⟩
 ·have h0:(0:Nat)∉[i]:=by simp;omega
  by_cases hj:j < l.length
  ·rw [List.getElem?_append_left hj] at hd'
   rw [List.getElem?_append_left (by omega)] at hc'
   exact Zl3 (h3 j d' c' hd' hc') k a h0
  ·have hjl:j < (l++[d]).length:=(List.getElem?_eq_some_iff.1 hd').1
   have e:j=l.length:=by simp at hjl;omega
   subst e
   rw [List.getElem?_append_right (Nat.le_refl _)] at hd'
   rw [List.getElem?_append_right (by omega),h2] at hc'
   simp at hd' hc'
   subst hd' hc'
   exact Zl3 hd k a h0
 ·rw [show (l++[d]).length=l.length+1 by simp,List.flatten_append,List.flatten_singleton]
  exact s
end
theorem Zm7 {css:List (List Value)}{z p k:Nat}{v:Value}(h:∀ x∈css,x.length=z)(hp:p < css.length)(hk:k < z):Zb1 css.flatten (p * z+k) [v]=(css.set p (css[p].set k v)).flatten:=by
 induction css generalizing p with
 | nil=>simp at hp
 | cons a r ih =>
  have ha:=h a (by simp)
  cases p with
  | zero =>
   simp only [Nat.zero_mul,Nat.zero_add,List.flatten_cons,List.set_cons_zero,List.getElem_cons_zero,Zb1,List.length_cons,List.length_nil]
   rw [List.take_append_of_le_length (by omega),List.drop_append_of_le_length (by omega),List.set_eq_take_append_cons_drop,if_pos (by omega)]
   simp
  | succ p =>
   have:=ih (p:=p) (fun x hx=>h x (by simp [hx])) (by simpa using hp)
   simp only [List.flatten_cons,List.set_cons_succ,List.getElem_cons_succ,Zb1,List.length_cons,List.length_nil] at this ⊢
   rw [← this,show (p+1) * z+k=a.length+(p * z+k) by rw [ha,Nat.add_mul];omega,List.take_length_add_append,show a.length+(p * z+k)+(0+1)=a.length+(p * z+k+(0+1)) by omega,List.drop_length_add_append]
   simp
end Go.Proofs.YtcgmchechmbmeaaDoor.base
end
section
set_option maxRecDepth 100000
namespace Go.Proofs.YtcgmchechmbmeaaDoor.base
open Go.Sh gen
variable {S:Zb7}{T T':Tg}{m m1 m2:Mem}{is js:List Nat}
structure Us where
 vals:List Zb.D
 blks:List Zcj.D
 sts:List StT.D
 known:List Int
 bv:List Int
 bp:List Int
 at_:Nat
def AtT (T:Tg)(m:Mem)(ab x:Nat):Prop:=ab=0∨Zev T 9 m ab [.int .i64 x] 3
theorem AtT.keep {ab x:Nat}(h:AtT T m ab x)(k:KT T is m m1)(a:Ag T T' m)(hi:9∉is):AtT T' m1 ab x:=h.imp id (fun o=>o.keep k a hi)
structure UM (T:Tg)(m:Mem)(ub kb bb ab:Nat)(s:Us):Prop where
 u:∃ va ba sa,Zev T 1 m ub [.int .i64 1,.int .i64 2,.slice va s.vals.length s.vals.length,.slice ba s.blks.length s.blks.length,.slice sa s.sts.length s.sts.length] 29∧Ziy T m 43 Zb s.vals va 2∧Ziy T m 36 Zcj s.blks ba 3∧Ziy T m 41 StT s.sts sa 4
 k:∃ ka,Zev T 5 m kb [.slice ka s.known.length s.known.length] 22∧SrT T 6 m ka s.known.length (ints s.known) 3 1
 b:∃ va pa,Zev T 7 m bb [.slice va s.bv.length s.bv.length,.int .i64 0,.int .i64 0,.slice none 0 0,.slice pa s.bp.length s.bp.length,.int .i64 0] 36∧SlT T 8 m va s.bv.length (ints s.bv) 3 1∧Zag (DQ T m) m pa s.bp
 a:AtT T m ab s.at_
structure UC (T:Tg)(m:Mem)(ub kb bb ab rb nx px sx:Nat)(ops sh:List Int)(n:Int):Prop where
 r:∃ oa sa,Zev T 10 m rb [.slice oa ops.length ops.length,.slice sa sh.length sh.length,.int .i64 n] 24∧Zag (DQ T m) m oa ops∧Zag (DQ T m) m sa sh
 cn:Zev T 10 m nx [.func (.func 20) #[] #[.pointer (some ⟨ab,0,none⟩),.pointer (some ⟨rb,0,none⟩)]] 50
 cp:Zev T 10 m px [.func (.func 19) #[] #[.pointer (some ⟨ub,0,none⟩),.pointer (some ⟨bb,0,none⟩)]] 49
 cs:Zev T 10 m sx [.func (.func 21) #[] #[.pointer (some ⟨ub,0,none⟩),.pointer (some ⟨nx,0,none⟩),.pointer (some ⟨kb,0,none⟩)]] 53
 z:ab≠0
variable {ub kb bb ab rb nx px sx:Nat}{ops sh:List Int}{n:Int}{s:Us}
theorem UC.keep (h:UC T m ub kb bb ab rb nx px sx ops sh n)(k:KT T is m m1)(a:Ag T T' m)(h0:0∉is)(hi:10∉is):UC T' m1 ub kb bb ab rb nx px sx ops sh n:=by
 obtain⟨oa,sa,r1,r2,r3⟩:=h.r
 exact⟨⟨oa,sa,r1.keep k a hi,Zan r2 k a h0,Zan r3 k a h0⟩,h.cn.keep k a hi,h.cp.keep k a hi,h.cs.keep k a hi,h.z⟩
structure Nq (S:Zb7):Prop where
 pick:S 16=[]
 f1:S 19=[]
 f2:S 20=[]
 f3:S 21=[]
 f4:S 22=[]
 f5:S 23=[]
 unit:S 7=[]
theorem Zch (hS:S 16=[])(x k:Int)(hk:0 < k)(hk2:k < 4611686018427387904):Zaq Tryd.prog TT S 16 [.int .i64 x,.int .i64 k] m=some (.int .i64 (x % k),m):=by
 have hx:=Int.emod_nonneg x (by omega:k≠0)
 have hx2:=Int.emod_lt_of_pos x hk
 have hk0:k≠0:=by omega
 have hw:IntKind.i64.wrap (x % k)=x % k:=Zab (by omega) (by omega)
 have e:=Zzu x k hk
 refine Zlx 5 [9] k16 hS rfl ?_
 by_cases h:x.tmod k < 0
 ·rw [if_pos h] at e
  rw [e] at hw ⊢
  simp [hk0,h,hw]
 ·rw [if_neg h] at e
  rw [e]
  simp [hk0,h]
def Zar (ops:List Int)(k:Int)(s:Us):Us × Int:=if s.at_ < ops.length then ({ s with at_:=s.at_+1 },ops.getD s.at_ 0 % k) else (s,0)
theorem Zcg {k:Int}(hk:0 < k):0≤(Zar ops k s).2∧(Zar ops k s).2 < k:=by
 unfold Zar
 split
 ·exact⟨Int.emod_nonneg _ (by omega),Int.emod_lt_of_pos _ hk⟩
 ·exact⟨Int.le_refl _,hk⟩
theorem Zhg (ops:List Int)(k:Int)(s:Us):∃ a,(Zar ops k s).1={ s with at_:=a }:=by
 unfold Zar
 split
 ·exact⟨_,rfl⟩
 ·exact⟨s.at_,rfl⟩
theorem UM.keep (h:UM T m ub kb bb ab s)(k:KT T is m m1)(a:Ag T T' m)(hi:∀ t∈is,9 < t):UM T' m1 ub kb bb ab s:=by
 have n:∀ t,t≤9→t∉is:=fun t ht hm=>by have:=hi t hm;omega
 obtain⟨va,ba,sa,u1,u2,u3,u4⟩:=h.u
 obtain⟨ka,k1,k2⟩:=h.k
 obtain⟨va',pa,b1,b2,b3⟩:=h.b
 exact⟨⟨va,ba,sa,u1.keep k a (n _ (by omega)),u2.keep k a (n _ (by omega)) (n _ (by omega)),u3.keep k a (n _ (by omega)) (n _ (by omega)),u4.keep k a (n _ (by omega)) (n _ (by omega))⟩,⟨ka,k1.keep k a (n _ (by omega)),k2.keep k a (n _ (by omega))⟩,⟨va',pa,b1.keep k a (n _ (by omega)),b2.keep k a (n _ (by omega)),Zan b3 k a (n _ (by omega))⟩,h.a.keep k a (n _ (by omega))⟩
theorem Zex (hN:Nq S)(h:UM T m ub kb bb ab s)(hc:UC T m ub kb bb ab rb nx px sx ops sh n)(hat:s.at_≤ops.length)(hol:ops.length≤9223372036854775807){k:Int}(hk:0 < k)(hk2:k < 4611686018427387904) :
  ∃ v m1,Zaq Tryd.prog TT S 20 [.int .i64 k,.pointer (some ⟨ab,0,none⟩),.pointer (some ⟨rb,0,none⟩)] m=some (v,m1)∧v=.int .i64 (Zar ops k s).2∧UM T m1 ub kb bb ab (Zar ops k s).1∧UC T m1 ub kb bb ab rb nx px sx ops sh n∧KT T [9] m m1:=by
 obtain⟨fam,oA,tA⟩:=h.a.resolve_left hc.z
 obtain⟨oa,sa,⟨fr,oR,tR⟩,hO,hSh⟩:=hc.r
 have la:=oA.load1 (off:=0) rfl
 have lr:=oR.load1 (off:=0) rfl
 refine Zho 5 [9] k20 hN.f2 rfl ?_
 unfold Zar
 by_cases hlt:s.at_ < ops.length
 ·have hge:¬ (ops.length:Int)≤(s.at_:Int):=by omega
  have hge':¬ ops.length≤s.at_:=by omega
  rw [if_pos hlt]
  obtain⟨x,hx⟩:∃ x,ops.getD s.at_ 0=x:=⟨_,rfl⟩
  rw [hx]
  obtain⟨A,hA⟩:∃ A,s.at_+1=A:=⟨_,rfl⟩
  have wa:IntKind.i64.wrap ((s.at_:Int)+1)=(A:Int):=by rw [Zab (by omega) (by omega)];omega
  have wb:IntKind.i64.wrap ((A:Int) - 1)=(s.at_:Int):=by rw [Zab (by omega) (by omega)];omega
  simp [-Int.natCast_add,la,lr,hge,wa]
  generalize hra:Zad _ _ _=ra
  obtain⟨m1,rfl,oA1,kA⟩:=Zdq hra ⟨fam,oA,tA⟩ (by simp) (by simp [Zau])
  simp [Zb1] at oA1
  have hc1:=hc.keep kA Ag.refl (by simp) (by simp)
  obtain⟨oa1,sa1,⟨fr1,oR1,_⟩,hO1,_⟩:=hc1.r
  obtain⟨fam1,oA1',tA1⟩:=oA1
  have la1:=oA1'.load1 (off:=0) rfl
  have lr1:=oR1.load1 (off:=0) rfl
  obtain⟨ob,hob,lo⟩:=hO1.get hlt
  have im:(s.at_:Int)≤9223372036854775807:=by omega
  have il:(s.at_:Int) < ops.length:=by omega
  rw [hx] at lo
  have pk:=Zch (m:=m1) hN.pick x k hk hk2
  simp [-Int.natCast_add,la1,lr1,wb,hob,lo,im,hlt,pk]
  rw [hA]
  obtain⟨va,ba,sa',u1,u2,u3,u4⟩:=h.u
  obtain⟨ka,k1,k2⟩:=h.k
  obtain⟨va',pa,b1,b2,b3⟩:=h.b
  refine⟨⟨⟨va,ba,sa',u1.keep kA Ag.refl (by simp),u2.keep kA Ag.refl (by simp) (by simp),u3.keep kA Ag.refl (by simp) (by simp),u4.keep kA Ag.refl (by simp) (by simp)⟩,⟨ka,k1.keep kA Ag.refl (by simp),k2.keep kA Ag.refl (by simp)⟩,⟨va',pa,b1.keep kA Ag.refl (by simp),b2.keep kA Ag.refl (by simp),Zan b3 kA Ag.refl (by simp)⟩,Or.inr ⟨fam1,oA1',tA1⟩⟩,hc1,kA⟩
 ·have hge:(ops.length:Int)≤(s.at_:Int):=by omega
  have hge':ops.length≤s.at_:=by omega
  rw [if_neg hlt]
  simp [-Int.natCast_add,la,lr,hge]
  exact⟨h,hc,KT.refl⟩
abbrev Zd3 (d:Zb.D):List Int:=d.2.2.2.2.1
theorem Zee {Q:Nat→Prop}{ao:Option Addr}{l:List Int}(h:Zag Q m ao l):AtI Q m (.slice 3 (.int .i64)) l [.slice ao l.length l.length]:=by
 obtain⟨f,hr,hq⟩:=h
 refine⟨ao,l.map fun x=>[Value.int .i64 x],f,rfl,by simp,fun i d c hd hc=>?_,?_,hq⟩
 ·rw [List.getElem?_map,hd] at hc
  simp at hc
  exact hc.symm
 ·have e:(l.map fun x=>[Value.int .i64 x]).flatten=ints l:=by
   clear hr hq
   induction l with
   | nil=>rfl
   | cons a l ih=>simp only [List.map_cons,List.flatten_cons,ih,List.cons_append,List.nil_append]
  rw [e];exact hr
theorem Zic {Q:Nat→Prop}{d:Zb.D}{ao:Option Addr}(h:Zag Q m ao (Zd3 d)):AtI Q m Zb d (Zl4 d ao):=
 ⟨[_],_,rfl,rfl,[_],_,rfl,rfl,[_],_,rfl,rfl,[_],_,rfl,rfl,[_],_,rfl,Zee h,[_],[],rfl,rfl,rfl⟩
def Zbi (d:Zb.D)(s:Us):Us:={ s with vals:=s.vals++[d],bv:=s.bv++[(s.vals.length:Int)] }
set_option maxHeartbeats 1000000 in
theorem Zdw (hN:Nq S)(hT:∀ f,T f≤10)(h:UM T m ub kb bb ab s)(hnv:s.vals.length≤1000)(hbv:s.bv.length≤1000){d:Zb.D}{aa:Option Addr}(hd:Zag (DQ T m) m aa (Zd3 d)) :
  ∃ v m1,Zaq Tryd.prog TT S 19 [.agg (Zl4 d aa).toArray,.pointer (some ⟨ub,0,none⟩),.pointer (some ⟨bb,0,none⟩)] m=some (v,m1)∧v=.int .i64 (s.vals.length:Nat)∧∃ T',UM T' m1 ub kb bb ab (Zbi d s)∧Ag T T' m∧KT T [1,2,7,8] m m1∧∀ f,T' f≤10:=by
 obtain⟨T1,a1,oB,k1,n1,w1⟩:=Znw (m:=m) T 10 (cs:=Zl4 d aa) (e:=43) rfl
 have kt1:KT T [] m (m.new (Zl4 d aa) 43):=KT.of k1
 have h1:=h.keep kt1 a1 (by simp)
 have hd1:=Zan hd kt1 a1 (by simp)
 obtain⟨va,ba,sa,u1,u2,u3,u4⟩:=h1.u
 obtain⟨ka,q1,q2⟩:=h1.k
 obtain⟨va',pa,b1,b2,b3⟩:=h1.b
 have oA:=h1.a
 refine Zho 5 [] k19 hN.f1 rfl ?_
 simp [-Int.natCast_add,-w19_1,Zbw b43]
 generalize m.new _ _=m1 at *
 obtain⟨fu,ou,tu⟩:=u1
 obtain⟨fb,ob,tb⟩:=oB
 have lU:=ou.load1 (off:=2) rfl
 have lB:loadRow m1 ⟨m.next,0,none⟩ 6=_:=ob.load (off:=0) 6 (by simp)
 have ew:Zap (Zl4 d aa) 0 6=Zl4 d aa:=rfl
 rw [ew] at lB
 have hlen:d.2.2.2.2.1.length=(Zd3 d).length:=rfl
 simp [-Int.natCast_add,-w19_2,Za u25 Yag rfl,Zbf u25 Z4e,lU,lB]
 generalize hra:Zal _ _ _ _ _ _=ra
 obtain⟨m2,bv2,T2,rfl,r2,a2,k2,w2⟩:=Ziy.app (c:=Zl4 d aa) u2 (by omega) (Zic hd1) hra u25 Yau (by simp [Zau,Zae]) (by omega) (by omega)
 clear hra
 have u12:Zev T2 1 m2 ub _ _:=Zev.keep ⟨fu,ou,tu⟩ k2 a2 (by simp)
 simp [-Int.natCast_add,-w19_2]
 generalize hrb:Zad _ _ _=rb
 obtain⟨m3,rfl,u13,k3⟩:=Zdq hrb u12 (by simp) (by simp [Zae])
 clear hrb
 simp [Zb1] at u13
 have ek:KT T [1,2,7,8] m m3:=(((kt1.mono (by simp)).trans a1 (k2.mono (by simp))).trans (a1.trans a2 kt1.le) (k3.mono (by simp)))
 have e2:Ag T T2 m:=a1.trans a2 kt1.le
 obtain⟨N,hN1⟩:∃ N,s.vals.length+1=N:=⟨_,rfl⟩
 have r3:=r2.keep k3 Ag.refl (by simp) (by simp)
 have b13:=(b1.keep k2 a2 (by simp)).keep k3 Ag.refl (by simp)
 have b23:=(b2.keep k2 a2 (by simp)).keep k3 Ag.refl (by simp)
 have b33:=Zan (Zan b3 k2 a2 (by simp)) k3 Ag.refl (by simp)
 have q13:=(q1.keep k2 a2 (by simp)).keep k3 Ag.refl (by simp)
 have q23:=(q2.keep k2 a2 (by simp)).keep k3 Ag.refl (by simp)
 have u33:=(u3.keep k2 a2 (by simp) (by simp)).keep k3 Ag.refl (by simp) (by simp)
 have u43:=(u4.keep k2 a2 (by simp) (by simp)).keep k3 Ag.refl (by simp) (by simp)
 have oA3:=(oA.keep k2 a2 (by simp)).keep k3 Ag.refl (by simp)
 obtain⟨fu3,ou3,tu3⟩:=u13
 obtain⟨fb3,ob3,tb3⟩:=b13
 have lU3:=ou3.load1 (off:=2) rfl
 have lB3:=ob3.load1 (off:=0) rfl
 rw [hN1] at lU3
 have wN:IntKind.i64.wrap ((N:Int) - 1)=(s.vals.length:Int):=by rw [Zab (by omega) (by omega)];omega
 simp [-Int.natCast_add,-w19_3,Za u22 bs3 rfl,Zbf u22 sz3,lU3,lB3,wN]
 generalize hra:Zal _ _ _ _ _ _=ra
 obtain⟨m4,bv4,T4,rfl,r4,a4,k4,w4⟩:=Z4o hra u22 ap3 b23 (by omega) (by simp) (by simp [Zau]) (by omega) (by omega)
 clear hra
 have b14:Zev T4 7 m4 bb _ _:=Zev.keep ⟨fb3,ob3,tb3⟩ k4 a4 (by simp)
 simp [-Int.natCast_add,-w19_3]
 generalize hrb:Zad _ _ _=rb
 obtain⟨m5,rfl,b15,k5⟩:=Zdq hrb b14 (by simp) (by simp [Zae])
 clear hrb
 simp [Zb1] at b15
 have u15:Zev T4 1 m5 ub _ _:=(Zev.keep ⟨fu3,ou3,tu3⟩ k4 a4 (by simp)).keep k5 Ag.refl (by simp)
 have u15c:=u15
 obtain⟨fu5,ou5,tu5⟩:=u15
 have lU5:=ou5.load1 (off:=2) rfl
 rw [hN1] at lU5
 simp [-Int.natCast_add,lU5,wN]
 refine⟨T4,⟨⟨some ⟨bv2,0,none⟩,ba,sa,?_,(r3.keep k4 a4 (by simp) (by simp)).keep k5 Ag.refl (by simp) (by simp),(u33.keep k4 a4 (by simp) (by simp)).keep k5 Ag.refl (by simp) (by simp),(u43.keep k4 a4 (by simp) (by simp)).keep k5 Ag.refl (by simp) (by simp)⟩,⟨ka,(q13.keep k4 a4 (by simp)).keep k5 Ag.refl (by simp),(q23.keep k4 a4 (by simp)).keep k5 Ag.refl (by simp)⟩,⟨some ⟨bv4,0,none⟩,pa,?_,?_,Zan (Zan b33 k4 a4 (by simp)) k5 Ag.refl (by simp)⟩,(oA3.keep k4 a4 (by simp)).keep k5 Ag.refl (by simp)⟩,e2.trans a4 ek.le,((ek.trans e2 (k4.mono (by simp))).trans (e2.trans a4 ek.le) (k5.mono (by simp))),fun f=>by have:=hT f;have:=w1 f;have:=w2 f;have:=w4 f;omega⟩
 ·simpa [Zbi] using u15c
 ·simpa [Zbi] using b15
 ·simpa [Zbi] using r4.keep k5 Ag.refl (by simp)
end Go.Proofs.YtcgmchechmbmeaaDoor.base
end
section
set_option maxRecDepth 100000
namespace Go.Proofs.YtcgmchechmbmeaaDoor.base
open Go.Sh gen
variable {S:Zb7}{T T':Tg}{m m1 m2:Mem}{is js:List Nat}{ub kb bb ab rb nx px sx:Nat}{ops sh:List Int}{n:Int}{s:Us}
theorem Z4 {t:Ty}{d:t.D}{cs:List Value}(h:AtI (DQ T m) m t d cs)(r:∀ f,T f≤10→T' f=T f):AtI (DQ T' m) m t d cs:=h.mono (fun f hq=>⟨(r f (by rw [hq.1];omega)).trans hq.1,hq.2⟩)
theorem Zp2 {ao:Option Addr}{l:List Int}(h:Zag (DQ T m) m ao l)(r:∀ f,T f≤10→T' f=T f):Zag (DQ T' m) m ao l:=by
 obtain⟨f,hr,hq⟩:=h
 exact⟨f,hr,fun hz=>⟨(r f (by rw [(hq hz).1];omega)).trans (hq hz).1,(hq hz).2⟩⟩
theorem Zev.ret {b e i:Nat}{cells:List Value}(h:Zev T i m b cells e)(hi:i≤10)(r:∀ f,T f≤10→T' f=T f):Zev T' i m b cells e:=by
 obtain⟨fam,o,rfl⟩:=h
 exact⟨fam,o,r _ hi⟩
theorem SlT.ret {ao:Option Addr}{n e z i:Nat}{cells:List Value}(h:SlT T i m ao n cells e z)(hi:i≤10)(r:∀ f,T f≤10→T' f=T f):SlT T' i m ao n cells e z:=by
 obtain⟨fam,o,ht⟩:=h
 exact⟨fam,o,fun hn=>(r _ (by rw [ht hn];exact hi)).trans (ht hn)⟩
theorem SrT.ret {ao:Option Addr}{n e z i:Nat}{cells:List Value}(h:SrT T i m ao n cells e z)(hi:i≤10)(r:∀ f,T f≤10→T' f=T f):SrT T' i m ao n cells e z:=by
 obtain⟨fam,o,ht⟩:=h
 exact⟨fam,o,fun hn=>(r _ (by rw [ht hn];exact hi)).trans (ht hn)⟩
theorem Ziy.ret {e i:Nat}{t:Ty}{l:List t.D}{ao:Option Addr}(h:Ziy T m e t l ao i)(hi:i≤10)(r:∀ f,T f≤10→T' f=T f):Ziy T' m e t l ao i:=by
 obtain⟨css,h1,h2,h3⟩:=h
 exact⟨css,h1,fun j d c hd hc=>Z4 (h2 j d c hd hc) r,h3.ret hi r⟩
theorem AtT.ret {ab x:Nat}(h:AtT T m ab x)(hi:9≤10)(r:∀ f,T f≤10→T' f=T f):AtT T' m ab x:=h.imp id (fun o=>o.ret hi r)
theorem UM.ret (h:UM T m ub kb bb ab s)(r:∀ f,T f≤10→T' f=T f):UM T' m ub kb bb ab s:=by
 obtain⟨va,ba,sa,u1,u2,u3,u4⟩:=h.u
 obtain⟨ka,k1,k2⟩:=h.k
 obtain⟨va',pa,b1,b2,b3⟩:=h.b
 exact⟨⟨va,ba,sa,u1.ret (by omega) r,u2.ret (by omega) r,u3.ret (by omega) r,u4.ret (by omega) r⟩,⟨ka,k1.ret (by omega) r,k2.ret (by omega) r⟩,⟨va',pa,b1.ret (by omega) r,b2.ret (by omega) r,Zp2 b3 r⟩,h.a.ret (by omega) r⟩
theorem UC.ret (h:UC T m ub kb bb ab rb nx px sx ops sh n)(r:∀ f,T f≤10→T' f=T f):UC T' m ub kb bb ab rb nx px sx ops sh n:=by
 obtain⟨oa,sa,r1,r2,r3⟩:=h.r
 exact⟨⟨oa,sa,r1.ret (by omega) r,Zp2 r2 r,Zp2 r3 r⟩,h.cn.ret (by omega) r,h.cp.ret (by omega) r,h.cs.ret (by omega) r,h.z⟩
theorem Zdl (f:FuncId)(b:Array Value)(h:eqA b b=true):eqV (.func (.func f) #[] b) (.func (.func f) #[] b)=true:=by simp [eqV,h,eqA,eqL]
theorem Zpt (a b:Option Addr):eqA #[.pointer a,.pointer b] #[.pointer a,.pointer b]=true:=by simp [eqV,eqA,eqL]
theorem Z9d (a b c:Option Addr):eqA #[.pointer a,.pointer b,.pointer c] #[.pointer a,.pointer b,.pointer c]=true:=by simp [eqV,eqA,eqL]
def Zbc (ops:List Int)(s:Us):Us × Int:=((Zar ops (s.known.length:Nat) s).1,s.known.getD (Zar ops (s.known.length:Nat) s).2.toNat 0)
def Zfs (ops:List Int):Nat→Us→List Int→Us × List Int
 | 0,s,l=>(s,l)
 | k+1,s,l=>Zfs ops k (Zbc ops s).1 (l++[(Zbc ops s).2])
def Zcw (s:Us):Int:=s.known.getD (s.known.length - 1) 0
def Zac (ops:List Int)(s:Us):Us × Int:=
 let q:=Zar ops 4 s
 let r:=Zfs ops q.2.toNat q.1 []
 ({ r.1 with sts:=r.1.sts++[([((1:Int),(s.sts.length:Int),r.2,[Zcw s],())],())] },(s.sts.length:Nat))
theorem Za6 (k:Int):(Zar ops k s).1.known=s.known∧(Zar ops k s).1.sts=s.sts∧(Zar ops k s).1.vals=s.vals∧(Zar ops k s).1.bv=s.bv∧(Zar ops k s).1.blks=s.blks∧(Zar ops k s).1.bp=s.bp:=by
 obtain⟨a,e⟩:=Zhg ops k s
 rw [e];exact⟨rfl,rfl,rfl,rfl,rfl,rfl⟩
theorem Zpc (k:Int)(h:s.at_≤ops.length):(Zar ops k s).1.at_≤ops.length:=by
 unfold Zar
 split
 ·simp only;omega
 ·exact h
theorem UM.known (h:UM T m ub kb bb ab s){j:Nat}(hj:j < s.known.length):∃ ka kv,loadRow m ⟨kb,0,none⟩ 1=some [.slice ka s.known.length s.known.length]∧ka=some ⟨kv,0,none⟩∧loadRow m ⟨kv,j,none⟩ 1=some [.int .i64 (s.known.getD j 0)]:=by
 obtain⟨ka,⟨f5,k1,_⟩,⟨f6,k2,_⟩⟩:=h.k
 obtain⟨kv,rest,e,o⟩:=k2.own (by omega)
 refine⟨ka,kv,k1.load1 (off:=0) rfl,e,o.load1 ?_⟩
 rw [List.getElem?_append_left (by simpa using hj)]
 simp [hj]
theorem UM.known2 (h:UM T m ub kb bb ab s)(k:KT T is m m1)(h5:5∉is)(h6:6∉is){j:Nat}(hj:j < s.known.length):∃ kv,loadRow m ⟨kb,0,none⟩ 1=some [.slice (some ⟨kv,0,none⟩) s.known.length s.known.length]∧loadRow m1 ⟨kb,0,none⟩ 1=some [.slice (some ⟨kv,0,none⟩) s.known.length s.known.length]∧loadRow m ⟨kv,j,none⟩ 1=some [.int .i64 (s.known.getD j 0)]∧loadRow m1 ⟨kv,j,none⟩ 1=some [.int .i64 (s.known.getD j 0)]:=by
 obtain⟨ka,k1,k2⟩:=h.k
 obtain⟨f5,o5,_⟩:=k1
 obtain⟨f6,o6,t6⟩:=k2
 obtain⟨f5',o5',_⟩:=Zev.keep ⟨f5,o5,by assumption⟩ k Ag.refl h5
 obtain⟨fs,kk,hf⟩:=k
 have hne:ka≠none:=by
  obtain⟨kv,_,e,_⟩:=o6.own (by omega)
  rw [e];simp
 obtain⟨kv,rest,rfl,o⟩:=o6.own (by omega)
 have o':=o.keep kk (fun hm=>h6 (by rw [← t6 hne];exact hf _ hm o.flt))
 have e:(ints s.known++rest)[j]?=some (.int .i64 (s.known.getD j 0)):=by
  rw [List.getElem?_append_left (by simpa using hj)]
  simp [hj]
 exact⟨kv,o5.load1 (off:=0) rfl,o5'.load1 (off:=0) rfl,o.load1 e,o'.load1 e⟩
set_option maxHeartbeats 2000000 in
theorem Zkp (hN:Nq S)(hT:∀ f,T f≤10)(h:UM T m ub kb bb ab s)(hc:UC T m ub kb bb ab rb nx px sx ops sh n)(hat:s.at_≤ops.length)(hol:ops.length≤9223372036854775807)(hkn:1≤s.known.length∧s.known.length≤1000)(hst:s.sts.length≤1000) :
  ∃ v m1,Zaq Tryd.prog TT S 21 [.pointer (some ⟨ub,0,none⟩),.pointer (some ⟨nx,0,none⟩),.pointer (some ⟨kb,0,none⟩)] m=some (v,m1)∧v=.int .i64 (Zac ops s).2∧∃ T',UM T' m1 ub kb bb ab (Zac ops s).1∧UC T' m1 ub kb bb ab rb nx px sx ops sh n∧Ag T T' m∧KT T [1,4,9,11,12] m m1∧∀ f,T' f≤10:=by
 obtain⟨va,ba,sa,⟨f1,u1,t1⟩,_,_,_⟩:=h.u
 have lu:=u1.load1 (off:=4) rfl
 have wst:IntKind.i64.wrap (s.sts.length:Int)=s.sts.length:=Zab (by omega) (by omega)
 obtain⟨T1,a1,oF,k1,n1,_⟩:=Znw (m:=m) T 11 (cs:=[.int .i64 0,.int .i64 0,.slice none 0 0,.slice none 0 0]) (e:=52) rfl
 have h1:=h.keep (KT.of (is:=[]) k1) a1 (by simp)
 have hc1:=hc.keep (KT.of (is:=[]) k1) a1 (by simp) (by simp)
 refine Zho 6 [13] k21 hN.f3 rfl ?_
 simp [-Int.natCast_add,-w21_2,Za2 Ybh,lu]
 obtain⟨fb,hfb⟩:∃ fb,m.next=fb:=⟨_,rfl⟩
 rw [hfb] at oF
 generalize m.new _ _=m1 at *
 generalize hra:Zad _ _ _=ra
 obtain⟨m2,rfl,oF2,k2⟩:=Zdq hra (by rw [hfb];exact oF) (by simp) (by simp [Zau,Zae])
 clear hra
 simp [Zb1] at oF2
 rw [hfb] at oF2
 have h2:=h1.keep k2 Ag.refl (by simp)
 have hc2:=hc1.keep k2 Ag.refl (by simp) (by simp)
 obtain⟨fn,on,tn⟩:=hc2.cn
 have ln:=on.load1 (off:=0) rfl
 obtain⟨v3,m3,c3,rfl,h3,hc3,k3⟩:=Zex hN h2 hc2 hat hol (k:=4) (by omega) (by omega)
 simp [-Int.natCast_add,-w21_3,ln,c3]
 rw [hfb]
 have q0:=Zcg (ops:=ops) (s:=s) (k:=4) (by omega)
 obtain⟨q1,q2,q3,q4,q5,q6⟩:=Za6 (ops:=ops) (s:=s) 4
 have q7:=Zpc (k:=4) hat
 obtain⟨qn,hqn⟩:∃ qn:Nat,(Zar ops 4 s).2=qn:=⟨(Zar ops 4 s).2.toNat,by omega⟩
 have hqt:(Zar ops 4 s).2.toNat=qn:=by omega
 have eS:Zac ops s=({ (Zfs ops qn (Zar ops 4 s).1 []).1 with sts:=(Zfs ops qn (Zar ops 4 s).1 []).1.sts++[([((1:Int),(s.sts.length:Int),(Zfs ops qn (Zar ops 4 s).1 []).2,[Zcw s],())],())] },((s.sts.length:Nat):Int)):=by unfold Zac;simp only [hqt]
 rw [eS,hqn]
 have oF3:=oF2.keep k3 Ag.refl (by simp)
 have kk3:KT T [9,11,12] m m3:=((KT.of (is:=[9,11,12]) k1).trans a1 (k2.mono (by simp))).trans (a1.trans Ag.refl (KT.of (is:=[]) (T:=T) k1).le) (k3.mono (by simp))
 obtain⟨R,hR⟩:∃ R,Zfs ops qn (Zar ops 4 s).1 []=R:=⟨_,rfl⟩
 rw [hR]
 refine Zah 6 [13] (fun d E mG=>∃ (k:Nat) (s':Us) (locs:List Int) (T':Tg) (la:Option Addr),k=d∧UM T' mG ub kb bb ab s'∧UC T' mG ub kb bb ab rb nx px sx ops sh n∧Zev T' 11 mG fb [.int .i64 1,.int .i64 (s.sts.length:Nat),.slice la locs.length locs.length,.slice none 0 0] 52∧SlT T' 12 mG la locs.length (ints locs) 3 1∧Ag T T' m∧KT T [9,11,12] m mG∧Zfs ops k s' locs=R∧s'.known=s.known∧s'.sts=s.sts∧s'.at_≤ops.length∧locs.length+k≤3∧
  E=[(0,.pointer (some ⟨ub,0,none⟩)),(1,.pointer (some ⟨nx,0,none⟩)),(2,.pointer (some ⟨kb,0,none⟩)),(4,.pointer (some ⟨fb,0,none⟩)),(5,.int .i64 (k:Int))]) _ ⟨_,⟨qn,(Zar ops 4 s).1,[],T1,none,rfl,h3,hc3,oF3,⟨0,Sl.nil _ _ _ _,by simp⟩,a1,kk3,hR,q1,q2,q7,by simp;omega,rfl⟩,(by repeat' constructor)⟩ ?_
 clear h1 hc1 h2 hc2 h3 hc3 oF oF2 oF3 k2 k3 kk3 c3 ln on tn
 clear fn
 rintro d E mG ih ⟨k,s',locs,T',la,rfl,hU,hC,oG,sG,aG,kG,hL,ek,es,eat,hlk,rfl⟩
 have km:(k:Int)≤9223372036854775807:=by omega
 obtain⟨fG,oGo,tG⟩:=oG
 have lf:=oGo.load1 (off:=2) rfl
 by_cases hk0:k=0
 ·subst hk0
  clear ih
  rw [Zfs] at hL
  simp [-Int.natCast_add,-w21_6]
  obtain⟨va',ba',sa',v1,v2,v3,v4⟩:=hU.u
  obtain⟨kv,lk,_,lx,_⟩:=hU.known2 (KT.refl (is:=[])) (by simp) (by simp) (j:=s'.known.length - 1) (by rw [ek];omega)
  obtain⟨L1,hL1⟩:∃ L1,s'.known.length - 1=L1:=⟨_,rfl⟩
  have hks:s'.known.length=L1+1:=by rw [ek] at hL1 ⊢;omega
  have hL1n:L1≤1000:=by rw [ek] at hks;omega
  rw [hL1] at lx
  have wl:IntKind.i64.wrap ((s'.known.length:Int) - 1)=(L1:Int):=by rw [Zab (by omega) (by omega)];omega
  have l1:(L1:Int)≤9223372036854775807:=by omega
  have l2:L1 < s'.known.length:=by omega
  have l3:(L1:Int) < s'.known.length:=by omega
  have elast:s'.known.getD L1 0=Zcw s:=by rw [ek] at hL1 ⊢;rw [Zcw,hL1]
  rw [elast] at lx
  obtain⟨y,hy⟩:∃ y,Zcw s=y:=⟨_,rfl⟩
  rw [hy] at lx ⊢
  simp [-Int.natCast_add,-w21_7,Za u22 bs3 rfl,lk,wl,l1,l2,lx]
  obtain⟨T5,a5,o5,k5,n5,_⟩:=Znw (m:=mG) T' 0 (cs:=[.int .i64 y]) (e:=3) rfl
  obtain⟨yb,hyb⟩:∃ yb,mG.next=yb:=⟨_,rfl⟩
  rw [hyb] at o5 ⊢
  have kt5:KT T' [] mG (mG.new [.int .i64 y] 3):=KT.of k5
  generalize mG.new _ _=m5 at *
  have oF5:Zev T5 11 m5 fb _ _:=Zev.keep ⟨fG,oGo,tG⟩ kt5 a5 (by simp)
  generalize hrc:Zad _ _ _=rc
  obtain⟨m6,rfl,oF6,k6⟩:=Zdq hrc oF5 (by simp) (by simp [Zae])
  clear hrc
  simp [Zb1] at oF6
  have kg6:KT T' [11] mG m6:=(kt5.mono (by simp)).trans a5 k6
  have ag6:Ag T' T5 mG:=a5
  have aG5:Ag T T5 m:=aG.trans a5 kG.le
  have kG6:KT T [9,11,12] m m6:=kG.trans aG (kg6.mono (by simp))
  obtain⟨T6,hT6⟩:∃ T6:Tg,T6=fun f=>if T5 f≤10 then T5 f else 0:=⟨_,rfl⟩
  have ret:∀ f,T5 f≤10→T6 f=T5 f:=fun f hf=>by rw [hT6];exact if_pos hf
  have ret0:∀ f,¬ T5 f≤10→T6 f=0:=fun f hf=>by rw [hT6];exact if_neg hf
  have aG6:Ag T T6 m:=fun f hf=>by rw [← aG5 f hf];exact ret f (by rw [aG5 f hf];exact hT f)
  have hU6:UM T6 m6 ub kb bb ab s':=((hU.keep kt5 a5 (by simp)).keep k6 Ag.refl (by simp)).ret ret
  have hC6:UC T6 m6 ub kb bb ab rb nx px sx ops sh n:=((hC.keep kt5 a5 (by simp) (by simp)).keep k6 Ag.refl (by simp) (by simp)).ret ret
  have s6:=(sG.keep kt5 a5 (by simp)).keep k6 Ag.refl (by simp)
  have y6:=(o5.keep k6 Ag.refl (by simp)).ret (by omega) ret
  have dl:Zag (DQ T6 m6) m6 la locs:=by
   obtain⟨lf',sl,tl⟩:=s6
   refine⟨lf',Zpg sl.rs,fun hz=>?_⟩
   have hne:la≠none:=by
    obtain⟨_,e,_⟩:=sl.own hz
    rw [e];simp
   exact⟨ret0 _ (by rw [tl hne];omega),sl.sr.flt hne⟩
  have dy:Zag (DQ T6 m6) m6 (some ⟨yb,0,none⟩) [y]:=by
   obtain⟨yf,yo,yt⟩:=y6
   exact⟨yf,Zpg ⟨by simp,Or.inr ⟨yb,rfl,yo.rdo⟩⟩,fun _=>⟨yt,yo.flt⟩⟩
  obtain⟨fF,oFo,_⟩:=oF6
  obtain⟨va6,ba6,sa6,w1,w2,w3,w4⟩:=hU6.u
  obtain⟨ka6,q61,q62⟩:=hU6.k
  obtain⟨vb6,pb6,b61,b62,b63⟩:=hU6.b
  obtain⟨fu6,ou6,tu6⟩:=w1
  have lU6:=ou6.load1 (off:=4) rfl
  have lF6:loadRow m6 ⟨fb,0,none⟩ 4=_:=oFo.load (off:=0) 4 (by simp)
  simp only [Zap,List.drop_zero,List.take_succ_cons,List.take_zero] at lF6
  simp [-Int.natCast_add,-w21_8,Za u39 Yaq rfl,Za2 Ybr,Za u27 Yat rfl,Zbf u27 Z80,lU6,lF6]
  obtain⟨T7,a7,o7,k7,n7,t7⟩:=Znw (m:=m6) T6 0 (cs:=[.int .i64 1,.int .i64 (s.sts.length:Nat),.slice la locs.length locs.length,.slice (some ⟨yb,0,none⟩) 1 1]) (e:=52) rfl
  have kt7:KT T6 [] m6 (m6.new [.int .i64 1,.int .i64 (s.sts.length:Nat),.slice la locs.length locs.length,.slice (some ⟨yb,0,none⟩) 1 1] 52):=KT.of k7
  generalize hm7:m6.new _ _=m7 at *
  generalize hrc:Zal _ _ _ _ _ _=rc
  have dl7:=Zee (Zan dl kt7 a7 (by simp))
  have dy7:=Zee (Zan dy kt7 a7 (by simp))
  obtain⟨f7,o7o,t7o⟩:=o7
  have dS:AtI (DQ T7 m7) m7 StT ([((1:Int),(s.sts.length:Int),locs,[y],())],()) [.slice (some ⟨m6.next,0,none⟩) 1 1]:=by
   refine⟨[_],[],rfl,⟨some ⟨m6.next,0,none⟩,[[.int .i64 1,.int .i64 (s.sts.length:Nat),.slice la locs.length locs.length,.slice (some ⟨yb,0,none⟩) 1 1]],f7,rfl,rfl,fun i d c hd hc=>?_,RsT.of ⟨rfl,Or.inr ⟨_,rfl,o7o.rdo⟩⟩,fun _=>⟨t7o,o7o.flt⟩⟩,rfl⟩
   cases i with
   | zero =>
    simp at hd hc
    subst hd hc
    exact⟨[_],_,rfl,rfl,[_],_,rfl,rfl,[_],_,rfl,dl7,[_],[],rfl,dy7,rfl⟩
   | succ i=>simp at hd
  have w47:=w4.keep kt7 a7 (by simp) (by simp)
  obtain⟨m8,b8,T8,rfl,r8,a8,k8,t8⟩:=Ziy.app (c:=[.slice (some ⟨m6.next,0,none⟩) 1 1]) w47 (by omega) dS hrc u27 Yan (by simp [Zae]) (by rw [es];omega) (by rw [es];omega)
  clear hrc
  have u8:Zev T8 1 m8 ub _ _:=(Zev.keep ⟨fu6,ou6,tu6⟩ kt7 a7 (by simp)).keep k8 a8 (by simp)
  simp [-Int.natCast_add,-w21_8]
  generalize hrd:Zad _ _ _=rd
  obtain⟨m9,rfl,u9,k9⟩:=Zdq hrd u8 (by simp) (by simp [Zae])
  clear hrd
  simp [Zb1] at u9
  have u9c:=u9
  obtain⟨fu9,ou9,tu9⟩:=u9
  have lU9:=ou9.load1 (off:=4) rfl
  obtain⟨N,hN1⟩:∃ N,s'.sts.length+1=N:=⟨_,rfl⟩
  rw [hN1] at lU9
  have wN:IntKind.i64.wrap ((N:Int) - 1)=(s.sts.length:Int):=by rw [Zab (by rw [es] at hN1;omega) (by rw [es] at hN1;omega)];rw [es] at hN1;omega
  simp [-Int.natCast_add,lU9,wN]
  have hL':R=(s',locs):=hL.symm
  rw [hL']
  have kS:KT T [1,4,9,11,12] m m9:=(((kG6.mono (by simp)).trans aG6 (kt7.mono (by simp))).trans (aG6.trans a7 kG6.le) (k8.mono (by simp))).trans ((aG6.trans a7 kG6.le).trans a8 (by have:=kG6.le;have:=kt7.le;omega)) (k9.mono (by simp))
  refine⟨T8,⟨⟨va6,ba6,some ⟨b8,0,none⟩,?_,((w2.keep kt7 a7 (by simp) (by simp)).keep k8 a8 (by simp) (by simp)).keep k9 Ag.refl (by simp) (by simp),((w3.keep kt7 a7 (by simp) (by simp)).keep k8 a8 (by simp) (by simp)).keep k9 Ag.refl (by simp) (by simp),r8.keep k9 Ag.refl (by simp) (by simp)⟩,⟨ka6,((q61.keep kt7 a7 (by simp)).keep k8 a8 (by simp)).keep k9 Ag.refl (by simp),((q62.keep kt7 a7 (by simp)).keep k8 a8 (by simp)).keep k9 Ag.refl (by simp)⟩,⟨vb6,pb6,((b61.keep kt7 a7 (by simp)).keep k8 a8 (by simp)).keep k9 Ag.refl (by simp),((b62.keep kt7 a7 (by simp)).keep k8 a8 (by simp)).keep k9 Ag.refl (by simp),Zan (Zan (Zan b63 kt7 a7 (by simp)) k8 a8 (by simp)) k9 Ag.refl (by simp)⟩,((hU6.a.keep kt7 a7 (by simp)).keep k8 a8 (by simp)).keep k9 Ag.refl (by simp)⟩,((hC6.keep kt7 a7 (by simp) (by simp)).keep k8 a8 (by simp) (by simp)).keep k9 Ag.refl (by simp) (by simp),(aG6.trans a7 kG6.le).trans a8 (by have:=kG6.le;have:=kt7.le;omega),kS,fun f=>?_⟩
  ·simpa using u9c
  ·have h6:T6 f≤10:=by
    by_cases hf:T5 f≤10
    ·rw [ret f hf];exact hf
    ·rw [ret0 f hf];omega
   have:=t7 f
   have:=t8 f
   omega
 ·have hk1:0 < k:=by omega
  have hk1':0 < (k:Int):=by omega
  obtain⟨j,hj⟩:∃ j,j+1=k:=⟨k - 1,by omega⟩
  have wk:IntKind.i64.wrap ((k:Int) - 1)=(j:Int):=by rw [Zab (by omega) (by omega)];omega
  obtain⟨fn,on,tn⟩:=hC.cn
  have ln:=on.load1 (off:=0) rfl
  rw [← ek] at hkn
  obtain⟨v4,m4,c4,rfl,hU4,hC4,k4⟩:=Zex hN hU hC eat hol (k:=(s'.known.length:Nat)) (by omega) (by omega)
  have z0:=Zcg (ops:=ops) (s:=s') (k:=(s'.known.length:Nat)) (by omega)
  obtain⟨z1,z2,z3,z4,z5,z6⟩:=Za6 (ops:=ops) (s:=s') (s'.known.length:Nat)
  have z7:=Zpc (k:=(s'.known.length:Nat)) eat
  obtain⟨x,hx⟩:∃ x:Nat,(Zar ops (s'.known.length:Nat) s').2=x:=⟨(Zar ops (s'.known.length:Nat) s').2.toNat,by omega⟩
  have hxl:x < s'.known.length:=by omega
  obtain⟨kv,lk,lk4,_,lx⟩:=hU.known2 k4 (by simp) (by simp) hxl
  rw [hx] at c4
  have oG4:Zev T' 11 m4 fb _ _:=Zev.keep ⟨fG,oGo,tG⟩ k4 Ag.refl (by simp)
  have sG4:=sG.keep k4 Ag.refl (by simp)
  obtain⟨fG4,oG4o,tG4⟩:=oG4
  have lf4:=oG4o.load1 (off:=2) rfl
  have lf4n:=(oG4o.ln [.int .i64 (s'.known.getD x 0)] 3 2 1).trans lf4
  have hxi:(x:Int)≤9223372036854775807:=by omega
  have hxl':(x:Int) < s'.known.length:=by omega
  have eA:Zbc ops s'=((Zar ops (s'.known.length:Nat) s').1,s'.known.getD x 0):=by unfold Zbc;rw [hx];rfl
  obtain⟨y,hy⟩:∃ y,s'.known.getD x 0=y:=⟨_,rfl⟩
  rw [hy] at lx eA lf4n
  rw [← hj,Zfs,eA] at hL
  simp [-Int.natCast_add,-w21_6,Za u22 bs3 rfl,Zbf u22 sz3,hk1,lf,lk,ln,c4,hxi,hxl,lx]
  generalize hrc:Zal _ _ _ _ _ _=rc
  obtain⟨m5,b5,T5,rfl,s5,a5,k5,_⟩:=Z4o hrc u22 ap3 sG4 (by omega) (by simp) (by simp [Zau]) (by omega) (by omega)
  clear hrc
  have oG5:Zev T5 11 m5 fb _ _:=Zev.keep ⟨fG4,oG4o,tG4⟩ k5 a5 (by simp)
  simp [-Int.natCast_add,-w21_6]
  generalize hrd:Zad _ _ _=rd
  obtain⟨m6,rfl,oG6,k6⟩:=Zdq hrd oG5 (by simp) (by simp [Zae])
  clear hrd
  simp [Zb1] at oG6
  simp [-Int.natCast_add,-w21_6,Zdl _ _ (Zpt _ _),lf,lf4,lf4n,lk,lk4,ln,lx,wk]
  have aG5:Ag T T5 m:=aG.trans (Ag.trans Ag.refl a5 k4.le) kG.le
  refine ih _ [(0,.pointer (some ⟨ub,0,none⟩)),(1,.pointer (some ⟨nx,0,none⟩)),(2,.pointer (some ⟨kb,0,none⟩)),(4,.pointer (some ⟨fb,0,none⟩)),(5,.int .i64 (j:Int))] _ _ ⟨j,(Zar ops (s'.known.length:Nat) s').1,locs++[y],T5,some ⟨b5,0,none⟩,rfl,(hU4.keep (is:=[12]) (k5.mono (by simp)) a5 (by simp)).keep (is:=[11]) k6 Ag.refl (by simp),(hC4.keep k5 a5 (by simp) (by simp)).keep k6 Ag.refl (by simp) (by simp),by simpa using oG6,by simpa using s5.keep k6 Ag.refl (by simp),aG5,?_,hL,z1.trans ek,z2.trans es,z7,by simp;omega,rfl⟩ (by omega) (by repeat' constructor)
  exact ((kG.trans aG (k4.mono (by simp))).trans (aG.trans Ag.refl kG.le) (k5.mono (by simp))).trans aG5 (k6.mono (by simp))
end Go.Proofs.YtcgmchechmbmeaaDoor.base
end
