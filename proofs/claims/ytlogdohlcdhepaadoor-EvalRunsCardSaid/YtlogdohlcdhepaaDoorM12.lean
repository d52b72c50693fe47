/- This text proves, in plain Lean, that a unit that ssa.Check takes is one that eval.Run can run. No condition. -/
import Derived.Test.YtlogdohlcdhepaaDoorM11
set_option linter.unusedVariables false
set_option linter.unusedSimpArgs false
section
set_option maxRecDepth 100000
namespace Go.Proofs.YtlogdohlcdhepaaDoor.base
open Go.Sh gen
theorem Zn0 {u:UnT.D}{b:Nat}{l:List Int}{k:Nat}{s s':StS}(h:Zek u b k l s=some s'):s'.2.2.2=s.2.2.2+l.length:=by
 induction l generalizing k s with
 | nil=>rw [Zek,Option.some.injEq] at h;rw [← h];rfl
 | cons v r ih =>
  rw [Zek] at h
  cases hv:Zgd u b k s v with
  | none=>rw [hv] at h;cases h
  | some s1 =>
   rw [hv,Option.bind_some] at h
   obtain⟨n,_,_,_,e,_⟩:=Zg3 hv
   rw [ih h,e,List.length_cons]
   dsimp only
   omega
theorem Zwh {u:UnT.D}{bs:List Zfk.D}{b:Nat}{s s':StS}(h:Zdl u b bs s=some s'):∀ x∈bs,s.2.2.2+List.length x.1≤s'.2.2.2:=by
 induction bs generalizing b s with
 | nil=>intro x hx;simp at hx
 | cons y r ih =>
  rw [Zdl] at h
  cases hv:Zek u b 0 y.1 (s.1,s.2.1,true,s.2.2.2) with
  | none=>rw [hv] at h;cases h
  | some s1 =>
   rw [hv,Option.bind_some] at h
   have h1:=Zn0 hv
   dsimp only at h1
   intro x hx
   rcases List.mem_cons.1 hx with rfl | hx
   ·have h2:s1.2.2.2≤s'.2.2.2:=by
     have key:∀ (r:List Zfk.D) (b:Nat) (s1:StS),Zdl u b r s1=some s'→s1.2.2.2≤s'.2.2.2:=by
      intro r
      induction r with
      | nil=>intro b s1 h;rw [Zdl,Option.some.injEq] at h;rw [h];exact Nat.le_refl _
      | cons z r ih =>
       intro b s1 h
       rw [Zdl] at h
       cases hv:Zek u b 0 z.1 (s1.1,s1.2.1,true,s1.2.2.2) with
       | none=>rw [hv] at h;cases h
       | some s2 =>
        rw [hv,Option.bind_some] at h
        have h3:=Zn0 hv
        have:=ih _ _ h
        dsimp only at h3
        omega
     exact key r _ _ h
    have e:List.length (show List Int from x.1)=List.length x.1:=rfl
    omega
   ·have:=ih h x hx
    omega
theorem Zvd {u:UnT.D}{s:StS}(h:Zdm u=some s){i:Nat}(hi:i < nb u):(vlD u i).length≤nv u:=by
 unfold Zdm at h
 cases hB:Zdl u 0 u.2.2.2.1 (List.replicate (nv u) (-1),List.replicate (nv u) 0,true,0) with
 | none=>rw [hB] at h;cases h
 | some s1 =>
  rw [hB] at h
  have h2:=(Option.filter_eq_some_iff.1 h).2
  have h3:=Zwh hB (Zbt u i) (Zjr hi)
  have h4:s1.2.2.2=nv u:=by
   have:=(Option.filter_eq_some_iff.1 h).1
   simp only [Option.some.injEq] at this
   rw [this];simpa using h2
  have e:(vlD u i).length=List.length (Zbt u i).1:=rfl
  dsimp only at h3
  omega
theorem Z89 {u:UnT.D}(hz:Ztn u)(hsb:Zis u=true)(hst:Zv0 u=true){s:StS}(hs:Zdm u=some s)(hv:Zr8 u s.1=true)(he:Zrf u=true)(hl:Zp0 u=true)(hn0:0 < nv u)
  (hN:∀ x∈u.2.2.1,-9223372036854775808≤(show Int from x.2.2.2.1)∧(show Int from x.2.2.2.1)≤9223372036854775807):UOk u:=by
 have hsz:=Zqe hsb
 have hS:=Zho hs
 have hnx:=Zl1 he
 have hT:=Zyc hz hsb hst hs hv he hl
 have hvv:∀ n < nv u,Zwy u s.1 n=true:=Zfp.1 hv
 have hprd:∀ i < nb u,prD u i=(Zaw u).getD i []:=fun i hi=>((Zz4 hl hsz.2.2.2 i hi).1).symm
 have hprl:∀ i < nb u,(prD u i).length≤1000000:=fun i hi=>by rw [hprd i hi];exact Zkd hnx (by omega) i
 have hmem:∀ x∈u.2.2.1,∃ n < nv u,Za1 u (n:Nat)=x:=by
  intro x hx
  obtain⟨n,hn,rfl⟩:=List.mem_iff_getElem.1 hx
  exact⟨n,hn,Zeg hn⟩
 have Zgm:∀ n < nv u,Zvj (Za1 u (n:Nat)).1=true∧Zcf u (Zcc (Za1 u (n:Nat)))=true∧((Za1 u (n:Nat)).1=20→List.length (Za1 u (n:Nat)).2.2.2.2.1=1)∧((Za1 u (n:Nat)).1=1→(0:Int)≤(Za1 u (n:Nat)).2.2.2.1∧(show Int from (Za1 u (n:Nat)).2.2.2.1) < 40):=by
  intro n hn
  have:=hvv n hn
  unfold Zwy at this
  rw [Bool.and_eq_true,Bool.and_eq_true,Bool.and_eq_true] at this
  obtain⟨⟨⟨h1,h2⟩,_⟩,h4⟩:=this
  refine⟨h1,h2,fun e=>?_,fun e=>?_⟩
  ·rw [if_pos e] at h4;exact of_decide_eq_true h4
  ·rw [if_neg (by rw [e];decide),if_neg (by rw [e];decide),if_pos e] at h4
   rw [Bool.and_eq_true,Bool.and_eq_true] at h4
   exact⟨of_decide_eq_true h4.1.1,of_decide_eq_true h4.1.2⟩
 refine⟨⟨hn0,by omega⟩,⟨hsz.2.2.2,by omega⟩,by omega,fun i hi=>?_,fun x hx h1 h21=>?_,fun x hx h1=>?_,fun x hx h22=>?_,fun x hx h=>?_,fun st hst'=>?_⟩
 ·obtain⟨e1,e2⟩:=Zji (Zfp.1 he i hi)
  have hnl:=(Zx4 hnx hi).1
  have hvl:=Zvd hs hi
  refine⟨?_,(hT.bv i hi).2,hT.os i hi,hT.cd i hi,⟨?_,hprl i hi⟩,fun h3=>?_,fun t ht=>?_⟩
  ·have e:(vlD u i).length=List.length (Zbt u i).1:=rfl
   omega
  ·have e:(nxD u i).length=List.length (Zbt u i).2.2.2.1:=rfl
   omega
  ·rcases e2 with⟨g1,g2⟩ | ⟨g1,g2,_⟩ | ⟨g1,_⟩
   ·rw [if_neg (by rw [g1];decide),g2];decide
   ·rw [if_pos g1,g2];decide
   ·exact absurd g1 h3
  ·have htr:=e1 t ht
   obtain⟨q,rfl⟩:∃ q:Nat,t=(q:Int):=⟨t.toNat,by omega⟩
   have hq:q < nb u:=by omega
   rw [Int.toNat_natCast]
   have hin:(i:Int)∈prD u q:=by rw [hprd q hq];exact (Zic hnx hq).2 ⟨hi,ht⟩
   have hne:prD u q≠[]:=fun e=>by rw [e] at hin;cases hin
   refine⟨htr.1,htr.2,hne,fun v hv' h21=>?_⟩
   have hvr:=(hT.bv q hq).2 v hv'
   have hlen:=hT.ph q hq v hv' h21
   obtain⟨n,rfl⟩:∃ n:Nat,v=(n:Int):=⟨v.toNat,by omega⟩
   have hn:n < nv u:=by omega
   have hidx:Zh3 (prD u q) (i:Int) < (prD u q).length:=by
    have:=Z4m (l:=prD u q) (f:=(i:Int)) hne
    exact this
   have hle:=hprl q hq
   have hall:=hT.us n hn
   have e1:(show List Int from (Za1 u (n:Int)).2.2.2.2.1).length=List.length (Za1 u (n:Int)).2.2.2.2.1:=rfl
   have hia:Zh3 (prD u q) (i:Int) < (show List Int from (Za1 u (n:Int)).2.2.2.2.1).length:=by omega
   have hz2:=hall _ (by
    unfold Zcc
    rw [Zi2,h21]
    exact List.mem_append_right _ (by simpa using Zas hia))
   exact⟨by rw [hlen];exact hidx,by omega,hz2.1,hz2.2⟩
 ·obtain⟨n,hn,rfl⟩:=hmem x hx
  obtain⟨g1,g2,g3,_⟩:=Zgm n hn
  unfold Zvj at g1
  rw [Bool.and_eq_true] at g1
  have o1:=of_decide_eq_true g1.1
  have o2:=of_decide_eq_true g1.2
  have hal:=hT.al n hn
  have hul:=Zl5 (Za1 u (n:Nat)).1 (Za1 u (n:Nat)).2.1 (Za1 u (n:Nat)).2.2.1 (Za1 u (n:Nat)).2.2.2.2.1
  have hul2:(Zcc (Za1 u (n:Nat))).length≤List.length (Za1 u (n:Nat)).2.2.2.2.1+2:=hul
  have key:∀ o:Int,1≤o→o≠1→2≤o:=fun o a b=>by omega
  exact⟨⟨key _ o1 h1,o2,h21⟩,hN _ hx,hal,fun e=>by rw [g3 e];omega,Zgj g2,by omega⟩
 ·obtain⟨n,hn,rfl⟩:=hmem x hx
  have:=(Zgm n hn).2.2.2 h1
  exact⟨this.1,by have:=this.2;exact Int.le_trans (Int.le_of_lt this) (by decide)⟩
 ·obtain⟨n,hn,rfl⟩:=hmem x hx
  exact hT.us n hn _ (by unfold Zcc;rw [Zi2,h22];simp [Zb5,Zc5,Zgb])
 ·obtain⟨n,hn,rfl⟩:=hmem x hx
  exact hT.lv n hn (by unfold lvs;rcases h with h | h <;> simp [h])
 ·have:=hT.st st hst'
  rw [Zhc hst'] at this
  refine⟨by have:=this.1;omega,fun f hf=>?_⟩
  obtain⟨g1,g2,g3,g4⟩:=this.2 f hf
  exact⟨by omega,by omega,g3,g4⟩
end Go.Proofs.YtlogdohlcdhepaaDoor.base
end
section
set_option maxRecDepth 100000
namespace Go.Proofs.YtlogdohlcdhepaaDoor.base
open Go.Sh gen
abbrev Tg:=Nat→Nat
variable {T T':Tg}{m m1 m2:Mem}{i:Nat}{is js:List Nat}
def Ag (T T':Tg)(m:Mem):Prop:=∀ f,f < m.next→T' f=T f
def KT (T:Tg)(is:List Nat)(m m1:Mem):Prop:=∃ fs,Zaa m m1 fs∧∀ f∈fs,f < m.next→T f∈is
def DQ (T:Tg)(m:Mem)(f:Nat):Prop:=T f=0∧f < m.next
def Zes (T:Tg)(i:Nat)(m:Mem)(b:Nat)(cells:List Value)(e:TypeId):Prop:=∃ fam,Own m b cells e fam∧T fam=i
def SlT (T:Tg)(i:Nat)(m:Mem)(ao:Option Addr)(n:Nat)(cells:List Value)(e z:Nat):Prop:=∃ fam,Sl m ao n cells e z fam∧(ao≠none→T fam=i)
def SrT (T:Tg)(i:Nat)(m:Mem)(ao:Option Addr)(n:Nat)(cells:List Value)(e z:Nat):Prop:=∃ fam,Sr m ao n cells e z fam∧(ao≠none→T fam=i)
theorem Ag.refl:Ag T T m:=fun _ _=>rfl
theorem Ag.trans {T2:Tg}(h:Ag T T' m)(k:Ag T' T2 m1)(hn:m.next≤m1.next):Ag T T2 m:=fun f hf=>(k f (by omega)).trans (h f hf)
theorem KT.le (k:KT T is m m1):m.next≤m1.next:=by obtain⟨fs,kk,_⟩:=k;exact kk.1
theorem KT.refl:KT T is m m:=⟨[],.refl _ _,by simp⟩
theorem KT.of (k:Zaa m m1 []):KT T is m m1:=⟨[],k,by simp⟩
theorem KT.mono (k:KT T is m m1)(h:∀ t∈is,t∈js):KT T js m m1:=by
 obtain⟨fs,kk,hf⟩:=k
 exact⟨fs,kk,fun f h1 h2=>h _ (hf f h1 h2)⟩
theorem KT.trans (h:KT T is m m1)(a:Ag T T' m)(k:KT T' is m1 m2):KT T is m m2:=by
 obtain⟨fs,kk,hf⟩:=h
 obtain⟨gs,kk2,hg⟩:=k
 refine⟨fs++gs,(kk.mono (fun q hq=>List.mem_append_left _ hq)).trans (kk2.mono (fun q hq=>List.mem_append_right _ hq)),fun f hm hl=>?_⟩
 rcases List.mem_append.1 hm with hm | hm
 ·exact hf f hm hl
 ·rw [← a f hl];exact hg f hm (by have:=kk.1;omega)
theorem Zes.keep {b e:Nat}{cells:List Value}(h:Zes T i m b cells e)(k:KT T is m m1)(a:Ag T T' m)(hi:i∉is):Zes T' i m1 b cells e:=by
 obtain⟨fam,o,rfl⟩:=h
 obtain⟨fs,kk,hf⟩:=k
 exact⟨fam,o.keep kk (fun hm=>hi (hf _ hm o.flt)),a _ o.flt⟩
theorem SlT.keep {ao:Option Addr}{n e z:Nat}{cells:List Value}(h:SlT T i m ao n cells e z)(k:KT T is m m1)(a:Ag T T' m)(hi:i∉is):SlT T' i m1 ao n cells e z:=by
 obtain⟨fam,s,ht⟩:=h
 obtain⟨fs,kk,hf⟩:=k
 exact⟨fam,s.keepz kk (fun hn hm=>hi (by rw [← ht hn];exact hf _ hm (s.sr.flt hn))),fun hn=>(a _ (s.sr.flt hn)).trans (ht hn)⟩
theorem SrT.keep {ao:Option Addr}{n e z:Nat}{cells:List Value}(h:SrT T i m ao n cells e z)(k:KT T is m m1)(a:Ag T T' m)(hi:i∉is):SrT T' i m1 ao n cells e z:=by
 obtain⟨fam,s,ht⟩:=h
 obtain⟨fs,kk,hf⟩:=k
 exact⟨fam,s.keep kk (fun hn hm=>hi (by rw [← ht hn];exact hf _ hm (s.flt hn))),fun hn=>(a _ (s.flt hn)).trans (ht hn)⟩
theorem Zlp {t:Ty}{d:t.D}{cs:List Value}(h:AtQ (DQ T m) m t d cs)(k:KT T is m m1)(a:Ag T T' m)(hi:0∉is):AtQ (DQ T' m1) m1 t d cs:=by
 obtain⟨fs,kk,hf⟩:=k
 have hn:=kk.1
 exact (h.keep kk (fun f hm hq=>hi (by rw [← hq.1];exact hf f hm hq.2))).mono (fun f hq=>⟨(a f hq.2).trans hq.1,by have:=hq.2;omega⟩)
theorem Zap {ao:Option Addr}{l:List Int}(h:Za2 (DQ T m) m ao l)(k:KT T is m m1)(a:Ag T T' m)(hi:0∉is):Za2 (DQ T' m1) m1 ao l:=by
 obtain⟨fs,kk,hf⟩:=k
 have hn:=kk.1
 obtain⟨f,hr,hq⟩:=h
 have hq':l.length≠0→f∉fs:=fun hz hm=>hi (by rw [← (hq hz).1];exact hf f hm (hq hz).2)
 exact⟨f,hr.keep0 kk hq',fun hz=>⟨(a f (hq hz).2).trans (hq hz).1,by have:=(hq hz).2;omega⟩⟩
theorem Znh (T:Tg)(i:Nat){cs:List Value}{e:TypeId}{m1:Mem}(hr:m.new cs e=m1):∃ T',Ag T T' m∧Zes T' i m1 m.next cs e∧Zaa m m1 []∧m.next < m1.next∧∀ f,T' f=T f∨T' f=i:=by
 obtain⟨o,k,n⟩:=Zat hr
 exact⟨fun f=>if f=m.next then i else T f,fun f hf=>if_neg (by omega),⟨_,o,if_pos rfl⟩,k,n,fun f=>by simp only;split <;> simp⟩
theorem Zc6 {l off:Nat}{cells vs:List Value}{e:TypeId}{r:Option Mem}(hr:Zaf m ⟨l,off,none⟩ vs=r)(h:Zes T i m l cells e)(hk:off+vs.length≤cells.length)(h1:vs.all one=true) :
  ∃ m1,r=some m1∧Zes T i m1 l (Zbr cells off vs) e∧KT T [i] m m1:=by
 obtain⟨fam,o,ht⟩:=h
 obtain⟨m1,h2,o1,k⟩:=Zaj hr o hk h1
 exact⟨m1,h2,⟨fam,o1,ht⟩,[fam],k,by simp;intro _;exact ht⟩
section
variable {P:Program}
theorem Z54 {ty e e0:TypeId}{z bt n k:Nat}{ao:Option Addr}{cells news cs:List Value}{r:Option (Value × Mem)}(hr:Zan P ty (m.new cs e0) (.slice ao n n) news k=r)(ht:P.underlying ty=some (.slice e))(ha:Zj9 P e z bt=true)
  (h:SlT T i m ao n cells e z) (hk:k≠0) (hnews:news.length=k * z) (h1:news.all one=true) (hb:(n+k) * bt≤140737488355328) (h63:n+k≤9223372036854775807) :
  ∃ m1 b' T',r=some (.slice (some ⟨b',0,none⟩) (n+k) (n+k),m1)∧SlT T' i m1 (some ⟨b',0,none⟩) (n+k) (cells++news) e z∧Ag T T' m∧KT T [i] m m1∧∀ f,T' f=T f∨T' f=i:=by
 obtain⟨fam,s,htg⟩:=h
 obtain⟨m1,b',fam',h2,o,kk,hf,hlt,hne⟩:=Zg6 hr ht ha s hk hnews h1 hb h63
 refine⟨m1,b',fun f=>if m.next≤f then i else T f,h2,⟨fam',Sl.of o (by rw [List.length_append,Nat.add_mul,s.1,hnews]),fun _=>?_⟩,fun f hf=>if_neg (by omega),⟨_,kk,fun f hm hl=>?_⟩,fun f=>by simp only;split <;> simp⟩
 ·rcases hf with⟨hn,e⟩ | hn
  ·simp only
   split
   ·rfl
   ·rw [e];exact htg hn
  ·simp only [if_pos hn]
 ·split at hm
  ·simp at hm
  ·rename_i hn
   simp at hm
   rw [hm]
   simpa using htg hn
theorem Z3i {ty e e0:TypeId}{z bt n k:Nat}{ao:Option Addr}{cells news cs:List Value}{r:Option (Value × Mem)}(hr:Zan P ty (m.new cs e0) (.slice ao n n) news k=r)(ht:P.underlying ty=some (.slice e))(ha:Zj9 P e z bt=true)
  (h:SrT T i m ao n cells e z) (hk:k≠0) (hnews:news.length=k * z) (h1:news.all one=true) (hb:(n+k) * bt≤140737488355328) (h63:n+k≤9223372036854775807) :
  ∃ m1 ao' T',r=some (.slice ao' (n+k) (n+k),m1)∧SrT T' i m1 ao' (n+k) (cells++news) e z∧ao'≠none∧Ag T T' m∧KT T [i] m m1∧∀ f,T' f=T f∨T' f=i:=by
 obtain⟨fam,s,htg⟩:=h
 obtain⟨m1,a',fam',h2,o,kk,hf,hne1,hfe⟩:=Zj1 hr ht ha s hk hnews h1 hb h63
 refine⟨m1,a',fun f=>if m.next≤f then i else T f,h2,⟨fam',o,fun _=>?_⟩,hne1,fun f hf=>if_neg (by omega),⟨_,kk,fun f hm hl=>?_⟩,fun f=>by simp only;split <;> simp⟩
 ·rcases hf with⟨hn,e⟩ | hn
  ·simp only
   split
   ·rfl
   ·rw [e];exact htg hn
  ·simp only [if_pos hn]
 ·split at hm
  ·simp at hm
  ·rename_i hn
   simp at hm
   rw [hm]
   simpa using htg hn
end
def Zig (T:Tg)(m:Mem)(e:TypeId)(t:Ty)(l:List t.D)(ao:Option Addr)(i:Nat):Prop:=
 ∃ css:List (List Value),css.length=l.length∧(∀ (j:Nat) d c,l[j]?=some d→css[j]?=some c→AtQ (DQ T m) m t d c)∧SlT T i m ao l.length css.flatten e t.size
theorem Zig.keep {e:TypeId}{t:Ty}{l:List t.D}{ao:Option Addr}(h:Zig T m e t l ao i)(k:KT T is m m1)(a:Ag T T' m)(hi:i∉is)(h0:0∉is):Zig T' m1 e t l ao i:=by
 obtain⟨css,h1,h2,h3⟩:=h
 exact⟨css,h1,fun j d c hd hc=>Zlp (h2 j d c hd hc) k a h0,h3.keep k a hi⟩
theorem Zig.nil (T:Tg)(m:Mem)(e:TypeId)(t:Ty)(i:Nat):Zig T m e t [] none i:=⟨[],rfl,by simp,0,Sl.nil _ _ _ _,by simp⟩
theorem AtQ.len {Q:Nat→Prop}{t:Ty}{d:t.D}{c:List Value}(h:AtQ Q m t d c):c.length=t.size:=h.at_.len
section
variable {P:Program}
theorem Zig.app {ty e e0:TypeId}{t:Ty}{bt:Nat}{ao:Option Addr}{l:List t.D}{d:t.D}{c:List Value}{cs:List Value}{r:Option (Value × Mem)}(h:Zig T m e t l ao i)(hi:i≠0)(hd:AtQ (DQ T m) m t d c)(hr:Zan P ty (m.new cs e0) (.slice ao l.length l.length) c 1=r)(ht:P.underlying ty=some (.slice e))(ha:Zj9 P e t.size bt=true)
  (h1:c.all one=true) (hb:(l.length+1) * bt≤140737488355328) (h63:l.length+1≤9223372036854775807) :
  ∃ m1 b' T',r=some (.slice (some ⟨b',0,none⟩) (l.length+1) (l.length+1),m1)∧Zig T' m1 e t (l++[d]) (some ⟨b',0,none⟩) i∧Ag T T' m∧KT T [i] m m1∧∀ f,T' f=T f∨T' f=i:=by
 obtain⟨css,h2,h3,h4⟩:=h
 obtain⟨m1,b',T',he,s,a,k,tb⟩:=Z54 hr ht ha h4 (by omega) (by rw [AtQ.len hd];omega) h1 hb h63
 refine⟨m1,b',T',he,⟨css++[c],by simp [h2],fun j d' c' hd' hc'=>?_,?_⟩,a,k,tb⟩
 ·have h0:(0:Nat)∉[i]:=by simp;omega
  by_cases hj:j < l.length
  ·rw [List.getElem?_append_left hj] at hd'
   rw [List.getElem?_append_left (by omega)] at hc'
   exact Zlp (h3 j d' c' hd' hc') k a h0
  ·have hjl:j < (l++[d]).length:=(List.getElem?_eq_some_iff.1 hd').1
   have e:j=l.length:=by simp at hjl;omega
   subst e
   rw [List.getElem?_append_right (Nat.le_refl _)] at hd'
   rw [List.getElem?_append_right (by omega),h2] at hc'
   simp at hd' hc'
   subst hd' hc'
   exact Zlp hd k a h0
 ·rw [show (l++[d]).length=l.length+1 by simp,List.flatten_append,List.flatten_singleton]
  exact s
end
theorem Zq6 {css:List (List Value)}{z p k:Nat}{v:Value}(h:∀ x∈css,x.length=z)(hp:p < css.length)(hk:k < z):Zbr css.flatten (p * z+k) [v]=(css.set p (css[p].set k v)).flatten:=by
 induction css generalizing p with
 | nil=>simp at hp
 | cons a r ih =>
  have ha:=h a (by simp)
  cases p with
  | zero =>
   simp only [Nat.zero_mul,Nat.zero_add,List.flatten_cons,List.set_cons_zero,List.getElem_cons_zero,Zbr,List.length_cons,List.length_nil]
   rw [List.take_append_of_le_length (by omega),List.drop_append_of_le_length (by omega),List.set_eq_take_append_cons_drop,if_pos (by omega)]
   simp
  | succ p =>
   have:=ih (p:=p) (fun x hx=>h x (by simp [hx])) (by simpa using hp)
   simp only [List.flatten_cons,List.set_cons_succ,List.getElem_cons_succ,Zbr,List.length_cons,List.length_nil] at this ⊢
   rw [← this,show (p+1) * z+k=a.length+(p * z+k) by rw [ha,Nat.add_mul];omega,List.take_length_add_append,show a.length+(p * z+k)+(0+1)=a.length+(p * z+k+(0+1)) by omega,List.drop_length_add_append]
   simp
end Go.Proofs.YtlogdohlcdhepaaDoor.base
end
section
set_option maxRecDepth 100000
namespace Go.Proofs.YtlogdohlcdhepaaDoor.base
open Go.Sh gen
variable {S:Zb2}{T T':Tg}{m m1 m2:Mem}{is js:List Nat}
structure Us where
 vals:List Zbj.D
 blks:List Zfk.D
 sts:List StT.D
 known:List Int
 bv:List Int
 bp:List Int
 at_:Nat
def AtT (T:Tg)(m:Mem)(ab x:Nat):Prop:=ab=0∨Zes T 9 m ab [.int .i64 x] 3
theorem AtT.keep {ab x:Nat}(h:AtT T m ab x)(k:KT T is m m1)(a:Ag T T' m)(hi:9∉is):AtT T' m1 ab x:=h.imp id (fun o=>o.keep k a hi)
structure UM (T:Tg)(m:Mem)(ub kb bb ab:Nat)(s:Us):Prop where
 u:∃ va ba sa,Zes T 1 m ub [.int .i64 1,.int .i64 2,.slice va s.vals.length s.vals.length,.slice ba s.blks.length s.blks.length,.slice sa s.sts.length s.sts.length] 34∧Zig T m 38 Zbj s.vals va 2∧Zig T m 40 Zfk s.blks ba 3∧Zig T m 67 StT s.sts sa 4
 k:∃ ka,Zes T 5 m kb [.slice ka s.known.length s.known.length] 36∧SrT T 6 m ka s.known.length (ints s.known) 3 1
 b:∃ va pa,Zes T 7 m bb [.slice va s.bv.length s.bv.length,.int .i64 0,.int .i64 0,.slice none 0 0,.slice pa s.bp.length s.bp.length,.int .i64 0] 40∧SlT T 8 m va s.bv.length (ints s.bv) 3 1∧Za2 (DQ T m) m pa s.bp
 a:AtT T m ab s.at_
structure UC (T:Tg)(m:Mem)(ub kb bb ab rb nx px sx:Nat)(ops sh:List Int)(n:Int):Prop where
 r:∃ oa sa,Zes T 10 m rb [.slice oa ops.length ops.length,.slice sa sh.length sh.length,.int .i64 n] 47∧Za2 (DQ T m) m oa ops∧Za2 (DQ T m) m sa sh
 cn:Zes T 10 m nx [.func (.func 32) #[] #[.pointer (some ⟨ab,0,none⟩),.pointer (some ⟨rb,0,none⟩)]] 86
 cp:Zes T 10 m px [.func (.func 31) #[] #[.pointer (some ⟨ub,0,none⟩),.pointer (some ⟨bb,0,none⟩)]] 85
 cs:Zes T 10 m sx [.func (.func 33) #[] #[.pointer (some ⟨ub,0,none⟩),.pointer (some ⟨nx,0,none⟩),.pointer (some ⟨kb,0,none⟩)]] 87
 z:ab≠0
variable {ub kb bb ab rb nx px sx:Nat}{ops sh:List Int}{n:Int}{s:Us}
theorem UC.keep (h:UC T m ub kb bb ab rb nx px sx ops sh n)(k:KT T is m m1)(a:Ag T T' m)(h0:0∉is)(hi:10∉is):UC T' m1 ub kb bb ab rb nx px sx ops sh n:=by
 obtain⟨oa,sa,r1,r2,r3⟩:=h.r
 exact⟨⟨oa,sa,r1.keep k a hi,Zap r2 k a h0,Zap r3 k a h0⟩,h.cn.keep k a hi,h.cp.keep k a hi,h.cs.keep k a hi,h.z⟩
structure Nq (S:Zb2):Prop where
 pick:S 16=[]
 f1:S 31=[]
 f2:S 32=[]
 f3:S 33=[]
 f4:S 34=[]
 f5:S 35=[]
 unit:S 13=[]
theorem Zhf (hS:S 16=[])(x k:Int)(hk:0 < k)(hk2:k < 4611686018427387904):Zag Tryd.prog TT S 16 [.int .i64 x,.int .i64 k] m=some (.int .i64 (x % k),m):=by
 have hx:=Int.emod_nonneg x (by omega:k≠0)
 have hx2:=Int.emod_lt_of_pos x hk
 have hk0:k≠0:=by omega
 have hw:IntKind.i64.wrap (x % k)=x % k:=Zab (by omega) (by omega)
 have e:=Zw3 x k hk
 refine Zb3 5 [9] k16 hS rfl ?_
 by_cases h:x.tmod k < 0
 ·rw [if_pos h] at e
  rw [e] at hw ⊢
  simp [hk0,h,hw]
 ·rw [if_neg h] at e
  rw [e]
  simp [hk0,h]
def Zar (ops:List Int)(k:Int)(s:Us):Us × Int:=if s.at_ < ops.length then ({ s with at_:=s.at_+1 },ops.getD s.at_ 0 % k) else (s,0)
theorem Zcg {k:Int}(hk:0 < k):0≤(Zar ops k s).2∧(Zar ops k s).2 < k:=by
 unfold Zar
 split
 ·exact⟨Int.emod_nonneg _ (by omega),Int.emod_lt_of_pos _ hk⟩
 ·exact⟨Int.le_refl _,hk⟩
theorem Zg8 (ops:List Int)(k:Int)(s:Us):∃ a,(Zar ops k s).1={ s with at_:=a }:=by
 unfold Zar
 split
 ·exact⟨_,rfl⟩
 ·exact⟨s.at_,rfl⟩
theorem UM.keep (h:UM T m ub kb bb ab s)(k:KT T is m m1)(a:Ag T T' m)(hi:∀ t∈is,9 < t):UM T' m1 ub kb bb ab s:=by
 have n:∀ t,t≤9→t∉is:=fun t ht hm=>by have:=hi t hm;omega
 obtain⟨va,ba,sa,u1,u2,u3,u4⟩:=h.u
 obtain⟨ka,k1,k2⟩:=h.k
 obtain⟨va',pa,b1,b2,b3⟩:=h.b
 exact⟨⟨va,ba,sa,u1.keep k a (n _ (by omega)),u2.keep k a (n _ (by omega)) (n _ (by omega)),u3.keep k a (n _ (by omega)) (n _ (by omega)),u4.keep k a (n _ (by omega)) (n _ (by omega))⟩,⟨ka,k1.keep k a (n _ (by omega)),k2.keep k a (n _ (by omega))⟩,⟨va',pa,b1.keep k a (n _ (by omega)),b2.keep k a (n _ (by omega)),Zap b3 k a (n _ (by omega))⟩,h.a.keep k a (n _ (by omega))⟩
theorem Zex (hN:Nq S)(h:UM T m ub kb bb ab s)(hc:UC T m ub kb bb ab rb nx px sx ops sh n)(hat:s.at_≤ops.length)(hol:ops.length≤9223372036854775807){k:Int}(hk:0 < k)(hk2:k < 4611686018427387904) :
  ∃ v m1,Zag Tryd.prog TT S 32 [.int .i64 k,.pointer (some ⟨ab,0,none⟩),.pointer (some ⟨rb,0,none⟩)] m=some (v,m1)∧v=.int .i64 (Zar ops k s).2∧UM T m1 ub kb bb ab (Zar ops k s).1∧UC T m1 ub kb bb ab rb nx px sx ops sh n∧KT T [9] m m1:=by
 obtain⟨fam,oA,tA⟩:=h.a.resolve_left hc.z
 obtain⟨oa,sa,⟨fr,oR,tR⟩,hO,hSh⟩:=hc.r
 have la:=oA.load1 (off:=0) rfl
 have lr:=oR.load1 (off:=0) rfl
 refine Zfi 5 [9] k32 hN.f2 rfl ?_
 unfold Zar
 by_cases hlt:s.at_ < ops.length
 ·have hge:¬ (ops.length:Int)≤(s.at_:Int):=by omega
  have hge':¬ ops.length≤s.at_:=by omega
  rw [if_pos hlt]
  obtain⟨x,hx⟩:∃ x,ops.getD s.at_ 0=x:=⟨_,rfl⟩
  rw [hx]
  obtain⟨A,hA⟩:∃ A,s.at_+1=A:=⟨_,rfl⟩
  have wa:IntKind.i64.wrap ((s.at_:Int)+1)=(A:Int):=by rw [Zab (by omega) (by omega)];omega
  have wb:IntKind.i64.wrap ((A:Int) - 1)=(s.at_:Int):=by rw [Zab (by omega) (by omega)];omega
  simp [-Int.natCast_add,la,lr,hge,wa]
  generalize hra:Zaf _ _ _=ra
  obtain⟨m1,rfl,oA1,kA⟩:=Zc6 hra ⟨fam,oA,tA⟩ (by simp) (by simp [Zam])
  simp [Zbr] at oA1
  have hc1:=hc.keep kA Ag.refl (by simp) (by simp)
  obtain⟨oa1,sa1,⟨fr1,oR1,_⟩,hO1,_⟩:=hc1.r
  obtain⟨fam1,oA1',tA1⟩:=oA1
  have la1:=oA1'.load1 (off:=0) rfl
  have lr1:=oR1.load1 (off:=0) rfl
  obtain⟨ob,hob,lo⟩:=hO1.get hlt
  have im:(s.at_:Int)≤9223372036854775807:=by omega
  have il:(s.at_:Int) < ops.length:=by omega
  rw [hx] at lo
  have pk:=Zhf (m:=m1) hN.pick x k hk hk2
  simp [-Int.natCast_add,la1,lr1,wb,hob,lo,im,hlt,pk]
  rw [hA]
  obtain⟨va,ba,sa',u1,u2,u3,u4⟩:=h.u
  obtain⟨ka,k1,k2⟩:=h.k
  obtain⟨va',pa,b1,b2,b3⟩:=h.b
  refine⟨⟨⟨va,ba,sa',u1.keep kA Ag.refl (by simp),u2.keep kA Ag.refl (by simp) (by simp),u3.keep kA Ag.refl (by simp) (by simp),u4.keep kA Ag.refl (by simp) (by simp)⟩,⟨ka,k1.keep kA Ag.refl (by simp),k2.keep kA Ag.refl (by simp)⟩,⟨va',pa,b1.keep kA Ag.refl (by simp),b2.keep kA Ag.refl (by simp),Zap b3 kA Ag.refl (by simp)⟩,Or.inr ⟨fam1,oA1',tA1⟩⟩,hc1,kA⟩
 ·have hge:(ops.length:Int)≤(s.at_:Int):=by omega
  have hge':ops.length≤s.at_:=by omega
  rw [if_neg hlt]
  simp [-Int.natCast_add,la,lr,hge]
  exact⟨h,hc,KT.refl⟩
abbrev Ze3 (d:Zbj.D):List Int:=d.2.2.2.2.1
theorem Zh9 {Q:Nat→Prop}{ao:Option Addr}{l:List Int}(h:Za2 Q m ao l):AtQ Q m (.slice 3 (.int .i64)) l [.slice ao l.length l.length]:=by
 obtain⟨f,hr,hq⟩:=h
 refine⟨ao,l.map fun x=>[Value.int .i64 x],f,rfl,by simp,fun i d c hd hc=>?_,?_,hq⟩
 ·rw [List.getElem?_map,hd] at hc
  simp at hc
  exact hc.symm
 ·have e:(l.map fun x=>[Value.int .i64 x]).flatten=ints l:=by
   clear hr hq
   induction l with
   | nil=>rfl
   | cons a l ih=>simp only [List.map_cons,List.flatten_cons,ih,List.cons_append,List.nil_append]
  rw [e];exact hr
theorem Zzf {Q:Nat→Prop}{d:Zbj.D}{ao:Option Addr}(h:Za2 Q m ao (Ze3 d)):AtQ Q m Zbj d (Zkr d ao):=
 ⟨[_],_,rfl,rfl,[_],_,rfl,rfl,[_],_,rfl,rfl,[_],_,rfl,rfl,[_],_,rfl,Zh9 h,[_],[],rfl,rfl,rfl⟩
def Zbi (d:Zbj.D)(s:Us):Us:={ s with vals:=s.vals++[d],bv:=s.bv++[(s.vals.length:Int)] }
set_option maxHeartbeats 1000000 in
theorem Zdy (hN:Nq S)(hT:∀ f,T f≤10)(h:UM T m ub kb bb ab s)(hnv:s.vals.length≤1000)(hbv:s.bv.length≤1000){d:Zbj.D}{aa:Option Addr}(hd:Za2 (DQ T m) m aa (Ze3 d)) :
  ∃ v m1,Zag Tryd.prog TT S 31 [.agg (Zkr d aa).toArray,.pointer (some ⟨ub,0,none⟩),.pointer (some ⟨bb,0,none⟩)] m=some (v,m1)∧v=.int .i64 (s.vals.length:Nat)∧∃ T',UM T' m1 ub kb bb ab (Zbi d s)∧Ag T T' m∧KT T [1,2,7,8] m m1∧∀ f,T' f≤10:=by
 obtain⟨T1,a1,oB,k1,n1,w1⟩:=Znh (m:=m) T 10 (cs:=Zkr d aa) (e:=38) rfl
 have kt1:KT T [] m (m.new (Zkr d aa) 38):=KT.of k1
 have h1:=h.keep kt1 a1 (by simp)
 have hd1:=Zap hd kt1 a1 (by simp)
 obtain⟨va,ba,sa,u1,u2,u3,u4⟩:=h1.u
 obtain⟨ka,q1,q2⟩:=h1.k
 obtain⟨va',pa,b1,b2,b3⟩:=h1.b
 have oA:=h1.a
 refine Zfi 5 [] k31 hN.f1 rfl ?_
 simp [-Int.natCast_add,-w31_1,Zcu b38]
 generalize m.new _ _=m1 at *
 obtain⟨fu,ou,tu⟩:=u1
 obtain⟨fb,ob,tb⟩:=oB
 have lU:=ou.load1 (off:=2) rfl
 have lB:loadRow m1 ⟨m.next,0,none⟩ 6=_:=ob.load (off:=0) 6 (by simp)
 have ew:Zao (Zkr d aa) 0 6=Zkr d aa:=rfl
 rw [ew] at lB
 have hlen:d.2.2.2.2.1.length=(Ze3 d).length:=rfl
 simp [-Int.natCast_add,-w31_2,Za u30 Ydf rfl,Za0 u30 Z6l,lU,lB]
 generalize hra:Zan _ _ _ _ _ _=ra
 obtain⟨m2,bv2,T2,rfl,r2,a2,k2,w2⟩:=Zig.app (c:=Zkr d aa) u2 (by omega) (Zzf hd1) hra u30 Yco (by simp [Zam,Zad]) (by omega) (by omega)
 clear hra
 have u12:Zes T2 1 m2 ub _ _:=Zes.keep ⟨fu,ou,tu⟩ k2 a2 (by simp)
 simp [-Int.natCast_add,-w31_2]
 generalize hrb:Zaf _ _ _=rb
 obtain⟨m3,rfl,u13,k3⟩:=Zc6 hrb u12 (by simp) (by simp [Zad])
 clear hrb
 simp [Zbr] at u13
 have ek:KT T [1,2,7,8] m m3:=(((kt1.mono (by simp)).trans a1 (k2.mono (by simp))).trans (a1.trans a2 kt1.le) (k3.mono (by simp)))
 have e2:Ag T T2 m:=a1.trans a2 kt1.le
 obtain⟨N,hN1⟩:∃ N,s.vals.length+1=N:=⟨_,rfl⟩
 have r3:=r2.keep k3 Ag.refl (by simp) (by simp)
 have b13:=(b1.keep k2 a2 (by simp)).keep k3 Ag.refl (by simp)
 have b23:=(b2.keep k2 a2 (by simp)).keep k3 Ag.refl (by simp)
 have b33:=Zap (Zap b3 k2 a2 (by simp)) k3 Ag.refl (by simp)
 have q13:=(q1.keep k2 a2 (by simp)).keep k3 Ag.refl (by simp)
 have q23:=(q2.keep k2 a2 (by simp)).keep k3 Ag.refl (by simp)
 have u33:=(u3.keep k2 a2 (by simp) (by simp)).keep k3 Ag.refl (by simp) (by simp)
 have u43:=(u4.keep k2 a2 (by simp) (by simp)).keep k3 Ag.refl (by simp) (by simp)
 have oA3:=(oA.keep k2 a2 (by simp)).keep k3 Ag.refl (by simp)
 obtain⟨fu3,ou3,tu3⟩:=u13
 obtain⟨fb3,ob3,tb3⟩:=b13
 have lU3:=ou3.load1 (off:=2) rfl
 have lB3:=ob3.load1 (off:=0) rfl
 rw [hN1] at lU3
 have wN:IntKind.i64.wrap ((N:Int) - 1)=(s.vals.length:Int):=by rw [Zab (by omega) (by omega)];omega
 simp [-Int.natCast_add,-w31_3,Za u36 bs3 rfl,Za0 u36 sz3,lU3,lB3,wN]
 generalize hra:Zan _ _ _ _ _ _=ra
 obtain⟨m4,bv4,T4,rfl,r4,a4,k4,w4⟩:=Z54 hra u36 ap3 b23 (by omega) (by simp) (by simp [Zam]) (by omega) (by omega)
 clear hra
 have b14:Zes T4 7 m4 bb _ _:=Zes.keep ⟨fb3,ob3,tb3⟩ k4 a4 (by simp)
 simp [-Int.natCast_add,-w31_3]
 generalize hrb:Zaf _ _ _=rb
 obtain⟨m5,rfl,b15,k5⟩:=Zc6 hrb b14 (by simp) (by simp [Zad])
 clear hrb
 simp [Zbr] at b15
 have u15:Zes T4 1 m5 ub _ _:=(Zes.keep ⟨fu3,ou3,tu3⟩ k4 a4 (by simp)).keep k5 Ag.refl (by simp)
 have u15c:=u15
 obtain⟨fu5,ou5,tu5⟩:=u15
 have lU5:=ou5.load1 (off:=2) rfl
 rw [hN1] at lU5
 simp [-Int.natCast_add,lU5,wN]
 refine⟨T4,⟨⟨some ⟨bv2,0,none⟩,ba,sa,?_,(r3.keep k4 a4 (by simp) (by simp)).keep k5 Ag.refl (by simp) (by simp),(u33.keep k4 a4 (by simp) (by simp)).keep k5 Ag.refl (by simp) (by simp),(u43.keep k4 a4 (by simp) (by simp)).keep k5 Ag.refl (by simp) (by simp)⟩,⟨ka,(q13.keep k4 a4 (by simp)).keep k5 Ag.refl (by simp),(q23.keep k4 a4 (by simp)).keep k5 Ag.refl (by simp)⟩,⟨some ⟨bv4,0,none⟩,pa,?_,?_,Zap (Zap b33 k4 a4 (by simp)) k5 Ag.refl (by simp)⟩,(oA3.keep k4 a4 (by simp)).keep k5 Ag.refl (by simp)⟩,e2.trans a4 ek.le,((ek.trans e2 (k4.mono (by simp))).trans (e2.trans a4 ek.le) (k5.mono (by simp))),fun f=>by have:=hT f;have:=w1 f;have:=w2 f;have:=w4 f;omega⟩
 ·simpa [Zbi] using u15c
 ·simpa [Zbi] using b15
 ·simpa [Zbi] using r4.keep k5 Ag.refl (by simp)
end Go.Proofs.YtlogdohlcdhepaaDoor.base
end
