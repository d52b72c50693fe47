/- This text tells how a program stands in a memory: its types, its functions with their code, its texts. Condition: the shapes are those of the seat. -/
import Derived.Test.YtbldiceiindbdaaGreatDoorVkK
set_option linter.unusedVariables false
set_option linter.unusedSimpArgs false
set_option maxRecDepth 100000
namespace Go.Proofs.YtbldiceiindbdaaGreatDoor.base
open Go.Sh gen
variable {S:Zed}{m:Mem}
abbrev Ix:=Int × Int × Int
abbrev ic (l:List Int):List Value:=l.map (Value.int .i64)
abbrev ixl (x:Ix):List Value:=[.int .i64 x.1,.int .i64 x.2.1,.int .i64 x.2.2]
abbrev ixv (l:List Ix):List Value:=l.flatMap ixl
theorem Zq2 (l:List Ix):(ixv l).length=l.length * 3:=by
 induction l with
 | nil=>rfl
 | cons a l ih=>simp only [ixv,List.flatMap_cons,List.length_append,List.length_cons] at ih ⊢;simp only [List.length_nil];omega
theorem Zxh {l:List Ix}{i:Nat}(h:i < l.length):Zb (ixv l) (i * 3) 3=ixl l[i]:=by
 induction l generalizing i with
 | nil=>simp at h
 | cons a l ih =>
  cases i with
  | zero=>simp [Zb,ixv]
  | succ i =>
   have:=ih (i:=i) (by simpa using h)
   simp only [Zb,ixv,List.flatMap_cons] at this ⊢
   rw [show (i+1) * 3=i * 3+3 by omega]
   simpa using this
structure Fn where
 nm:List UInt8
 ps:List Int
 res:Int
 ls:List Int
 code:List Ix
structure Fp where
 pa:Option Addr
 pf:Nat
 la:Option Addr
 lf:Nat
 ca:Option Addr
 cf:Nat
def Fn.row (f:Fn)(p:Fp):List Value:=[.string ⟨f.nm.toArray⟩,.slice p.pa f.ps.length f.ps.length,.int .i64 f.res,.slice p.la f.ls.length f.ls.length,.slice p.ca f.code.length f.code.length]
structure Zwt (m:Mem)(f:Fn)(p:Fp):Prop where
 ps:Rs m p.pa f.ps.length (ic f.ps) 3 1 p.pf
 ls:Rs m p.la f.ls.length (ic f.ls) 3 1 p.lf
 code:Rs m p.ca f.code.length (ixv f.code) 40 3 p.cf
theorem Zwt.keep {f:Fn}{p:Fp}{m1:Mem}(h:Zwt m f p)(k:Zao m m1 []):Zwt m1 f p:=⟨h.ps.keep k (by simp),h.ls.keep k (by simp),h.code.keep k (by simp)⟩
structure Fs (m:Mem)(fo:Option Addr)(F:List Fn)(R:List Fp)(fam:Nat):Prop where
 len:R.length=F.length
 at_:∀ (i:Nat) (h:i < F.length) (h2:i < R.length),Zwt m F[i] R[i]
 rs:Rs m fo F.length ((F.zip R).flatMap fun q=>q.1.row q.2) 37 5 fam
 le:F.length≤1000
theorem Fs.keep {fo:Option Addr}{F:List Fn}{R:List Fp}{fam:Nat}{m1:Mem}(h:Fs m fo F R fam)(k:Zao m m1 []):Fs m1 fo F R fam:=⟨h.len,fun i h1 h2=>(h.at_ i h1 h2).keep k,h.rs.keep k (by simp),h.le⟩
theorem Z1f (F:List Fn)(R:List Fp)(h:R.length=F.length):((F.zip R).flatMap fun q=>q.1.row q.2).length=F.length * 5:=by
 induction F generalizing R with
 | nil=>rfl
 | cons a F ih =>
  cases R with
  | nil=>simp at h
  | cons r R =>
   have:=ih R (by simpa using h)
   rw [List.zip_cons_cons,List.flatMap_cons,List.length_append,this]
   simp only [Fn.row,List.length_cons,List.length_nil];omega
theorem Z02 {F:List Fn}{R:List Fp}{i:Nat}(h:i < F.length)(h2:i < R.length):Zb ((F.zip R).flatMap fun q=>q.1.row q.2) (i * 5) 5=F[i].row R[i]:=by
 induction F generalizing R i with
 | nil=>simp at h
 | cons a F ih =>
  cases R with
  | nil=>simp at h2
  | cons r R =>
   cases i with
   | zero=>simp [Zb,Fn.row]
   | succ i =>
    have:=ih (R:=R) (i:=i) (by simpa using h) (by simpa using h2)
    simp only [Zb,List.zip_cons_cons,List.flatMap_cons] at this ⊢
    rw [show (i+1) * 5=i * 5+5 by omega]
    simpa [Fn.row] using this
theorem Fs.one {fo:Option Addr}{F:List Fn}{R:List Fp}{fam:Nat}(h:Fs m fo F R fam){i:Nat}(hi:i < F.length):∃ b p,fo=some ⟨b,0,none⟩∧Zwt m F[i] p∧∀ m',Zao m m' []→loadRow m' ⟨b,i * 5,none⟩ 5=some (F[i].row p)∧
  loadRow m' ⟨b,i * 5+1,none⟩ 1=some [.slice p.pa F[i].ps.length F[i].ps.length]∧loadRow m' ⟨b,i * 5+2,none⟩ 1=some [.int .i64 F[i].res]∧loadRow m' ⟨b,i * 5+4,none⟩ 1=some [.slice p.ca F[i].code.length F[i].code.length]:=by
 obtain⟨b,rfl,hr⟩:=h.rs.rdo (by omega)
 have h2:i < R.length:=by rw [h.len];exact hi
 refine⟨b,R[i],rfl,h.at_ i hi h2,fun m' k=>?_⟩
 have hl:=Z1f F R h.len
 have hw:=Z02 hi h2
 have g:=hr.keep k (by simp)
 refine⟨?_,?_,?_,?_⟩
 ·rw [g.load (off:=i * 5) 5 (by rw [hl];omega),hw]
 ·rw [g.load (off:=i * 5+1) 1 (by rw [hl];omega)]
  exact congrArg some (Zfg hw 1 1 (by omega))
 ·rw [g.load (off:=i * 5+2) 1 (by rw [hl];omega)]
  exact congrArg some (Zfg hw 2 1 (by omega))
 ·rw [g.load (off:=i * 5+4) 1 (by rw [hl];omega)]
  exact congrArg some (Zfg hw 4 1 (by omega))
structure Pr where
 L:List Zb0.D
 F:List Fn
 main:Int
 X:List (List UInt8)
 nN:Nat
structure Pp where
 ta:Option Addr
 fa:Option Addr
 R:List Fp
 ff:Nat
 xa:Option Addr
 xf:Nat
 na:Option Addr
def Pr.row (p:Pr)(q:Pp):List Value:=[.slice q.ta p.L.length p.L.length,.slice q.fa p.F.length p.F.length,.int .i64 p.main,.slice q.xa p.X.length p.X.length,.slice q.na p.nN p.nN]
structure Zmg (m:Mem)(p:Pr)(q:Pp):Prop where
 tb:Tb m q.ta p.L
 fs:Fs m q.fa p.F q.R q.ff
 xs:Rs m q.xa p.X.length (p.X.map fun x=>Value.string ⟨x.toArray⟩) 9 1 q.xf
theorem Zmg.keep {p:Pr}{q:Pp}{m1:Mem}(h:Zmg m p q)(k:Zao m m1 []):Zmg m1 p q:=⟨h.tb.keep k,h.fs.keep k,h.xs.keep k (by simp)⟩
def Iv (m:Mem)(ao:Option Addr)(l:List Int):Prop:=(l=[]∧SpN ao)∨∃ b of fam pre post,ao=some ⟨b,of,none⟩∧pre.length=of∧Rdo m b (ic pre++(ic l++ic post)) 3 fam
theorem Iv.keep {ao:Option Addr}{l:List Int}{m1:Mem}(h:Iv m ao l)(k:Zao m m1 []):Iv m1 ao l:=by
 rcases h with h | ⟨b,of,fam,pre,post,h1,h2,h3⟩
 ·exact Or.inl h
 ·exact Or.inr ⟨b,of,fam,pre,post,h1,h2,h3.keep k (by simp)⟩
theorem Rs.iv {ao:Option Addr}{l:List Int}{f:Nat}(h:Rs m ao l.length (ic l) 3 1 f):Iv m ao l:=by
 by_cases hn:l.length=0
 ·exact Or.inl ⟨List.length_eq_zero_iff.1 hn,h.spot⟩
 ·obtain⟨b,rfl,hr⟩:=h.rdo hn
  exact Or.inr ⟨b,0,f,[],[],rfl,rfl,by simpa [ic] using hr⟩
theorem Iv.load {ao:Option Addr}{l:List Int}(h:Iv m ao l)(hl:l≠[]):∃ b of,ao=some ⟨b,of,none⟩∧Zi1 m b 3=true∧∀ i (hi:i < l.length) m',Zao m m' []→loadRow m' ⟨b,of+i,none⟩ 1=some [.int .i64 l[i]]:=by
 rcases h with h | ⟨b,of,fam,pre,post,h1,h2,h3⟩
 ·exact absurd h.1 hl
 ·refine⟨b,of,h1,by unfold Zi1;rw [h3.blk];simp,fun i hi m' k=>(h3.keep k (by simp)).load1 ?_⟩
  rw [List.getElem?_append_right (by simp;omega)]
  simp only [ic,List.length_map,h2,Nat.add_sub_cancel_left]
  rw [List.getElem?_append_left (by simpa using hi)]
  simp [hi]
theorem Iv.drop {b of:Nat}{l:List Int}(h:Iv m (some ⟨b,of,none⟩) l)(k:Nat)(hk:k≤l.length)(hl:l≠[]):Iv m (some ⟨b,of+k,none⟩) (l.drop k):=by
 rcases h with h | ⟨b',of',fam,pre,post,h1,h2,h3⟩
 ·exact absurd h.1 hl
 ·cases h1
  refine Or.inr ⟨b,of+k,fam,pre++l.take k,post,rfl,by simp [h2];omega,?_⟩
  have e:ic (pre++l.take k)++(ic (l.drop k)++ic post)=ic pre++(ic l++ic post):=by
   simp only [ic,List.map_append,List.append_assoc]
   rw [← List.append_assoc (List.map _ (l.take k)),← List.map_append,List.take_append_drop]
  rw [e];exact h3
theorem Iv.spn {ao:Option Addr}{l:List Int}(h:Iv m ao l):SpN ao:=by
 rcases h with h | ⟨b,of,fam,pre,post,h1,h2,h3⟩
 ·exact h.2
 ·intro a e;rw [h1] at e;cases e;rfl
theorem Iv.one (b:Nat)(t:Int)(h:Own m b [.int .i64 t] 3 b):Iv m (some ⟨b,0,none⟩) [t]:=Or.inr ⟨b,0,b,[],[],rfl,rfl,by simpa [ic] using h.rdo⟩
end Go.Proofs.YtbldiceiindbdaaGreatDoor.base
